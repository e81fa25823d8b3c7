/- A finder behind a closure; the walks of the package spec: beyond, line, by the closure that finds; Get. -/
import Derived.Test.YtikjolinendfgaaSpC
import Derived.Test.YtikjolinendfgaaAr11
set_option linter.unusedVariables false
set_option linter.unusedSimpArgs false
namespace Go.Proofs.Ytikjolinendfgaa.Spe
open Go.RowKit Go.Proofs.YtikjolinendfgaaW.PrintWords Go.Proofs.YtikjolinendfgaaW.PrintLast Go.Proofs.YtikjolinendfgaaW.PrintMore Go.Proofs.Ytikjolinendfgaa.Bit Go.Proofs.Ytikjolinendfgaa.Ari

/-- symbols are found one behind the other -/
def Fnd (B : Nat → Nat) : List (List Int × Nat) → Fs → Fs → Prop
  | [], s, s' => s = s'
  | (t, i) :: ds, s, s' => Ari.Good t ∧ i < t.length ∧ (t.take i).sum.toNat ≤ keyF s t.sum.toNat ∧ keyF s t.sum.toNat < (t.take (i + 1)).sum.toNat ∧ ∃ k u, runF B 0 k (narF s t.sum.toNat (t.take i).sum.toNat (t.take (i + 1)).sum.toNat) = some u ∧ offL u.lo u.wd = none ∧ Fnd B ds u s'
theorem Fnd.snoc {B : Nat → Nat} {f : Nat} {ep : Option Addr} {w0 w' : World} {t : List Int} {i : Nat} (hg : Ari.Good t) : ∀ {ds : List (List Int × Nat)} {s s' : Fs}, Fnd B ds s s' → Got f ep 0 B w0 s' t i w' → ∃ s2, Fnd B (ds ++ [(t, i)]) s s2 ∧ FS f ep 0 B w0 s2 w'
  | [], s, s', h, hG => by
    obtain rfl : s = s' := h
    obtain ⟨h1, h2, h3, k, s2, h4, h5, h6⟩ := hG
    exact ⟨s2, ⟨hg, h1, h2, h3, k, s2, h4, h5, rfl⟩, h6⟩
  | (t', i') :: ds, s, s', h, hG => by
    obtain ⟨h1, h2, h3, h4, k, u, h5, h6, h7⟩ := h
    obtain ⟨s2, h8, h9⟩ := Fnd.snoc hg h7 hG
    exact ⟨s2, ⟨h1, h2, h3, h4, k, u, h5, h6, h8⟩, h9⟩
theorem fn_inj {f : Nat} {ep : Option Addr} {B : Nat → Nat} {w1 w2 W : World} {s s' : Fs} (h : FS f ep 0 B w1 s W) (k : FS f ep 0 B w2 s' W) : s = s' := by
  have e := h.at_.symm.trans k.at_
  obtain ⟨lo, wd, va, rd⟩ := s
  obtain ⟨lo', wd', va', rd'⟩ := s'
  simp at e
  obtain ⟨e1, e2, e3, e4⟩ := e
  obtain rfl : lo = lo' := by omega
  obtain rfl : wd = wd' := by omega
  obtain rfl : rd = rd' := by omega
  obtain rfl : va = va' := by omega
  rfl
theorem fs_grow {f : Nat} {ep : Option Addr} {B : Nat → Nat} {w W W' : World} {s : Fs} (h : FS f ep 0 B w s W) (hb : Below W.heap.size W W') : FS f ep 0 B w s W' :=
  ⟨(hb.block _ (blk_lt h.at_)).trans h.at_, h.eye.of_blocks fun k _ h0 => hb.block k (by
    rcases Nat.lt_or_ge k W.heap.size with h | h
    · exact h
    · exact absurd (Array.getElem?_eq_none h) h0), h.only.trans ⟨hb.os, hb.tape, hb.output, hb.size, fun i hi _ => hb.block i hi⟩⟩
/-- symbols were found since the state s; a variable at block bx points to the finder at block f -/
def Fdv (w : World) (f bx : Nat) (ep : Option Addr) (B : Nat → Nat) (s : Fs) (ds : List (List Int × Nat)) (W : World) : Prop :=
  ∃ s', Fnd B ds s s' ∧ RestF s' ∧ s'.rd ≤ s.rd + 14 * ds.length ∧ FS f ep 0 B w s' W ∧ W.heap[bx]? = some (.cells #[.pointer (some ⟨f, 0, none⟩)] 45 (0, 0)) ∧ bx ≠ f
section
variable {w : World} {f bx : Nat} {ep : Option Addr} {B : Nat → Nat} {s : Fs} {ds : List (List Int × Nat)} {W W' : World}
theorem Fdv.flt (h : Fdv w f bx ep B s ds W) : f < W.heap.size := by obtain ⟨s', -, -, -, h4, -⟩ := h; exact blk_lt h4.at_
theorem Fdv.only (h : Fdv w f bx ep B s ds W) : OnlyB f w W := by obtain ⟨s', -, -, -, h4, -⟩ := h; exact h4.only
theorem Fdv.grow (h : Fdv w f bx ep B s ds W) (hb : Below W.heap.size W W') : Fdv w f bx ep B s ds W' := by
  obtain ⟨s', h1, h2, h3, h4, h5, h6⟩ := h
  exact ⟨s', h1, h2, h3, fs_grow h4 hb, (hb.block _ (blk_lt h5)).trans h5, h6⟩
theorem Fdv.drew (h : Fdv w f bx ep B s ds W) : Fdv w f bx ep B s ds W.drew := h.grow ⟨rfl, rfl, rfl, Nat.le_refl _, fun _ _ => rfl⟩
set_option maxRecDepth 100000 in
set_option maxHeartbeats 1000000 in
theorem Fdv.find (h : Fdv w f bx ep B s ds W) (hn : s.rd + 14 * ds.length ≤ 1000000) (T : Nat) (t : List Int) (hr : ReadsInt W .i64 (some ⟨T, 0, none⟩) t.length t) (hT : T ≠ f) (hb : ∀ x ∈ t, -9223372036854775808 ≤ x ∧ x ≤ 9223372036854775807) (hg : Ari.Good t) (x : Int) :
    Calls Try.prog 62 #[.slice (some ⟨T, 0, none⟩) t.length t.length, .int .i64 x, .pointer (some ⟨bx, 0, none⟩)] W fun e w' => ∃ i : Nat, i < t.length ∧ e = .returned (.tuple #[.int .i64 i, .int .i64 0]) ∧ Fdv w f bx ep B s (ds ++ [(t, i)]) w' := by
  obtain ⟨s', h1, h2, h3, h4, h5, h6⟩ := h
  have c0 : W.cell? ⟨bx, 0, none⟩ = some (.pointer (some ⟨f, 0, none⟩)) := (blk_cell h5 0).trans rfl
  have h4' : FS f ep 0 B W s' W := ⟨h4.at_, h4.eye, OnlyB.refl _ _⟩
  have HG := Lib.hid (get_ok f ep 0 B W s' (some ⟨T, 0, none⟩) t.length t.length t W h4' h2.1 hr (Nat.le_refl _) hb hg (by omega) (by omega) (fun ad e => by injection e with e; subst e; exact hT))
  have HF : Hid (∀ i w', Got f ep 0 B W s' t i w' → i < t.length ∧ Fdv w f bx ep B s (ds ++ [(t, i)]) w') := fun i w' hG => by
    obtain ⟨k1, s2, k2, k3, k4, k5⟩ := hG.rest h2 hg
    obtain ⟨s3, j1, j2⟩ := Fnd.snoc hg h1 hG
    have e := fn_inj k5 j2
    subst e
    exact ⟨k1, s2, j1, k2, by rw [List.length_append, List.length_singleton]; omega, ⟨k5.at_, k5.eye, h4.only.trans k5.only⟩, (k5.only.block bx (blk_lt h5) (fun e => by injection e with e; exact h6 e)).trans h5, h6⟩
  generalize hL : t.length = tn at HG HF
  have HLL := Lib.hid hL
  clear h1 h2 h3 h4 h5 h6 h4' hr hT hb hg hn hL
  go_enter Try.func62, Try.ntmps62
  go_wp2_with fail
  refine HG.out.mono ?_
  rintro e w1 ⟨i, rfl, hG⟩
  have HR := Lib.hid (HF.out i w1 hG)
  clear hG
  go_wp2
  go_ret2
  exact ⟨i, HR.out.1, rfl, HR.out.2⟩
/-- a bit is found -/
theorem Fdv.bit (h : Fdv w f bx ep B s ds W') (hn : s.rd + 14 * ds.length ≤ 1000000) {e : Ending} (hm : MadeT evenS W' e W) (x : Int) :
    Calls Try.prog 62 #[.slice (some ⟨W'.heap.size, 0, none⟩) evenS.length evenS.length, .int .i64 x, .pointer (some ⟨bx, 0, none⟩)] W fun e w' => ∃ b : Nat, b < 2 ∧ e = .returned (.tuple #[.int .i64 b, .int .i64 0]) ∧ Fdv w f bx ep B s (ds ++ [(evenS, b)]) w' :=
  (h.grow hm.2.2.1).find hn W'.heap.size evenS hm.2.1 (by have := h.flt; omega) evenS_in evenS_good x
end
/-- the value of bits behind a leading one -/
def valB (bs : List Nat) : Nat := bs.foldl (fun a b => 2 * a + b) 1
theorem valB_snoc (bs : List Nat) (b : Nat) : valB (bs ++ [b]) = 2 * valB bs + b := by simp [valB]
theorem valB_lt {bs : List Nat} (h : ∀ b ∈ bs, b < 2) : 1 ≤ valB bs ∧ valB bs < 2 ^ (bs.length + 1) := by
  have key : ∀ n (bs : List Nat), bs.length = n → (∀ b ∈ bs, b < 2) → 1 ≤ valB bs ∧ valB bs < 2 ^ (bs.length + 1) := by
    intro n
    induction n with
    | zero => intro bs hl hb; rw [List.eq_nil_of_length_eq_zero hl]; decide
    | succ n ih =>
      intro bs hl hb
      obtain ⟨cs, c, rfl⟩ : ∃ cs c, bs = cs ++ [c] := ⟨bs.dropLast, bs.getLast (by intro e; rw [e] at hl; cases hl), (List.dropLast_concat_getLast _).symm⟩
      have h1 := ih cs (by simpa using hl) (fun b hb2 => hb b (List.mem_append_left _ hb2))
      have h2 := hb c (by simp)
      rw [valB_snoc, List.length_append, List.length_singleton, Nat.pow_succ]
      omega
  exact key _ bs rfl h
/-- what beyond finds -/
def Bey (ds : List (List Int × Nat)) (r err : Int) : Prop :=
  (∃ bs : List Nat, bs.length ≤ 14 ∧ (∀ b ∈ bs, b < 2) ∧ ds = List.replicate bs.length (evenS, 1) ++ [(evenS, 0)] ++ bs.map (fun b => (evenS, b)) ∧ r = (valB bs : Int) ∧ err = 0) ∨ (ds = List.replicate 15 (evenS, 1) ∧ r = 0 ∧ err = 70)
set_option maxRecDepth 100000 in
set_option maxHeartbeats 4000000 in
theorem beyond_get (w : World) (f bx : Nat) (ep : Option Addr) (B : Nat → Nat) (s : Fs) (ds : List (List Int × Nat)) (W : World) (h : Fdv w f bx ep B s ds W) (hn : s.rd + 14 * (ds.length + 40) ≤ 1000000) :
    Calls Try.prog 68 #[.func (.func 62) #[] #[.pointer (some ⟨bx, 0, none⟩)], .int .i64 1] W fun e w' => ∃ es r err, Bey es r err ∧ e = .returned (.tuple #[.int .i64 r, .int .i64 err]) ∧ Fdv w f bx ep B s (ds ++ es) w' := by
  have HH := Lib.hid h
  have HB := Lib.hid (bits_any 1 (by decide))
  have hl1 : lenB 1 = 1 := by decide
  rw [hl1] at HB
  clear h hl1
  go_enter Try.func68, Try.ntmps68
  go_wp2_with (go_at_call 71; refine (HB.out _).mono ?_; rintro e w1 ⟨rfl, rfl⟩)
  go_loopg [7] 15 (fun gk x W => ∃ j : Nat, j ≤ 14 ∧ gk = 15 - j ∧ x = .int .i64 j ∧ Hid (Fdv w f bx ep B s (ds ++ List.replicate j (evenS, 1)) W))
  case atStart => exact ⟨0, by omega, rfl, rfl, by show Fdv _ _ _ _ _ _ _ _; simpa using HH.out⟩
  case round =>
    obtain ⟨j, hj, rfl, rfl, HA⟩ := hrel
    have HNJ : Hid (s.rd + 14 * (ds ++ List.replicate j (evenS, 1)).length ≤ 1000000) := by show _ ≤ _; rw [List.length_append, List.length_replicate]; omega
    have dj0 : decide ((j : Int) < 0) = false := decide_eq_false (by omega)
    go_wp2_with fail
    refine (even_any _).mono ?_
    rintro e w2 hm
    have HM := Lib.hid hm
    obtain rfl := hm.1
    clear hm
    go_wp2_with fail
    refine (HA.out.bit HNJ.out HM.out 0).mono ?_
    rintro e w3 ⟨b, hb2, rfl, h3⟩
    have HA3 := Lib.hid h3
    clear h3 HM
    rcases (show b = 0 ∨ b = 1 by omega) with rfl | rfl
    · have HN2 : Hid (∀ q, q ≤ 14 → s.rd + 14 * ((ds ++ List.replicate j (evenS, 1) ++ [(evenS, 0)]).length + q) ≤ 1000000) := fun q hq => by
        simp only [List.length_append, List.length_replicate, List.length_singleton]
        omega
      go_wp2
      clear HA HNJ
      go_loopg [11, 12] (j + 1) (fun gk o x W => ∃ bs : List Nat, bs.length ≤ j ∧ gk = j + 1 - bs.length ∧ o = .int .i64 (valB bs : Nat) ∧ x = .int .i64 ((j : Int) - 1 - bs.length) ∧ Hid (∀ b ∈ bs, b < 2) ∧ Hid (Fdv w f bx ep B s (ds ++ List.replicate j (evenS, 1) ++ [(evenS, 0)] ++ bs.map (fun b => (evenS, b))) W))
      case atStart => exact ⟨[], by simp, rfl, rfl, by simp, fun b hb => (by cases hb), by show Fdv _ _ _ _ _ _ _ _; simpa using HA3.out⟩
      case round =>
        clear HA3
        obtain ⟨bs, hbl, rfl, rfl, rfl, HB2, HAq⟩ := hrel
        have hvb := valB_lt HB2.out
        obtain ⟨q, hq⟩ : ∃ q, q = bs.length := ⟨_, rfl⟩
        rw [← hq] at hbl hvb ⊢
        have HQ := Lib.hid hq
        clear hq
        by_cases hlq : q < j
        · obtain ⟨i, hi⟩ : ∃ i, i = j - 1 - q := ⟨_, rfl⟩
          have hiI : (j : Int) - 1 - q = (i : Int) := by omega
          rw [hiI]
          obtain ⟨o, ho⟩ : ∃ o, o = valB bs := ⟨_, rfl⟩
          rw [← ho] at hvb ⊢
          have ho2 : o < 32768 := by
            have h2 : 2 ^ (q + 1) ≤ 2 ^ 15 := Nat.pow_le_pow_right (by decide) (by omega)
            omega
          have HOV := Lib.hid ho
          have hi0 : (0 : Int) ≤ (i : Int) := by omega
          have hmin : min i 64 = i := by omega
          have hnq : s.rd + 14 * (ds ++ List.replicate j (evenS, 1) ++ [(evenS, 0)] ++ bs.map (fun b => (evenS, b))).length ≤ 1000000 := by
            have h := HN2.out q (by omega)
            rw [List.length_append, List.length_map, ← HQ.out]
            exact h
          have HNQ := Lib.hid hnq
          have HIJ := Lib.hid hi
          obtain ⟨zz, hzz⟩ : ∃ zz : Int, bits .and .i64 ((1 : Int) / 2 ^ i) 1 = zz := ⟨_, rfl⟩
          have hzz2 : bits .and .i64 ((1 : Int) / 2 ^ min i 64) 1 = zz := by rw [hmin]; exact hzz
          clear hi hiI ho hvb hnq
          go_upto_region 17 with fail
          go_region_held3 (fun w' => 0 ≤ w'.heap.size)
            (first | exact Nat.zero_le _)
            (first
              | (go_at_call 69; refine (even_any _).mono ?_; rintro e w2 hm; have HM := Lib.hid hm; have HA2 := Lib.hid ((show Fdv w f bx ep B s (ds ++ List.replicate j (evenS, 1) ++ [(evenS, 0)] ++ bs.map (fun b => (evenS, b))) _ from (by first | exact HAq.out | exact HAq.out.drew)).grow hm.2.2.1); obtain rfl := hm.1; clear hm)
              | (go_at_call 62; refine (HA2.out.find HNQ.out _ evenS HM.out.2.1 (Nat.ne_of_gt HAq.out.flt) evenS_in evenS_good _).mono ?_; rintro e w3 ⟨b, hb2, rfl, h3⟩; have HA3 := Lib.hid h3; have HBB := Lib.hid hb2; clear h3 hb2)
              | fail)
          have hb3 : b < 2 := HBB.out
          have eo := bits_or_one o b ho2 hb3
          have eo2 : bits .or .i64 ((o : Int) * 2) (b : Int) = ((2 * o + b : Nat) : Int) := by rw [Int.mul_comm]; exact eo
          clear hzz hzz2
          go_wp2
          go_roundg (j + 1 - (q + 1))
          case measure => have := HQ.out; omega
          case rel =>
            refine ⟨bs ++ [b], by rw [List.length_append, List.length_singleton, ← HQ.out]; omega, by rw [List.length_append, List.length_singleton, ← HQ.out], ?_, ?_, ?_, ?_⟩
            · rw [valB_snoc, ← HOV.out]
              first | rfl | (push_cast; rfl)
            · rw [List.length_append, List.length_singleton, ← HQ.out]
              congr 1
              have h1 := HIJ.out
              omega
            · intro z hz
              rcases List.mem_append.1 hz with hz | hz
              · exact HB2.out z hz
              · rw [List.mem_singleton] at hz; rw [hz]; exact hb3
            · show Fdv _ _ _ _ _ _ _ _
              rw [List.map_append, ← List.append_assoc]
              exact HA3.out
        · obtain rfl : q = j := by omega
          have hnegd : decide ((0 : Int) ≤ (q : Int) - 1 - q) = false := decide_eq_false (by omega)
          have hneg : (q : Int) - 1 - q < 0 := by omega
          have HV14 : Hid (q ≤ 14) := hj
          go_wp2
          go_ret2
          refine ⟨List.replicate bs.length (evenS, 1) ++ [(evenS, 0)] ++ bs.map (fun b => (evenS, b)), (valB bs : Int), 0, .inl ⟨bs, by rw [← HQ.out]; exact HV14.out, HB2.out, rfl, rfl, rfl⟩, rfl, ?_⟩
          rw [← HQ.out, ← List.append_assoc, ← List.append_assoc]
          exact HAq.out
    · by_cases h14 : j = 14
      · subst h14
        have HF : Hid (Fdv w f bx ep B s (ds ++ List.replicate 15 (evenS, 1)) w3) := by
          show Fdv _ _ _ _ _ _ _ _
          have h := HA3.out
          rw [List.append_assoc, ← List.replicate_succ'] at h
          exact h
        go_wp2
        go_ret2
        exact ⟨List.replicate 15 (evenS, 1), 0, 70, .inr ⟨rfl, rfl, rfl⟩, rfl, HF.out⟩
      · have h15 : (((j : Int) + 1) == 15) = false := beq_eq_false_iff_ne.2 (by omega)
        go_wp2
        go_roundg (15 - (j + 1))
        case measure => omega
        case rel => exact ⟨j + 1, by omega, rfl, by go_num, by show Fdv _ _ _ _ _ _ _ _; rw [List.replicate_succ', ← List.append_assoc]; exact HA3.out⟩
end Go.Proofs.Ytikjolinendfgaa.Spe
namespace Go.Proofs.Ytikjolinendfgaa.Spe
open Go.RowKit Go.Proofs.YtikjolinendfgaaW.PrintWords Go.Proofs.YtikjolinendfgaaW.PrintLast Go.Proofs.YtikjolinendfgaaW.PrintMore Go.Proofs.Ytikjolinendfgaa.Bit Go.Proofs.Ytikjolinendfgaa.Ari

/-- what line finds -/
inductive Lin (L : List Int) : List (List Int × Nat) → Int → Int → Prop
  | zero : Lin L [(tabS (ctx L), 0)] 0 0
  | small (m b : Nat) (h : 1 ≤ m ∧ m < 14) (hb : b < 2) : Lin L ([(tabS (ctx L), m)] ++ [(evenS, b)]) ((m : Int) * (1 - 2 * b)) 0
  | code (es : List (List Int × Nat)) (r e : Int) (h : Bey es r e) (he : e ≠ 0) : Lin L ([(tabS (ctx L), 14)] ++ es) 0 e
  | far (es : List (List Int × Nat)) (r : Int) (h : Bey es r 0) (hr : 32767 < r + 13) : Lin L ([(tabS (ctx L), 14)] ++ es) 0 70
  | big (es : List (List Int × Nat)) (r : Int) (b : Nat) (h : Bey es r 0) (hr : r + 13 ≤ 32767) (hb : b < 2) : Lin L ([(tabS (ctx L), 14)] ++ es ++ [(evenS, b)]) ((r + 13) * (1 - 2 * b)) 0
theorem bey_in {es : List (List Int × Nat)} {r e : Int} (h : Bey es r e) : 0 ≤ r ∧ r < 32768 ∧ (e = 0 ∨ e = 70) ∧ (e = 0 → 1 ≤ r) ∧ es.length ≤ 29 := by
  rcases h with ⟨bs, h1, h2, h3, h4, h5⟩ | ⟨h3, h4, h5⟩
  · have h6 := valB_lt h2
    have h7 : 2 ^ (bs.length + 1) ≤ 2 ^ 15 := Nat.pow_le_pow_right (by decide) (by omega)
    refine ⟨by omega, by omega, .inl h5, fun _ => by omega, ?_⟩
    rw [h3]
    simp only [List.length_append, List.length_replicate, List.length_singleton, List.length_map]
    omega
  · refine ⟨by omega, by omega, .inr h5, fun h => by omega, ?_⟩
    rw [h3]
    simp
theorem ret2b {a b c d : Int} (h : a = b) (k : c = d) : Ending.returned (.tuple #[.int .i64 a, .int .i64 c]) = .returned (.tuple #[.int .i64 b, .int .i64 d]) := by rw [h, k]
set_option maxRecDepth 100000 in
set_option maxHeartbeats 4000000 in
theorem line_get (w : World) (f bx : Nat) (ep : Option Addr) (B : Nat → Nat) (s : Fs) (ds : List (List Int × Nat)) (W : World) (A : Option Addr) (n c : Nat) (L : List Int) (h : Fdv w f bx ep B s ds W) (hn : s.rd + 14 * (ds.length + 80) ≤ 1000000) (hr : ReadsInt W .i64 A n L) (hc : n ≤ c) (hb : ∀ x ∈ L, -32767 ≤ x ∧ x ≤ 32767) :
    Calls Try.prog 56 #[.func (.func 62) #[] #[.pointer (some ⟨bx, 0, none⟩)], .slice A n c, .int .i64 0] W fun e w' => ∃ es r err, Lin L es r err ∧ e = .returned (.tuple #[.int .i64 r, .int .i64 err]) ∧ Fdv w f bx ep B s (ds ++ es) w' := by
  have HH := Lib.hid h
  have HCX := Lib.hid (context_any A n c L W hr hc hb)
  have HSZ := Lib.hid (fun W => size_any 0 (by decide) W)
  rw [show ((0 : Int).natAbs) = 0 from rfl] at HSZ
  have HN0 : Hid (s.rd + 14 * ds.length ≤ 1000000) := by show _ ≤ _; omega
  have HN2 : Hid (∀ t : List Int × Nat, s.rd + 14 * ((ds ++ [t]).length + 40) ≤ 1000000) := fun t => by rw [List.length_append, List.length_singleton]; omega
  have HN3 : Hid (∀ (t : List Int × Nat) (es : List (List Int × Nat)), es.length ≤ 29 → s.rd + 14 * (ds ++ [t] ++ es).length ≤ 1000000) := fun t es he => by rw [List.length_append, List.length_append, List.length_singleton]; omega
  clear h hr hb
  go_enter Try.func56, Try.ntmps56
  go_wp2_with fail
  refine HCX.out.mono ?_
  rintro e w1 ⟨rfl, rfl⟩
  go_wp2_with fail
  refine (table_any (ctx L) _ rfl _).mono ?_
  rintro e w2 hm
  have HM := Lib.hid hm
  have HA2 := Lib.hid (HH.out.grow hm.2.2.1)
  obtain rfl := hm.1
  clear hm
  go_wp2_with fail
  refine (HSZ.out _).mono ?_
  rintro e w3 ⟨rfl, rfl⟩
  go_wp2_with fail
  refine (HA2.out.find HN0.out _ (tabS (ctx L)) HM.out.2.1 (Nat.ne_of_gt HH.out.flt) (tabS_in _) (tabS_good _) 0).mono ?_
  rintro e w4 ⟨m, hm, rfl, h4⟩
  rw [tabS_len] at hm
  have HA4 := Lib.hid h4
  clear h4 HA2 HM
  rcases (show m = 0 ∨ m = 14 ∨ (1 ≤ m ∧ m < 14) by omega) with rfl | rfl | hm2
  · go_wp2
    go_ret2
    exact ⟨_, _, _, .zero, rfl, HA4.out⟩
  · clear hm
    go_wp2_with fail
    refine (HSZ.out _).mono ?_
    rintro e w5 ⟨rfl, rfl⟩
    go_wp2_with fail
    refine (beyond_get w f bx ep B s _ _ HA4.out (HN2.out _)).mono ?_
    rintro e w6 ⟨es, r, err, hbey, rfl, h6⟩
    have HA6 := Lib.hid h6
    have HBE := Lib.hid hbey
    obtain ⟨i1, i2, i3, i4, i5⟩ := bey_in hbey
    have HI5 := Lib.hid i5
    clear h6 hbey
    by_cases he : err = 0
    · subst he
      obtain ⟨R, hR⟩ := Int.eq_ofNat_of_zero_le i1
      subst hR
      obtain ⟨M, hM⟩ : ∃ M, M = R + 13 := ⟨_, rfl⟩
      have eM : (R : Int) + 14 - 1 = (M : Int) := by omega
      have eM2 : (R : Int) + 13 = (M : Int) := by omega
      have hM0 : ((M : Int) == 0) = false := beq_eq_false_iff_ne.2 (by omega)
      have HMR := Lib.hid hM
      have hMu : M ≤ 40000 := by omega
      have hRu : R ≤ 40000 := by omega
      by_cases hf : 32767 < M
      · have HFF : Hid (32767 < (R : Int) + 13) := by show _ < _; omega
        have dI : decide ((32767 : Int) < (M : Int)) = true := decide_eq_true (by omega)
        clear i1 i2 i3 i4 i5 hM eM2 hf
        go_wp2
        go_ret2
        refine ⟨_, _, _, .far es (R : Int) HBE.out HFF.out, rfl, ?_⟩
        have h := HA6.out
        simp only [List.append_assoc] at h ⊢
        exact h
      · have HNF := Lib.hid hf
        have dI : decide ((32767 : Int) < (M : Int)) = false := decide_eq_false (by omega)
        have HMU := Lib.hid (And.intro hMu hRu)
        clear i1 i2 i3 i4 i5 hM eM2 hf
        go_wp2_with fail
        refine (even_any _).mono ?_
        rintro e w7 hm7
        have HM7 := Lib.hid hm7
        obtain rfl := hm7.1
        clear hm7
        go_wp2_with fail
        refine (HA6.out.bit (HN3.out _ es HI5.out) HM7.out 0).mono ?_
        rintro e w8 ⟨b, hb2, rfl, h8⟩
        have HA8 := Lib.hid h8
        clear h8 HM7
        rcases (show b = 0 ∨ b = 1 by omega) with rfl | rfl
        · clear hb2
          go_wp2
          go_ret2
          refine ⟨_, _, 0, .big es (R : Int) 0 HBE.out (by have := HMR.out; have := HNF.out; omega) (by decide), ret2b (by have := HMR.out; push_cast; omega) rfl, ?_⟩
          have h := HA8.out
          simp only [List.append_assoc] at h ⊢
          exact h
        · clear hb2
          go_wp2
          go_ret2
          refine ⟨_, _, 0, .big es (R : Int) 1 HBE.out (by have := HMR.out; have := HNF.out; omega) (by decide), ret2b (by have := HMR.out; push_cast; omega) rfl, ?_⟩
          have h := HA8.out
          simp only [List.append_assoc] at h ⊢
          exact h
    · have he70 : err = 70 := by rcases i3 with h | h; exact absurd h he; exact h
      subst he70
      clear i1 i2 i3 i4 i5 he
      go_wp2
      go_ret2
      refine ⟨_, _, _, .code es r 70 HBE.out (by decide), rfl, ?_⟩
      have h := HA6.out
      simp only [List.append_assoc] at h ⊢
      exact h
  · have HM2 := Lib.hid hm2
    have g1 : ((m : Int) == 14) = false := beq_eq_false_iff_ne.2 (by omega)
    have g3 : ((m : Int) == 0) = false := beq_eq_false_iff_ne.2 (by omega)
    have g2 : decide ((32767 : Int) < (m : Int)) = false := decide_eq_false (by omega)
    have HN9 : Hid (s.rd + 14 * (ds ++ [(tabS (ctx L), m)]).length ≤ 1000000) := by
      have h := HN3.out (tabS (ctx L), m) [] (by decide)
      rw [List.append_nil] at h
      exact h
    have hmu : m ≤ 40000 := by omega
    clear hm hm2
    go_wp2_with fail
    refine (even_any _).mono ?_
    rintro e w7 hm7
    have HM7 := Lib.hid hm7
    obtain rfl := hm7.1
    clear hm7
    go_wp2_with fail
    refine (HA4.out.bit HN9.out HM7.out 0).mono ?_
    rintro e w8 ⟨b, hb2, rfl, h8⟩
    have HA8 := Lib.hid h8
    clear h8 HM7
    rcases (show b = 0 ∨ b = 1 by omega) with rfl | rfl
    · clear hb2
      go_wp2
      go_ret2
      refine ⟨_, _, 0, .small m 0 HM2.out (by decide), ret2b (by push_cast; omega) rfl, ?_⟩
      have h := HA8.out
      simp only [List.append_assoc] at h ⊢
      exact h
    · clear hb2
      go_wp2
      go_ret2
      refine ⟨_, _, 0, .small m 1 HM2.out (by decide), ret2b (by push_cast; omega) rfl, ?_⟩
      have h := HA8.out
      simp only [List.append_assoc] at h ⊢
      exact h
end Go.Proofs.Ytikjolinendfgaa.Spe
namespace Go.Proofs.Ytikjolinendfgaa.Spe
open Go.RowKit Go.Proofs.YtikjolinendfgaaW.PrintWords Go.Proofs.YtikjolinendfgaaW.PrintLast Go.Proofs.YtikjolinendfgaaW.PrintMore Go.Proofs.Ytikjolinendfgaa.Bit Go.Proofs.Ytikjolinendfgaa.Ari

theorem infoI : (Try.prog.info? 3).map (fun i => (i.zero, i.size, i.bytes)) = some (some (.int .i64 0), 1, 8) := by kernel_rfl
/-- what an eye reads, all of it below n -/
def EyeN (W : World) (n : Nat) (ep : Option Addr) (B : Nat → Nat) : Prop :=
  (ep = none ∧ ∀ i, B i = 0) ∨ ∃ b m O A c, ep = some ⟨b, 0, none⟩ ∧ EyeAt W b m 0 0 O A c ∧ b < n ∧ (∀ ad, A = some ad → ad.block < n) ∧ m ≤ 512 ∧ ∀ i : Nat, (B i : Int) = bitI O m i
theorem EyeN.p {W : World} {n f : Nat} {ep : Option Addr} {B : Nat → Nat} (h : EyeN W n ep B) (hf : n ≤ f) : EyeP W f ep B := by
  rcases h with h | ⟨b, m, O, A, c, h1, h2, h3, h4, h5, h6⟩
  · exact .inl h
  · exact .inr ⟨b, m, O, A, c, h1, h2, by omega, fun ad e => by have := h4 ad e; omega, h5, h6⟩
theorem EyeN.of_blocks {W W' : World} {n : Nat} {ep : Option Addr} {B : Nat → Nat} (h : EyeN W n ep B) (hb : ∀ k, k < n → W'.heap[k]? = W.heap[k]?) : EyeN W' n ep B := by
  rcases h with h | ⟨b, m, O, A, c, h1, h2, h3, h4, h5, h6⟩
  · exact .inl h
  · refine .inr ⟨b, m, O, A, c, h1, ⟨?_, ⟨h2.rd.1, h2.rd.2.1, fun h0 => ?_⟩, h2.ne⟩, h3, h4, h5, h6⟩
    · exact (hb b h3).trans h2.at_
    · obtain ⟨ad, e, hc⟩ := h2.rd.2.2 h0
      refine ⟨ad, e, fun j hj => ?_⟩
      rw [← hc j hj]
      exact World.cell?_of_block (hb _ (by rw [Bit.add_block]; exact h4 ad e))
/-- what Get finds: its lines, one behind the other -/
inductive Lns : List Int → List (List Int × Nat) → Prop
  | nil : Lns [] []
  | snoc (L : List Int) (ds es : List (List Int × Nat)) (r : Int) (h : Lns L ds) (k : Lin L es r 0) : Lns (L ++ [r]) (ds ++ es)
theorem lin_in {L : List Int} {es : List (List Int × Nat)} {r e : Int} (h : Lin L es r e) : (e = 0 ∨ e = 70) ∧ (-32767 ≤ r ∧ r ≤ 32767) ∧ es.length ≤ 40 := by
  cases h with
  | zero => exact ⟨.inl rfl, by decide, by simp⟩
  | small m b h hb => rcases (show b = 0 ∨ b = 1 by omega) with rfl | rfl <;> exact ⟨.inl rfl, by omega, by simp⟩
  | code es r e h he => have h2 := bey_in h; exact ⟨h2.2.2.1, by decide, by rw [List.length_append, List.length_singleton]; omega⟩
  | far es r h hr => have h2 := bey_in h; exact ⟨.inr rfl, by decide, by rw [List.length_append, List.length_singleton]; omega⟩
  | big es r b h hr hb =>
    have h2 := bey_in h
    refine ⟨.inl rfl, ?_, by rw [List.length_append, List.length_append, List.length_singleton, List.length_singleton]; omega⟩
    rcases (show b = 0 ∨ b = 1 by omega) with rfl | rfl <;> omega
theorem lns_in {L : List Int} {ds : List (List Int × Nat)} (h : Lns L ds) : (∀ x ∈ L, -32767 ≤ x ∧ x ≤ 32767) ∧ ds.length ≤ 40 * L.length := by
  induction h with
  | nil => exact ⟨fun x hx => (by cases hx), by simp⟩
  | snoc L ds es r h k ih =>
    have h2 := lin_in k
    refine ⟨fun x hx => ?_, by rw [List.length_append, List.length_append, List.length_singleton]; omega⟩
    rcases List.mem_append.1 hx with hx | hx
    · exact ih.1 x hx
    · rw [List.mem_singleton] at hx; rw [hx]; exact h2.2.1
theorem Fdv.rebase {w : World} {f bx : Nat} {ep : Option Addr} {B : Nat → Nat} {s : Fs} {ds : List (List Int × Nat)} {W : World} (h : Fdv w f bx ep B s ds W) : Fdv W f bx ep B s ds W := by
  obtain ⟨s', h1, h2, h3, h4, h5, h6⟩ := h
  exact ⟨s', h1, h2, h3, ⟨h4.at_, h4.eye, OnlyB.refl _ _⟩, h5, h6⟩
/-- what a round of Get holds -/
structure Gr (w : World) (f : Nat) (ep : Option Addr) (B : Nat → Nat) (s : Fs) (L : List Int) (ds : List (List Int × Nat)) (v : Value) (W : World) : Prop where
  lns : Lns L ds
  fd : Fdv W f w.heap.size ep B s ds W
  eye : EyeN W f ep B
  own : W.ownsRow (w.heap.size + 1) 3 1 v L.length (nums .i64 L)
  only : OnlyB f w W
  big : w.heap.size < W.heap.size
  flt : f < w.heap.size
section
variable {w : World} {f : Nat} {ep : Option Addr} {B : Nat → Nat} {s : Fs} {L : List Int} {ds : List (List Int × Nat)} {v : Value} {W W' : World}
theorem Gr.line {es : List (List Int × Nat)} {r e : Int} (h : Gr w f ep B s L ds v W) (hf : Fdv W f w.heap.size ep B s (ds ++ es) W') : Fdv W' f w.heap.size ep B s (ds ++ es) W' ∧ EyeN W' f ep B ∧ W'.ownsRow (w.heap.size + 1) 3 1 v L.length (nums .i64 L) ∧ OnlyB f w W' ∧ w.heap.size < W'.heap.size := by
  have ho := hf.only
  have h0 := h.flt
  have h1 := h.big
  refine ⟨hf.rebase, h.eye.of_blocks fun k hk => ho.block k (by omega) (fun e => by injection e with e; omega), own_move h.own fun j hj => ho.block j (own_lt h.own j hj) (fun e => by have := own_base h.own j hj; injection e with e; omega), h.only.trans ho, Nat.lt_of_lt_of_le h1 ho.size⟩
theorem Gr.app {W2 : World} {es : List (List Int × Nat)} {r : Int} {v' : Value} (h : Gr w f ep B s L ds v W) (hf : Fdv W f w.heap.size ep B s (ds ++ es) W') (k : Lin L es r 0) (hown : W2.ownsRow (w.heap.size + 1) 3 1 v' (L ++ [r]).length (nums .i64 (L ++ [r]))) (hb : Below (w.heap.size + 1) W' W2) :
    Gr w f ep B s (L ++ [r]) (ds ++ es) v' W2 := by
  obtain ⟨h1, h2, h3, h4, h5⟩ := h.line (r := r) (e := 0) hf
  have h0 := h.flt
  have heye : EyeN W2 f ep B := h2.of_blocks fun k hk => hb.block k (by omega)
  obtain ⟨s', j1, j2, j3, j4, j5, j6⟩ := h1
  have hat := (hb.block f (by omega)).trans j4.at_
  exact ⟨.snoc L ds es r h.lns k, ⟨s', j1, j2, j3, ⟨hat, heye.p (Nat.le_refl _), OnlyB.refl _ _⟩, (hb.block _ (by omega)).trans j5, j6⟩, heye, hown, ⟨hb.os.trans h4.os, hb.tape.trans h4.tape, hb.output.trans h4.output, Nat.le_trans h4.size hb.size, fun i hi hne => (hb.block i (by omega)).trans (h4.block i hi hne)⟩, by have := hb.size; omega, h0⟩
end
set_option maxRecDepth 100000 in
set_option maxHeartbeats 4000000 in
theorem get_steps (f : Nat) (ep : Option Addr) (B : Nat → Nat) (s : Fs) (n : Nat) (w : World) (h : FS f ep 0 B w s w) (hs : RestF s) (hE : EyeN w f ep B) (hn : n ≤ 120) (hrd : s.rd ≤ 100000) :
    Calls Try.prog 39 #[.pointer (some ⟨f, 0, none⟩), .int .i64 n] w fun e w' =>
      (∃ L ds v, L.length = n ∧ e = .returned (.tuple #[v, .int .i64 0]) ∧ Gr w f ep B s L ds v w') ∨ (e = .returned (.tuple #[.slice none 0 0, .int .i64 70]) ∧ OnlyB f w w' ∧ ∃ L ds es r, L.length < n ∧ Lns L ds ∧ Lin L es r 70 ∧ Fdv w' f w.heap.size ep B s (ds ++ es) w') := by
  have hfl : f < w.heap.size := blk_lt h.at_
  have HG0 : Hid (∀ o, o = Obj.cells #[.pointer (some ⟨f, 0, none⟩)] 45 → Gr w f ep B s [] [] (.slice none 0 0) (w.alloc o)) := fun o ho =>
    ⟨.nil, ⟨s, rfl, hs, by simp, ⟨((ba (br w) o).block _ hfl).trans h.at_, h.eye.of_blocks fun k hk h0 => (ba (br w) o).block _ (by rcases Nat.lt_or_ge k w.heap.size with h | h; exact h; exact absurd (Array.getElem?_eq_none h) h0), OnlyB.refl _ _⟩, by rw [heap_alloc_new, ho], by omega⟩,
      hE.of_blocks fun k hk => (ba (br w) o).block _ (by omega), World.ownsRow_nil _ _ _ _, World.grownBy_alloc w _ _, by simp, hfl⟩
  have hbx := fun o => (heap_alloc_new w o)
  clear h hs hE
  go_enter Try.func39, Try.ntmps39
  go_wp2
  clear hbx
  have HHH := Lib.hid hn
  go_loopg [7, 22] n (fun gk x y W => ∃ (L : List Int) (ds : List (List Int × Nat)) (v : Value), L.length ≤ n ∧ gk = n - L.length ∧ x = v ∧ y = .int .i64 L.length ∧ Hid (Gr w f ep B s L ds v W))
  case atStart => exact ⟨[], [], _, by simp, rfl, rfl, rfl, HG0.out _ rfl⟩
  case round =>
    obtain ⟨L, ds, v, hl, rfl, rfl, rfl, HG⟩ := hrel
    have hin := lns_in HG.out.lns
    obtain ⟨Av, cv, rfl, hcv, hrv⟩ := own_reads_le HG.out.own
    obtain ⟨q, hq⟩ : ∃ q, q = L.length := ⟨_, rfl⟩
    have HQ := Lib.hid hq
    by_cases hlt : L.length < n
    · have HL := Lib.hid (line_get wr f w.heap.size ep B s ds wr Av L.length cv L HG.out.fd (by omega) hrv hcv hin.1)
      rw [← hq] at HL hl hlt hcv ⊢
      clear hin hrv hq
      go_wp2_with fail
      refine HL.out.mono ?_
      rintro e w2 ⟨es, r, err, hlin, rfl, hf2⟩
      have HLI := Lib.hid hlin
      have HF2 := Lib.hid hf2
      obtain ⟨h0 | h70, -, -⟩ := lin_in hlin
      · subst h0
        obtain ⟨-, -, hown2, -, hbig⟩ := HG.out.line (r := r) (e := 0) hf2
        rw [← HQ.out] at hown2
        have hsz : w.heap.size + 1 ≤ w2.heap.size := hbig
        have hql : (L.length + 1) * 8 ≤ 140737488355328 := by have := HQ.out; omega
        have HQL := Lib.hid hql
        have HOW : Hid (w2.ownsRow (w.heap.size + 1) 3 1 (.slice Av q cv) L.length (nums .i64 L)) := by show World.ownsRow _ _ _ _ _ _ _; rw [← HQ.out]; exact hown2
        clear hlin hf2 hown2 hbig hql
        go_wp2_with (at_builtin; go_loud (refine print_append_num (w0 := w2) (w.heap.size + 1) rfl (.tmp 33) (.tmp 35) 29 3 .i64 8 rfl Try.underlying29 infoI (by decide) (.slice Av q cv) L r rfl rfl HOW.out (Below.refl _ _) hsz HQL.out ?_); intro v6 w6 hown6 hb6 hg6 hat6; have HG6 := Lib.hid (HG.out.app HF2.out HLI.out hown6 hb6); clear hown6 hb6 hg6 hat6)
        go_roundg (n - (q + 1))
        case measure => have := HQ.out; omega
        case rel => exact ⟨L ++ [r], ds ++ es, v6, by rw [List.length_append, List.length_singleton, ← HQ.out]; omega, by rw [List.length_append, List.length_singleton, ← HQ.out], rfl, by rw [List.length_append, List.length_singleton, ← HQ.out]; first | rfl | (push_cast; rfl), HG6⟩
      · subst h70
        obtain ⟨hfd, -, -, honly, -⟩ := HG.out.line (r := r) (e := 70) hf2
        have HR := Lib.hid (And.intro hfd honly)
        clear hlin hf2 hfd honly
        go_wp2
        go_ret2
        exact .inr ⟨rfl, HR.out.2, L, ds, es, r, by rw [← HQ.out]; exact hlt, HG.out.lns, HLI.out, HR.out.1⟩
    · have hqn : q = n := by omega
      rw [← hq]
      subst hqn
      clear hin hrv hq
      go_wp2
      go_ret2
      exact .inl ⟨L, ds, .slice Av q cv, HQ.out.symm, rfl, by rw [HQ.out]; exact HG.out⟩
end Go.Proofs.Ytikjolinendfgaa.Spe
