/- Steps: what is found against what was put; the walk of the statement SpecBack. -/
import Derived.Test.YtikjolinendfgaaSpG
import Derived.Test.YtikjolinendfgaaAr26
set_option linter.unusedVariables false
set_option linter.unusedSimpArgs false
namespace Go.Proofs.Ytikjolinendfgaa.Spe
open Go.RowKit Go.Proofs.YtikjolinendfgaaW.PrintWords Go.Proofs.YtikjolinendfgaaW.PrintLast Go.Proofs.YtikjolinendfgaaW.PrintMore Go.Proofs.Ytikjolinendfgaa.Bit Go.Proofs.Ytikjolinendfgaa.Ari

theorem only_b {f n : Nat} {W W' : World} (h : OnlyB f W W') (h1 : n ≤ f) (h2 : n ≤ W.heap.size) : Below n W W' := ⟨h.os, h.tape, h.output, h.size, fun i hi => h.block i (by omega) (fun e => by injection e with e; omega)⟩
theorem lastN_le (L : List Int) : ∀ n, lastN L n ≤ n
  | 0 => Nat.le_refl _
  | n + 1 => by
    show (if rd L (n : Int) = 0 then lastN L n else n + 1) ≤ n + 1
    have := lastN_le L n
    split <;> omega
set_option maxRecDepth 100000 in
set_option maxHeartbeats 2000000 in
theorem any_walk (A0 : Option Addr) (n0 c0 : Nat) (l0 : List Int) (N : Nat) (w : World) (hN : N < 256) (r0 : ReadsInt w .u8 A0 n0 l0) (hl0 : ∀ x ∈ l0, 0 ≤ x ∧ x ≤ 255) (y0 : n0 ≤ 140737488351232) :
    Calls Try.prog 10 #[.slice A0 n0 c0, .int .u8 N] w fun e w' => e = .returned (.bool true) ∧ Below w.heap.size w w' := by
  have HR0 := Lib.hid r0
  have hn0 : l0.length = n0 := r0.1
  have HN0 := Lib.hid hn0
  clear r0 hn0
  by_cases h0 : 512 < n0
  · go_enter Try.func10, Try.ntmps10
    go_wp2_with fail
    refine (alive _).mono ?_
    rintro e w1 ⟨rfl, hb1⟩
    go_wp2
    go_ret
    exact ⟨rfl, hb1⟩
  by_cases h1 : 120 < N
  · go_enter Try.func10, Try.ntmps10
    go_wp2_with fail
    refine (alive _).mono ?_
    rintro e w1 ⟨rfl, hb1⟩
    go_wp2
    go_ret
    exact ⟨rfl, hb1⟩
  obtain ⟨O, hO⟩ := bytes_bits l0 hl0
  have HO := Lib.hid hO
  clear hO hl0
  go_enter Try.func10, Try.ntmps10
  go_wp2_with fail
  refine (alive _).mono ?_
  rintro e w1 ⟨rfl, hb1⟩
  go_wp2_with fail
  refine (open_yes A0 n0 c0 O _ (by omega) (by have h := HR0.out.below hb1; rw [← HO.out, HN0.out] at h; exact h)).mono ?_
  rintro e w3 ⟨b, A', c', rfl, hE, hb3, hbs, hbl⟩
  have hEP := eye_p hE hbl (by omega)
  have HB3 : Hid (Below w.heap.size w w3) := hb1.trans (hb3.mono hb1.size)
  have hEN : EyeN w3 w3.heap.size (some ⟨b, 0, none⟩) (fun i => (bitI O n0 i).toNat) := by
    have hb := blk_lt hE.at_
    refine .inr ⟨b, n0, O, A', c', rfl, hE, hb, fun ad e => by have := hbl ad e; omega, by omega, fun i => ?_⟩
    show (((bitI O n0 i).toNat : Nat) : Int) = _
    have : 0 ≤ bitI O n0 i := by
      unfold bitI
      split
      · omega
      · decide
    omega
  generalize (fun i : Nat => (bitI O n0 i).toNat) = B at hEP hEN
  have HEN := Lib.hid hEN
  clear hE hbs hbl hb3 hb1 hEN
  go_wp2_with fail
  refine (newFinder_any _ B 0 0 rfl (by omega) _ hEP).mono ?_
  rintro e w4 ⟨rfl, hF, hlt⟩
  have hv16 := vN_lt (fr := 0) hEP.le 16
  have hFS := fs0 hF
  have HFS : Hid (FS w3.heap.size (some ⟨b, 0, none⟩) 0 B w4 ⟨0, 65536, vN B 0 16, 16⟩ w4) := ⟨hFS.at_, hFS.eye, OnlyB.refl _ _⟩
  have HRE : Hid (RestF ⟨0, 65536, vN B 0 16, 16⟩) := rest0 (by rw [show (65536 : Nat) = 2 ^ 16 from rfl]; exact hv16)
  have HE4 : Hid (EyeN w4 w3.heap.size (some ⟨b, 0, none⟩) B) := HEN.out.of_blocks fun k hk => hF.only.block k hk (fun e => by injection e with e; omega)
  have HB4 : Hid (Below w.heap.size w w4) := HB3.out.trans ((only_below hF.only (Nat.le_refl _)).mono HB3.out.size)
  have HSZ : Hid (w.heap.size ≤ w3.heap.size ∧ w.heap.size ≤ w4.heap.size) := ⟨HB3.out.size, HB4.out.size⟩
  have hN120 : N ≤ 120 := by omega
  have hrd : (⟨0, 65536, vN B 0 16, 16⟩ : Fs).rd ≤ 100000 := by show 16 ≤ 100000; decide
  generalize (⟨0, 65536, vN B 0 16, 16⟩ : Fs) = fs at HFS HRE hrd
  have HRD := Lib.hid hrd
  clear hF hFS hlt hEP hv16 HEN hrd
  go_wp2_with fail
  refine (get_steps w3.heap.size (some ⟨b, 0, none⟩) B fs N w4 HFS.out HRE.out HE4.out hN120 HRD.out).mono ?_
  rintro e w5 (⟨L, ds, v, hL, rfl, hG⟩ | ⟨rfl, hO5, -⟩)
  · have HB5 : Hid (Below w.heap.size w w5) := HB4.out.trans (only_b hG.only HSZ.out.1 HSZ.out.2)
    have hin := lns_in hG.lns
    obtain ⟨A5, c5, rfl, hc5, hr5⟩ := own_reads_le hG.own
    have hm : mayS N L = 0 := mayS_ok.2 ⟨hN120, hin.1⟩
    rw [hL] at hr5 hc5 ⊢
    have HR5 := Lib.hid hr5
    have HC := Lib.hid (cost_good A5 N c5 L w5 hr5 hc5 hm)
    have hlast := lastN_le L N
    clear hin hr5 hm hG hL
    go_wp2_with fail
    refine HC.out.mono ?_
    rintro e w6 ⟨⟨s', -, -, rfl⟩, hb6⟩
    have HB6 := Lib.hid (bt HB5.out hb6)
    have HLA := Lib.hid (last_any A5 N c5 L w6 (HR5.out.below hb6))
    obtain ⟨R, hR⟩ : ∃ R, R = lastN L N := ⟨_, rfl⟩
    rw [← hR] at HLA hlast
    clear hb6 HC hR
    go_wp2_with fail
    refine HLA.out.mono ?_
    rintro e w7 ⟨rfl, rfl⟩
    go_wp2
    go_ret
    exact ⟨rfl, HB6.out⟩
  · have HB5 : Hid (Below w.heap.size w w5) := HB4.out.trans (only_b hO5 HSZ.out.1 HSZ.out.2)
    clear hO5
    go_wp2
    go_ret
    exact ⟨rfl, HB5.out⟩
theorem any_of (A0 : Option Addr) (n0 c0 : Nat) (a : Int) (w : World) (h0 : ∃ l : List Int, l.length = n0 ∧ ReadsInt w .u8 A0 n0 l ∧ (∀ x ∈ l, 0 ≤ x ∧ x ≤ 255) ∧ n0 ≤ c0) (y0 : n0 * 1 ≤ 140737488351232) (h2 : (Lit.int .u8 a).wf = true) :
    Calls Try.prog 10 #[.slice A0 n0 c0, .int .u8 a] w fun e w' => e = .returned (.bool true) ∧ Below w.heap.size w w' := by
  obtain ⟨l, e, hr, hl, -⟩ := h0
  have h5 : IntKind.u8.min ≤ a ∧ a ≤ IntKind.u8.max := by simpa [Lit.wf] using h2
  have h6 : 0 ≤ a ∧ a ≤ 255 := h5
  obtain ⟨N, rfl⟩ := Int.eq_ofNat_of_zero_le h6.1
  exact any_walk A0 n0 c0 l N w (by omega) hr hl (by omega)
end Go.Proofs.Ytikjolinendfgaa.Spe
namespace Go.Proofs.Ytikjolinendfgaa.Spe
open Go.RowKit Go.Proofs.YtikjolinendfgaaW.PrintWords Go.Proofs.YtikjolinendfgaaW.PrintLast Go.Proofs.YtikjolinendfgaaW.PrintMore Go.Proofs.Ytikjolinendfgaa.Bit Go.Proofs.Ytikjolinendfgaa.Ari

/-- what is found and what was put, from the same place on -/
def Ali (B : Nat → Nat) (fe : Fs) (se : St) (ds es : List (List Int × Nat)) : Prop := ∃ u f1, Fnd B ds f1 fe ∧ Q.Enc es u se ∧ Ari.Rest u ∧ Q.Dec B u f1
section
variable {B : Nat → Nat} {fe : Fs} {se : St}
theorem ali_cons (hB : ∀ i, B i ≤ 1) (hf : Q.Fit B se) {t : List Int} {i i' : Nat} {ds es : List (List Int × Nat)} (h : Ali B fe se ((t, i) :: ds) ((t, i') :: es)) : i = i' ∧ Ali B fe se ds es := by
  obtain ⟨u, f1, h1, h2, hr, hd⟩ := h
  obtain ⟨g1, g2, g3, g4, k, f2, g5, g6, g7⟩ := h1
  obtain ⟨hg, hi, k', u', h3, h4⟩ := h2
  have hc := cut_in hg hi hr
  have hfu := Q.Enc.fit hB h4 (Wid.rest h3 hc.1) hf
  have hfc := Q.fit_run hB h3.1 hfu
  obtain ⟨m1, m2, m3⟩ := Q.found hg hi hr hd hfc
  have e : i = i' := by
    rcases Nat.lt_trichotomy i i' with h | h | h
    · exfalso; have := Q.take_lt hg h (by omega); omega
    · exact h
    · exfalso; have := Q.take_lt hg h (by omega); omega
  subst e
  obtain ⟨f3, r1, r2⟩ := Q.dec_run hB h3.1 hfu m3
  have hou : offL f3.lo f3.wd = none := by rw [r2.1, r2.2.1]; exact h3.2
  obtain rfl := Q.runF_det B 0 g5 g6 r1 hou
  exact ⟨rfl, u', f2, g7, h4, Wid.rest h3 hc.1, r2⟩
theorem ali_rep (hB : ∀ i, B i ≤ 1) (hf : Q.Fit B se) : ∀ {n k : Nat} {a b : List (List Int × Nat)}, Ali B fe se (List.replicate n (evenS, 1) ++ (evenS, 0) :: a) (List.replicate k (evenS, 1) ++ (evenS, 0) :: b) → n = k ∧ Ali B fe se a b
  | 0, 0, a, b, h => ⟨rfl, (ali_cons hB hf h).2⟩
  | 0, k + 1, a, b, h => by
    have h1 := (ali_cons hB hf (show Ali B fe se ((evenS, 0) :: a) ((evenS, 1) :: (List.replicate k (evenS, 1) ++ (evenS, 0) :: b)) from h)).1
    omega
  | n + 1, 0, a, b, h => by
    have h1 := (ali_cons hB hf (show Ali B fe se ((evenS, 1) :: (List.replicate n (evenS, 1) ++ (evenS, 0) :: a)) ((evenS, 0) :: b) from h)).1
    omega
  | n + 1, k + 1, a, b, h => by
    have h1 := (ali_cons hB hf (show Ali B fe se ((evenS, 1) :: (List.replicate n (evenS, 1) ++ (evenS, 0) :: a)) ((evenS, 1) :: (List.replicate k (evenS, 1) ++ (evenS, 0) :: b)) from h)).2
    have h2 := ali_rep hB hf h1
    exact ⟨by rw [h2.1], h2.2⟩
theorem ali_long (hB : ∀ i, B i ≤ 1) (hf : Q.Fit B se) : ∀ {n k : Nat} {a b : List (List Int × Nat)}, k < n → Ali B fe se (List.replicate n (evenS, 1) ++ a) (List.replicate k (evenS, 1) ++ (evenS, 0) :: b) → False
  | n + 1, 0, a, b, _, h => by
    have h1 := (ali_cons hB hf (show Ali B fe se ((evenS, 1) :: (List.replicate n (evenS, 1) ++ a)) ((evenS, 0) :: b) from h)).1
    omega
  | n + 1, k + 1, a, b, hk, h => by
    have h1 := (ali_cons hB hf (show Ali B fe se ((evenS, 1) :: (List.replicate n (evenS, 1) ++ a)) ((evenS, 1) :: (List.replicate k (evenS, 1) ++ (evenS, 0) :: b)) from h)).2
    exact ali_long hB hf (by omega) h1
theorem ali_bits (hB : ∀ i, B i ≤ 1) (hf : Q.Fit B se) : ∀ {xs ys : List Nat} {a b : List (List Int × Nat)}, xs.length = ys.length → Ali B fe se (xs.map (fun b => (evenS, b)) ++ a) (ys.map (fun b => (evenS, b)) ++ b) → xs = ys ∧ Ali B fe se a b
  | [], [], a, b, _, h => ⟨rfl, h⟩
  | x :: xs, y :: ys, a, b, hl, h => by
    obtain ⟨h1, h2⟩ := ali_cons hB hf (show Ali B fe se ((evenS, x) :: (xs.map (fun b => (evenS, b)) ++ a)) ((evenS, y) :: (ys.map (fun b => (evenS, b)) ++ b)) from h)
    obtain ⟨h3, h4⟩ := ali_bits hB hf (by simpa using hl) h2
    exact ⟨by rw [h1, h3], h4⟩
end
/-- the lower bits of a number -/
def lowB (v k j : Nat) : List Nat := (List.range j).map fun q => v / 2 ^ (k - 1 - q) % 2
theorem tailS_low (v k j : Nat) : tailS v k j = (lowB v k j).map (fun b => (evenS, b)) := by unfold tailS lowB; rw [List.map_map]; rfl
theorem lowB_val {v k : Nat} (h : v / 2 ^ k = 1) : ∀ j, j ≤ k → valB (lowB v k j) = v / 2 ^ (k - j)
  | 0, _ => by show 1 = _; rw [Nat.sub_zero, h]
  | j + 1, hj => by
    have e : lowB v k (j + 1) = lowB v k j ++ [v / 2 ^ (k - 1 - j) % 2] := by unfold lowB; rw [List.range_succ, List.map_append]; rfl
    rw [e, valB_snoc, lowB_val h j (by omega)]
    obtain ⟨i, hi⟩ : ∃ i, i = k - (j + 1) := ⟨_, rfl⟩
    rw [← hi, show k - 1 - j = i from by omega, show k - j = i + 1 from by omega, Nat.pow_succ, ← Nat.div_div_eq_div_mul]
    omega
section
variable {B : Nat → Nat} {fe : Fs} {se : St}
theorem bey_ali (hB : ∀ i, B i ≤ 1) (hf : Q.Fit B se) {es ds rest : List (List Int × Nat)} {r e : Int} {v : Nat} (hv : 1 ≤ v ∧ v < 32768) (h : Bey es r e) (ha : Ali B fe se (es ++ ds) (symsB v ++ rest)) : r = (v : Int) ∧ e = 0 ∧ Ali B fe se ds rest := by
  have hk14 : Nat.log2 v ≤ 14 := by
    rcases Nat.lt_or_ge 14 (Nat.log2 v) with h | h
    · exfalso
      have h1 := Nat.log2_self_le (n := v) (by omega)
      have h2 : 2 ^ 15 ≤ 2 ^ Nat.log2 v := Nat.pow_le_pow_right (by decide) h
      omega
    · exact h
  have e1 : symsB v ++ rest = List.replicate (Nat.log2 v) (evenS, 1) ++ (evenS, 0) :: (tailS v (Nat.log2 v) (Nat.log2 v) ++ rest) := by unfold symsB; simp [List.append_assoc]
  rw [e1] at ha
  have hv1 : v / 2 ^ Nat.log2 v = 1 := by
    have h1 := Nat.log2_self_le (n := v) (by omega)
    have h2 := Nat.lt_log2_self (n := v)
    have h3 : 2 ^ (Nat.log2 v + 1) = 2 * 2 ^ Nat.log2 v := by rw [Nat.pow_succ, Nat.mul_comm]
    rw [h3] at h2
    exact Nat.div_eq_of_lt_le (by omega) (by omega)
  rcases h with ⟨bs, b1, b2, b3, b4, b5⟩ | ⟨b3, b4, b5⟩
  · rw [b3] at ha
    have e2 : List.replicate bs.length (evenS, 1) ++ [(evenS, 0)] ++ bs.map (fun b => (evenS, b)) ++ ds = List.replicate bs.length (evenS, 1) ++ (evenS, 0) :: (bs.map (fun b => (evenS, b)) ++ ds) := by simp [List.append_assoc]
    rw [e2] at ha
    obtain ⟨h1, h2⟩ := ali_rep hB hf ha
    rw [tailS_low] at h2
    obtain ⟨h3, h4⟩ := ali_bits hB hf (by rw [h1]; simp [lowB]) h2
    refine ⟨?_, b5, h4⟩
    rw [b4, h3, lowB_val hv1 _ (Nat.le_refl _), Nat.sub_self, Nat.pow_zero, Nat.div_one]
  · rw [b3] at ha
    exact (ali_long hB hf (by omega) ha).elim
theorem lin_ali (hB : ∀ i, B i ≤ 1) (hf : Q.Fit B se) {L : List Int} {es ds rest : List (List Int × Nat)} {r e x : Int} (hx : -32767 ≤ x ∧ x ≤ 32767) (h : Lin L es r e) (ha : Ali B fe se (es ++ ds) (symsL L x ++ rest)) : r = x ∧ e = 0 ∧ Ali B fe se ds rest := by
  have hsy : symsL L x ++ rest = (tabS (ctx L), min x.natAbs 14) :: (((if 14 ≤ x.natAbs then symsB (x.natAbs - 13) else []) ++ (if x = 0 then [] else [(evenS, if x < 0 then 1 else 0)])) ++ rest) := rfl
  rw [hsy] at ha
  cases h with
  | zero =>
    obtain ⟨h1, h2⟩ := ali_cons hB hf ha
    have h0 : x = 0 := by omega
    subst h0
    exact ⟨rfl, rfl, h2⟩
  | small m b hm hb =>
    obtain ⟨h1, h2⟩ := ali_cons hB hf ha
    rw [if_neg (by omega), if_neg (by omega)] at h2
    obtain ⟨h3, h4⟩ := ali_cons hB hf h2
    refine ⟨?_, rfl, h4⟩
    split at h3
    · subst h3; omega
    · subst h3; omega
  | code es1 r1 e1 hb he =>
    obtain ⟨h1, h2⟩ := ali_cons hB hf ha
    rw [if_pos (by omega), List.append_assoc] at h2
    exact absurd (bey_ali hB hf (by omega) hb h2).2.1 he
  | far es1 r1 hb hr =>
    obtain ⟨h1, h2⟩ := ali_cons hB hf ha
    rw [if_pos (by omega), List.append_assoc] at h2
    have h3 := (bey_ali hB hf (by omega) hb h2).1
    exfalso
    omega
  | big es1 r1 b hb hr hb2 =>
    rw [List.append_assoc, List.append_assoc] at ha
    obtain ⟨h1, h2⟩ := ali_cons hB hf ha
    rw [if_pos (by omega), if_neg (by omega), List.append_assoc] at h2
    obtain ⟨h3, -, h4⟩ := bey_ali hB hf (by omega) hb h2
    obtain ⟨h5, h6⟩ := ali_cons hB hf h4
    refine ⟨?_, rfl, h6⟩
    split at h5
    · subst h5; omega
    · subst h5; omega
theorem syms_cut (q : List Int) (n l : Nat) (h : l < n) : ∃ R, symsQ q n = symsQ q l ++ (symsL (q.take l) (rd q (l : Int)) ++ R) ∧ symsQ q n = symsQ q (l + 1) ++ R := by
  have key : ∀ j, ∃ R, symsQ q (l + 1 + j) = symsQ q (l + 1) ++ R := by
    intro j
    induction j with
    | zero => exact ⟨[], by simp⟩
    | succ j ih =>
      obtain ⟨R, hR⟩ := ih
      refine ⟨R ++ symsL (q.take (l + 1 + j)) (rd q ((l + 1 + j : Nat) : Int)), ?_⟩
      show symsQ q (l + 1 + j) ++ _ = _
      rw [hR, List.append_assoc]
      rfl
  obtain ⟨R, hR⟩ := key (n - (l + 1))
  rw [show l + 1 + (n - (l + 1)) = n from by omega] at hR
  refine ⟨R, ?_, hR⟩
  rw [hR]
  show (symsQ q l ++ symsL (q.take l) (rd q (l : Int))) ++ R = _
  rw [List.append_assoc]
theorem lns_ali (hB : ∀ i, B i ≤ 1) (hf : Q.Fit B se) {q : List Int} {n : Nat} (hq : q.length = n) (hb : ∀ x ∈ q, -32767 ≤ x ∧ x ≤ 32767) {L : List Int} {ds : List (List Int × Nat)} (h : Lns L ds) :
    ∀ ds' : List (List Int × Nat), L.length ≤ n → Ali B fe se (ds ++ ds') (symsQ q n) → L = q.take L.length ∧ ∃ R, symsQ q n = symsQ q L.length ++ R ∧ Ali B fe se ds' R := by
  induction h with
  | nil => intro ds' _ ha; exact ⟨by simp, symsQ q n, rfl, ha⟩
  | snoc L ds es r h k ih =>
    intro ds' hl ha
    rw [List.length_append, List.length_singleton] at hl
    rw [List.append_assoc] at ha
    obtain ⟨h1, R, h2, h3⟩ := ih (es ++ ds') (by omega) ha
    obtain ⟨R', h4, h5⟩ := syms_cut q n L.length (by omega)
    have h6 : R = symsL (q.take L.length) (rd q (L.length : Int)) ++ R' := by
      rw [h2] at h4
      exact List.append_cancel_left h4
    rw [h6, ← h1] at h3
    have hlq : L.length < q.length := by omega
    have hxb := hb _ (List.getElem_mem hlq)
    rw [← rd_mem q L.length hlq] at hxb
    obtain ⟨h7, -, h8⟩ := lin_ali hB hf hxb k h3
    rw [List.length_append, List.length_singleton]
    refine ⟨?_, R', h5, h8⟩
    rw [List.take_succ_eq_append_getElem hlq, ← rd_mem q L.length hlq, ← h1, h7]
end
end Go.Proofs.Ytikjolinendfgaa.Spe
namespace Go.Proofs.Ytikjolinendfgaa.Ari.Q
open Go.RowKit Go.Proofs.YtikjolinendfgaaW.PrintWords Go.Proofs.YtikjolinendfgaaW.PrintLast Go.Proofs.YtikjolinendfgaaW.PrintMore Go.Proofs.Ytikjolinendfgaa.Bit

theorem or_bit (a y j : Nat) (h : y < 2 ^ j) : (a ||| y) / 2 ^ j % 2 = a / 2 ^ j % 2 := by
  rw [← Nat.shiftRight_eq_div_pow, Nat.shiftRight_or_distrib, Nat.shiftRight_eq_div_pow, Nat.shiftRight_eq_div_pow, Nat.div_eq_of_lt h]
  simp
/-- bytes that say these bits -/
def Says (E : List Bool) (F : List Int) : Prop := rowN E.length ≤ F.length ∧ ∀ j, j < rowN E.length → ∃ x : Nat, F.getD j 0 = (x : Int) ∧ ∀ k, k < 8 → 8 * j + k < E.length → x / 2 ^ (7 - k) % 2 = (E.getD (8 * j + k) false).toNat
theorem bytesS_len (E : List Bool) : (bytesS E).length = rowN E.length := by unfold bytesS; rw [bytesL_len]
theorem bytes_in (O : Nat → Bool) (n : Nat) : ∀ x ∈ bytesL O n, 0 ≤ x ∧ x ≤ 255 := by
  intro x hx
  unfold bytesL at hx
  obtain ⟨i, -, rfl⟩ := List.mem_map.1 hx
  have := byteN_lt O i
  omega
theorem says_own (E : List Bool) : Says E (bytesS E) := by
  refine ⟨by rw [bytesS_len]; exact Nat.le_refl _, fun j hj => ⟨byteN (ofL E) j, ?_, fun k hk h => ?_⟩⟩
  · unfold bytesS
    exact bytesL_at _ _ _ hj
  · rw [byteN_div _ _ _ hk]
    rfl
theorem Says.append {E : List Bool} {F : List Int} (h : Says E F) (G : List Int) : Says E (F ++ G) := by
  refine ⟨by rw [List.length_append]; have := h.1; omega, fun j hj => ?_⟩
  obtain ⟨x, h1, h2⟩ := h.2 j hj
  refine ⟨x, ?_, h2⟩
  rw [List.getD_eq_getElem?_getD, List.getElem?_append_left (by have := h.1; omega), ← List.getD_eq_getElem?_getD]
  exact h1
theorem says_or {E : List Bool} {p r y : Nat} (hp : p + 1 = rowN E.length) (hr : r = E.length % 8) (hr0 : r ≠ 0) (hy : y < 2 ^ (8 - r)) :
    Says E ((bytesS E).set p ((byteN (ofL E) p ||| y : Nat) : Int)) := by
  have hR : 8 * p + r = E.length := by unfold rowN at hp; omega
  refine ⟨by rw [List.length_set, bytesS_len]; exact Nat.le_refl _, fun j hj => ?_⟩
  by_cases e : j = p
  · subst e
    refine ⟨byteN (ofL E) j ||| y, ?_, fun k hk h => ?_⟩
    · rw [List.getD_eq_getElem?_getD, List.getElem?_set_self (by rw [bytesS_len]; exact hj)]
      rfl
    · rw [or_bit _ _ _ (Nat.lt_of_lt_of_le hy (Nat.pow_le_pow_right (by decide) (by omega))), byteN_div _ _ _ hk]
      rfl
  · obtain ⟨x, h1, h2⟩ := (says_own E).2 j hj
    refine ⟨x, ?_, h2⟩
    rw [List.getD_eq_getElem?_getD, List.getElem?_set_ne (fun h => e h.symm), ← List.getD_eq_getElem?_getD]
    exact h1
theorem agree {E : List Bool} {F : List Int} {O : Nat → Bool} (h : Says E F) (hO : bytesL O F.length = F) (i : Nat) (hi : i < E.length) : (bitI O F.length (i : Int)).toNat = (E.getD i false).toNat := by
  have hj : i / 8 < rowN E.length := by unfold rowN; omega
  obtain ⟨x, h1, h2⟩ := h.2 (i / 8) hj
  have hjF : i / 8 < F.length := by have := h.1; omega
  have e1 : byteN O (i / 8) = x := by
    have e2 := bytesL_at O F.length (i / 8) hjF
    rw [hO, h1] at e2
    omega
  have e3 := byteN_div O (i / 8) (i % 8) (by omega)
  rw [e1, show 8 * (i / 8) + i % 8 = i from by omega, h2 (i % 8) (by omega) (by omega), show 8 * (i / 8) + i % 8 = i from by omega] at e3
  unfold bitI
  rw [if_pos (by have := h.1; unfold rowN at *; omega), Int.toNat_natCast, e3]
  rfl
theorem dec0 (B : Nat → Nat) : Dec B s0 ⟨0, 65536, vN B 0 16, 16⟩ := by
  have e : XX s0 = 32768 := by simp [XX, s0, vB]
  have e2 : steps s0 + 16 = 16 := rfl
  have e3 : s0.lo = 0 := rfl
  have e4 : s0.wd = 65536 := rfl
  refine ⟨e3.symm, e4.symm, e2.symm, ?_⟩
  rw [e, e2, e3, Nat.add_zero]
end Go.Proofs.Ytikjolinendfgaa.Ari.Q
namespace Go.Proofs.Ytikjolinendfgaa.Ari
open Go.RowKit Go.Proofs.YtikjolinendfgaaW.PrintWords Go.Proofs.YtikjolinendfgaaW.PrintLast Go.Proofs.YtikjolinendfgaaW.PrintMore Go.Proofs.Ytikjolinendfgaa.Bit
theorem fin_len2 (s : St) : (fin s).bits.length = Q.steps s + 2 := by unfold fin tellB Q.steps; simp; omega
/-- the coder is ended -/
structure Be (w0 : World) (g : Nat) (E : List Bool) (s' : St) (v vd : Value) (dn : List Sy) (W : World) : Prop where
  base : Below w0.heap.size w0 W
  c : CS W g s' true v
  own : W.ownsRow w0.heap.size 31 2 vd dn.length (syC dn)
  bits : s'.bits = E
section
variable {w0 : World} {g : Nat} {s s' : St} {v v' vd vd' : Value} {dn : List Sy} {W W' : World} {E : List Bool}
theorem Bk.endB (h : Bk w0 g s v vd dn W) (hn : Q.steps s ≤ 10000) (hE : (fin s).bits = E) :
    Calls Try.prog 20 #[.pointer (some ⟨g, 0, none⟩)] W fun e w' => e = .returned (.int .i64 0) ∧ ∃ v', Be w0 g E (fin s) v' vd dn w' :=
  (end_any g s v W h.c (by unfold Q.steps at hn; omega)).mono fun e w' ⟨h1, v', h2, h4⟩ => ⟨h1, v', h.base.trans (h4.below.mono h.hg), h2, own_move h.own fun j hj => h4.keep.2 j (own_lt h.own j hj) (fun e => h.a1 (by rw [hj, e])) (fun e => h.a3 j e.symm hj), hE⟩
theorem Be.drewN (h : Be w0 g E s' v vd dn W) (k : Nat) : Be w0 g E s' v vd dn (W.drewN k) := ⟨pw_below_drewN h.base k, CoAt.drewN h.c k, own_move h.own fun _ _ => rfl, h.bits⟩
theorem Be.drew (h : Be w0 g E s' v vd dn W) : Be w0 g E s' v vd dn W.drew := ⟨⟨h.base.os, h.base.tape, h.base.output, h.base.size, h.base.block⟩, CoAt.drew h.c, own_move h.own fun _ _ => rfl, h.bits⟩
theorem Be.kept (h : Be w0 g E s' v vd dn W) (hb : Below W.heap.size W W') : Be w0 g E s' v vd dn W' :=
  ⟨bt h.base hb, ⟨(hb.block _ (blk_lt h.c.at_)).trans h.c.at_, pw_own_below h.c.own hb, h.c.free⟩, pw_own_below h.own hb, h.bits⟩
theorem Be.lenB (h : Be w0 g E s' v vd dn W) : Calls Try.prog 22 #[.pointer (some ⟨g, 0, none⟩)] W fun e w' => e = .returned (.int .i64 E.length) ∧ w' = W := by
  have h1 := len_any g s' true v W h.c
  rw [h.bits] at h1
  exact h1
theorem Be.bitsB (h : Be w0 g E s' v vd dn W) (hn : E.length < 100000000) : Calls Try.prog 23 #[.pointer (some ⟨g, 0, none⟩)] W fun e w' => ∃ v', e = .returned v' ∧ w'.ownsRow W.heap.size 5 1 v' (bytesS E).length (nums .u8 (bytesS E)) ∧ Below W.heap.size W w' := by
  have h1 := bits_any g s' true v W h.c (by rw [h.bits]; exact hn)
  rw [h.bits] at h1
  rw [Q.bytesS_len]
  exact h1
end
/-- a row's cells -/
theorem own_cell2 {w : World} {base n size : Nat} {e : TypeId} {g cap : Nat} {xs : List Value} (h : w.ownsRow base e size (.slice (some ⟨g, 0, none⟩) n cap) n xs) (i : Nat) (x : Value) (hx : xs[i]? = some x) : w.cell? ⟨g, i, none⟩ = some x := by
  rcases h.2 with ⟨h1, -⟩ | ⟨g', cap', cur, h1, -, h3, -, -, -, h7⟩
  · cases h1
  · injection h1 with h1
    injection h1 with h1
    injection h1 with h1
    subst h1
    have hi : i < xs.length := by
      rcases Nat.lt_or_ge i xs.length with h | h
      · exact h
      · rw [List.getElem?_eq_none h] at hx; cases hx
    rw [← h7, List.getElem?_take] at hx
    split at hx
    · unfold World.cell?
      rw [h3]
      simp
      rw [← Array.getElem?_toList]
      exact hx
    · cases hx
end Go.Proofs.Ytikjolinendfgaa.Ari
namespace Go.Proofs.Ytikjolinendfgaa.Spe
open Go.RowKit Go.Proofs.YtikjolinendfgaaW.PrintWords Go.Proofs.YtikjolinendfgaaW.PrintLast Go.Proofs.YtikjolinendfgaaW.PrintMore Go.Proofs.Ytikjolinendfgaa.Bit Go.Proofs.Ytikjolinendfgaa.Ari

set_option maxRecDepth 100000 in
set_option maxHeartbeats 1000000 in
theorem same_yes (A A' : Option Addr) (n c c' : Nat) (L : List Int) (w : World) (h1 : ReadsInt w .i64 A n L) (h2 : ReadsInt w .i64 A' n L) :
    Calls Try.prog 40 #[.slice A n c, .slice A' n c'] w fun e w' => e = .returned (.bool true) ∧ ∃ k, w' = w.drewN k := by
  have H1 := Lib.hid h1
  have H2 := Lib.hid h2
  have hn9 := h1.2.1
  clear h1 h2
  go_enter Try.func40, Try.ntmps40
  go_wp2
  go_loopg [5] n (fun gk x W => ∃ i : Nat, i ≤ n ∧ gk = n - i ∧ x = .int .i64 i ∧ Hid (∃ k, W = w.drewN k))
  case atStart => exact ⟨0, by omega, rfl, rfl, Lib.hid ⟨0, rfl⟩⟩
  case round =>
    obtain ⟨i, hi, rfl, rfl, HK⟩ := hrel
    have HA : Hid (ReadsInt wr .i64 A n L ∧ ReadsInt wr .i64 A' n L) := by
      obtain ⟨k, hk⟩ := HK.out
      rw [hk]
      exact ⟨H1.out.drewN k, H2.out.drewN k⟩
    by_cases hlt : i < n
    · obtain ⟨ad, rfl, y⟩ := HA.out.1.at_ (i : Int) (by omega) (by omega)
      obtain ⟨ad', rfl, y'⟩ := HA.out.2.at_ (i : Int) (by omega) (by omega)
      rw [Int.toNat_natCast] at y y'
      generalize rd L (i : Int) = x at y y'
      go_wp2
      go_quiet (fail)
      go_wp2
      go_roundg (n - (i + 1))
      case measure => omega
      case rel => exact ⟨i + 1, by omega, rfl, by go_num, by obtain ⟨k, hk⟩ := HK.out; rw [hk]; first | exact Lib.hid ⟨_, rfl⟩ | exact Lib.hid ⟨_, World.drewN_drewN ..⟩⟩
    · obtain rfl : i = n := by omega
      go_wp2
      go_ret
      exact ⟨rfl, HK.out⟩
/-- what Get finds, if steps were put -/
theorem got_steps {B : Nat → Nat} (hB : ∀ i, B i ≤ 1) {se : St} (hf : Q.Fit B se) {q : List Int} {n : Nat} (hq : q.length = n) (hb : ∀ x ∈ q, -32767 ≤ x ∧ x ≤ 32767) (he : Q.Enc (symsQ q n) s0 se) {fs fe : Fs} (hd : Q.Dec B s0 fs) {L : List Int} {ds : List (List Int × Nat)} (h : Lns L ds) (hL : L.length = n) (hF : Fnd B ds fs fe) : L = q := by
  have ha : Ali B fe se (ds ++ []) (symsQ q n) := by rw [List.append_nil]; exact ⟨s0, fs, hF, he, rest_s0, hd⟩
  have h1 := (lns_ali hB hf hq hb h [] (by omega) ha).1
  rw [h1, hL, ← hq, List.take_length]
theorem got_never {B : Nat → Nat} (hB : ∀ i, B i ≤ 1) {se : St} (hf : Q.Fit B se) {q : List Int} {n : Nat} (hq : q.length = n) (hb : ∀ x ∈ q, -32767 ≤ x ∧ x ≤ 32767) (he : Q.Enc (symsQ q n) s0 se) {fs fe : Fs} (hd : Q.Dec B s0 fs) {L : List Int} {ds es : List (List Int × Nat)} {r : Int} (h : Lns L ds) (hL : L.length < n) (k : Lin L es r 70) (hF : Fnd B (ds ++ es) fs fe) : False := by
  have ha : Ali B fe se (ds ++ es) (symsQ q n) := ⟨s0, fs, hF, he, rest_s0, hd⟩
  obtain ⟨h1, R, h2, h3⟩ := lns_ali hB hf hq hb h es (by omega) ha
  obtain ⟨R', h4, h5⟩ := syms_cut q n L.length hL
  have h6 : R = symsL (q.take L.length) (rd q (L.length : Int)) ++ R' := by
    rw [h2] at h4
    exact List.append_cancel_left h4
  rw [h6, ← h1] at h3
  have hlq : L.length < q.length := by omega
  have hxb := hb _ (List.getElem_mem hlq)
  rw [← rd_mem q L.length hlq] at hxb
  have h7 := (lin_ali hB hf hxb k (ds := []) (by rw [List.append_nil]; exact h3)).2.1
  cases h7
end Go.Proofs.Ytikjolinendfgaa.Spe
namespace Go.Proofs.Ytikjolinendfgaa.Spe
open Go.RowKit Go.Proofs.YtikjolinendfgaaW.PrintWords Go.Proofs.YtikjolinendfgaaW.PrintLast Go.Proofs.YtikjolinendfgaaW.PrintMore Go.Proofs.Ytikjolinendfgaa.Bit Go.Proofs.Ytikjolinendfgaa.Ari

theorem be_end {w W : World} {g : Nat} {s : St} {v : Value} (hb : Below w.heap.size w W) (hg : w.heap.size ≤ g) (h : CS W g s false v) (hn : Q.steps s ≤ 100000) {E : List Bool} (hE : (fin s).bits = E) :
    Calls Try.prog 20 #[.pointer (some ⟨g, 0, none⟩)] W fun e w' => e = .returned (.int .i64 0) ∧ ∃ v', Be w g E (fin s) v' (.slice none 0 0) [] w' :=
  (end_any g s v W h (by unfold Q.steps at hn; omega)).mono fun e w' ⟨h1, v', h2, h4⟩ => ⟨h1, v', hb.trans (h4.below.mono hg), h2, World.ownsRow_nil _ _ _ _, hE⟩
set_option maxRecDepth 100000 in
set_option maxHeartbeats 32000000 in
theorem back_walk (A : Option Addr) (n c : Nat) (q : List Int) (A1 : Option Addr) (n1 c1 : Nat) (tl : List Int) (w : World) (h : ReadsInt w .i64 A n q) (hc : n ≤ c) (r1 : ReadsInt w .u8 A1 n1 tl) (htl : ∀ x ∈ tl, 0 ≤ x ∧ x ≤ 255) (y1 : n1 ≤ 140737488351232) :
    Calls Try.prog 11 #[.slice A n c, .slice A1 n1 c1] w fun e w' => e = .returned (.bool true) ∧ Below w.heap.size w w' := by
  have HQ := Lib.hid h
  have HR1 := Lib.hid r1
  have hn1 : tl.length = n1 := r1.1
  have HN1 := Lib.hid hn1
  have HTL := Lib.hid htl
  have hqA : Hid (0 < n → ∀ ad, A = some ad → ad.block < w.heap.size) := fun h0 => M.reads_lt h h0
  have HQL : Hid (q.length = n) := h.1
  clear h r1 hn1 htl
  by_cases h0 : 100 < n1
  · go_enter Try.func11, Try.ntmps11
    go_wp2_with fail
    refine (alive _).mono ?_
    rintro e w1 ⟨rfl, hb1⟩
    go_wp2
    go_ret
    exact ⟨rfl, hb1⟩
  by_cases hm : mayS n q = 0
  rotate_left
  · have hE : (mayS n q != 0) = true := bne_iff_ne.2 hm
    obtain ⟨M, hM⟩ : ∃ M, M = mayS n q := ⟨_, rfl⟩
    rw [← hM] at hE
    have HMM := Lib.hid hM
    have HM0 := Lib.hid hm
    clear hM hm
    go_enter Try.func11, Try.ntmps11
    go_wp2_with fail
    refine (alive _).mono ?_
    rintro e w1 ⟨rfl, hb1⟩
    have HB1 := Lib.hid hb1
    go_wp2_with fail
    refine (newCoder_any _).mono ?_
    rintro e w2 ⟨rfl, -, hb2⟩
    have HB2 := Lib.hid (bt HB1.out hb2)
    clear hb2 hb1
    go_wp2_with fail
    refine (put_bad _ A n c q _ (HQ.out.below HB2.out) HM0.out).mono ?_
    rw [← HMM.out]
    rintro e w3 ⟨rfl, hb3⟩
    have HB3 := Lib.hid (bt HB2.out hb3)
    clear hb3
    go_wp2
    go_ret
    exact ⟨rfl, HB3.out⟩
  have HM := Lib.hid hm
  obtain ⟨hn120, hbq⟩ := mayS_ok.1 hm
  have HBQ := Lib.hid hbq
  have hsl := symsQ_len q hbq n (by rw [HQL.out]; exact Nat.le_refl _)
  have HSL := Lib.hid hsl
  have HQ3 : Hid (Ari.Rest s0 ∧ offOf s0 = none ∧ Q.steps s0 + 14 * (40 * n + 100) ≤ 1000000) := ⟨⟨by decide, by decide⟩, by decide, by rw [show Q.steps s0 = 0 from rfl]; omega⟩
  clear hm hbq hsl
  go_enter Try.func11, Try.ntmps11
  go_wp2_with fail
  refine (alive _).mono ?_
  rintro e w1 ⟨rfl, hb1⟩
  have HB1 := Lib.hid hb1
  have HG : Hid (w.heap.size ≤ w1.heap.size) := hb1.size
  go_wp2_with fail
  refine (newCoder_any _).mono ?_
  rintro e w2 ⟨rfl, hc2, hb2⟩
  have HC2 : Hid (CS w2 w1.heap.size s0 false (.slice none 0 0)) := ⟨hc2.at_, World.ownsRow_nil _ _ _ _, fun _ _ => rfl⟩
  have HB2 := Lib.hid (bt HB1.out hb2)
  clear hb2 hb1 hc2
  generalize w1.heap.size = g at HG HC2 ⊢
  go_wp2_with fail
  refine (put_good g s0 (.slice none 0 0) A n c q w2 HC2.out HQ3.out.1 HQ3.out.2.1 (HQ.out.below HB2.out) hc (fun h0 ad e => by have := hqA.out h0 ad e; have := HG.out; omega) HM.out HQ3.out.2.2).mono ?_
  rintro e w3 ⟨rfl, s, v3, h1, h2, h3, h4, h5⟩
  have hst := enc_len h1 HQ3.out.1
  rw [show Q.steps s0 = 0 from rfl] at hst
  have hst2 : Q.steps s ≤ 14 * (40 * n) := by have := HSL.out; omega
  have HENC := Lib.hid h1
  have HRO := Lib.hid (And.intro h2 h3)
  have HC3 := Lib.hid h4
  have HB3 : Hid (Below w.heap.size w w3) := HB2.out.trans (h5.below.mono HG.out)
  obtain ⟨E, hE⟩ : ∃ E, (fin s).bits = E := ⟨_, rfl⟩
  have hel : E.length = Q.steps s + 2 := by rw [← hE]; exact fin_len2 s
  have HEL := Lib.hid hel
  have HE := Lib.hid hE
  have HST : Hid (Q.steps s ≤ 100000) := by show _ ≤ _; omega
  obtain ⟨mE, hmE⟩ : ∃ mE, E.length = mE := ⟨_, rfl⟩
  have HME := Lib.hid hmE
  rw [hmE] at hel
  have hm1 : mE ≤ 100002 ∧ 2 ≤ mE := by omega
  obtain ⟨hm2, hm3⟩ := hm1
  obtain ⟨r, hr⟩ : ∃ r, r = mE % 8 := ⟨_, rfl⟩
  have hrI : (mE : Int) % 8 = (r : Int) := by omega
  have hr8 : r < 8 := by omega
  have HR := Lib.hid hr
  clear HC2 h1 h2 h3 h4 h5 hst hst2 hE hmE hel hr HSL
  go_wp2_with fail
  refine (be_end HB3.out HG.out HC3.out HST.out HE.out).mono ?_
  rintro e w4 ⟨rfl, v4, h4⟩
  have HE4 := Lib.hid h4
  clear h4
  go_wp2_with fail
  refine (Be.bitsB HE4.out (by rw [HME.out]; omega)).mono ?_
  rintro e w6 ⟨v6, rfl, hown6, hb6⟩
  have HO6 := Lib.hid hown6
  have HB6 := Lib.hid hb6
  have HE6 := Lib.hid (HE4.out.kept hb6)
  obtain ⟨A6, c6, rfl⟩ := own_slice hown6
  clear hown6 hb6
  go_wp2_with fail
  have hbl : (bytesS E).length = rowN mE := by rw [Q.bytesS_len, HME.out]
  obtain ⟨R, hR⟩ : ∃ R, (bytesS E).length = R := ⟨_, rfl⟩
  rw [hR] at hbl HO6
  have hR1 : 1 ≤ R ∧ R ≤ 20000 := by rw [hbl]; unfold rowN; omega
  obtain ⟨hR1, hR2⟩ := hR1
  rw [hR]
  have HRL := Lib.hid hR
  have HRN := Lib.hid hbl
  clear hR hbl
  by_cases h15 : r ≠ 0 ∧ 0 < n1
  case' pos =>
    obtain ⟨hr0, hn0⟩ := h15
    obtain ⟨g6, c6', e6, hcap6, hg6⟩ : ∃ g c, (Value.slice A6 R c6) = .slice (some ⟨g, 0, none⟩) R c ∧ R ≤ c ∧ w4.heap.size ≤ g := by
      rcases HO6.out.2 with ⟨-, h2⟩ | ⟨g, cap, cur, h1, h2, -, h3, -⟩
      · omega
      · exact ⟨g, cap, h1, h3, h2⟩
    simp only [Value.slice.injEq] at e6
    obtain ⟨rfl, -, rfl⟩ := e6
    obtain ⟨p, hp⟩ : ∃ p, p + 1 = R := ⟨R - 1, by omega⟩
    have hpI : (R : Int) - 1 = (p : Int) := by omega
    have hb3 : (-9223372036854775808 : Int) ≤ (p : Int) ∧ (p : Int) ≤ 9223372036854775807 := by omega
    have HPB := Lib.hid hb3
    have HPI := Lib.hid hpI
    clear hb3
    have hp0 : (0 : Int) ≤ (p : Int) := by omega
    have hpN : p < R := by omega
    have hpR : (p : Int) < (R : Int) := by omega
    have hn0I : (0 : Int) < (n1 : Int) := by omega
    have hrT : (mE : Int).tmod 8 = (r : Int) := by rw [Int.tmod_eq_emod_of_nonneg (by omega)]; exact hrI
    obtain ⟨x1, x2⟩ := own_at HO6.out (p : Int) (by omega) (by omega)
    rw [Int.toNat_natCast] at x1 x2
    have e7 : rd (bytesS E) (p : Int) = ((byteN (ofL E) p : Nat) : Int) := by
      unfold rd bytesS
      rw [Int.toNat_natCast]
      exact bytesL_at _ _ _ (by have := HRL.out; rw [Q.bytesS_len] at this; omega)
    rw [e7] at x1
    have hbb := byteN_lt (ofL E) p
    obtain ⟨bb, hbe⟩ : ∃ bb, bb = byteN (ofL E) p := ⟨_, rfl⟩
    rw [← hbe] at x1 hbb
    obtain ⟨ad1, hA1, z⟩ := (HR1.out.below HE6.out.base).at_ 0 (by omega) (by omega)
    subst hA1
    obtain ⟨t0, ht0, ht1⟩ : ∃ t0 : Nat, rd tl 0 = (t0 : Int) ∧ t0 < 256 := by
      have hmem : rd tl 0 ∈ tl := by
        have h : 0 < tl.length := by rw [HN1.out]; omega
        have e : rd tl 0 = tl[0] := by simp [rd, List.getD_eq_getElem?_getD, List.getElem?_eq_getElem h]
        rw [e]
        exact List.getElem_mem h
      have := HTL.out _ hmem
      exact ⟨(rd tl 0).toNat, by omega, by omega⟩
    rw [ht0] at z
    have z0 : w6.cell? ad1 = some (.int .u8 (t0 : Int)) := z
    obtain ⟨yy, hyy⟩ : ∃ yy, yy = t0 / 2 ^ r := ⟨_, rfl⟩
    have hylt : yy < 2 ^ (8 - r) := by
      rw [hyy, Nat.div_lt_iff_lt_mul (Nat.two_pow_pos r), ← Nat.pow_add, show 8 - r + r = 8 from by omega]
      exact ht1
    have hy256 : yy < 256 := Nat.lt_of_lt_of_le hylt (Nat.pow_le_pow_right (n := 2) (j := 8) (by decide) (by omega))
    have e1 : (t0 : Int) / 2 ^ r = (yy : Int) := by rw [hyy]; push_cast; rfl
    have e2 := bits_or8 bb yy hbb hy256
    have e0 : IntKind.u64.wrap (r : Int) = (r : Int) := by rw [IntKind.wrap_u64]; omega
    have HS : Hid (Q.Says E ((bytesS E).set p ((bb ||| yy : Nat) : Int))) := by
      show Q.Says _ _
      rw [hbe]
      exact Q.says_or (by rw [hp, HRN.out, HME.out]) (by rw [HME.out]; exact HR.out) hr0 hylt
    have hor : bb ||| yy < 256 := Nat.or_lt_two_pow (n := 8) hbb hy256
    obtain ⟨oo, hoo⟩ : ∃ oo, oo = bb ||| yy := ⟨_, rfl⟩
    rw [← hoo] at e2 HS hor
    have HX : Hid (∀ k, ((w6.drewN k).setCell ⟨g6, p, none⟩ (.int .u8 (oo : Int))).ownsRow w4.heap.size 5 1 (.slice (some ⟨g6, 0, none⟩) R c6) R (nums .u8 ((bytesS E).set p (oo : Int)))) := by
      intro k
      have h := (own_store (W := w6.drewN k) (own_move HO6.out fun _ _ => rfl) (p : Int) (oo : Int)).1
      rw [Int.toNat_natCast] at h
      exact h
    have HBX : Hid (∀ k, Below w4.heap.size w4 ((w6.drewN k).setCell ⟨g6, p, none⟩ (.int .u8 (oo : Int)))) := fun k => (pw_below_drewN HB6.out k).setCell (p := ⟨g6, p, none⟩) hg6 _
    have hr0I : ((r : Int) == 0) = false := beq_eq_false_iff_ne.2 (by omega)
    have HHYY := Lib.hid (And.intro hyy hylt)
    have HOO := Lib.hid (And.intro hoo hbe)
    clear hyy hylt hoo hbe z e7 ht0
    refine (Be.lenB HE6.out).mono ?_
    rw [HME.out]
    rintro e w7 ⟨rfl, rfl⟩
    go_wp2
    have HFUp : Hid (∀ x ∈ (bytesS E).set p (oo : Int), 0 ≤ x ∧ x ≤ 255) := fun x hx => by
      rcases List.mem_or_eq_of_mem_set hx with h | h
      · exact Q.bytes_in _ _ x h
      · omega
    have HLp : Hid (((bytesS E).set p (oo : Int)).length = R) := by
      show _ = _
      rw [List.length_set]
      exact HRL.out
    have hpW2 : IntKind.i64.wrap (p : Int) = (p : Int) := IntWalk.i64_in _ HPB.out
    have hpW3 : wrap64 (p : Int) = (p : Int) := IntWalk.wrap64_in _ HPB.out
    have hpW : IntKind.i64.wrap ((R : Int) - 1) = (p : Int) := by rw [hpI]; exact hpW2
    have hpW4 : wrap64 ((R : Int) - 1) = (p : Int) := by rw [hpI]; exact hpW3
    clear hcap6 hp hpI hbb ht1 hy256 hor hr0 hn0 HPB HPI
    go_region_with (first
      | (go_at_call 22; refine (Be.lenB (show Be w g E (fin s) v4 (.slice none 0 0) [] _ from (by first | exact HE6.out | exact HE6.out.drew))).mono ?_; rw [HME.out]; rintro e w8 ⟨rfl, hw8⟩; (obtain ⟨k8, hk8⟩ : ∃ k, w8 = w7.drewN k := by first | exact ⟨0, hw8⟩ | exact ⟨1, hw8⟩); have x1' : w8.cell? ⟨g6, p, none⟩ = some (.int .u8 (bb : Int)) := (by rw [hk8]; exact x1); have x2' : w8.frozen? ⟨g6, p, none⟩ = false := (by rw [hk8]; exact x2); have z0' : w8.cell? ad1 = some (.int .u8 (t0 : Int)) := (by rw [hk8]; exact z0); have HX8 : Hid ((w8.setCell ⟨g6, p, none⟩ (.int .u8 (oo : Int))).ownsRow w4.heap.size 5 1 (.slice (some ⟨g6, 0, none⟩) R c6) R (nums .u8 ((bytesS E).set p (oo : Int)))) := (by rw [hk8]; exact HX.out k8); have HBX8 : Hid (Below w4.heap.size w4 (w8.setCell ⟨g6, p, none⟩ (.int .u8 (oo : Int)))) := (by rw [hk8]; exact HBX.out k8); clear hw8 hk8)
      | fail)
    all_goals
      go_upto_region 12 with fail
      obtain ⟨wx, hwx⟩ : ∃ wx, wx = w8.setCell ⟨g6, p, none⟩ (.int .u8 (oo : Int)) := ⟨_, rfl⟩
      rw [← hwx]
      obtain ⟨F0, HFO, HFB, HSY, HFU⟩ : ∃ F0 : List Int, Hid (wx.ownsRow w4.heap.size 5 1 (.slice (some ⟨g6, 0, none⟩) R c6) F0.length (nums .u8 F0) ∧ F0.length = R) ∧ Hid (Below w4.heap.size w4 wx) ∧ Hid (Q.Says E F0) ∧ Hid (∀ x ∈ F0, 0 ≤ x ∧ x ≤ 255) :=
        ⟨(bytesS E).set p (oo : Int), ⟨by rw [HLp.out, hwx]; exact HX8.out, HLp.out⟩, by rw [hwx]; exact HBX8, HS, HFUp⟩
      clear hwx HX8 HBX8 x1' x2' z0' HX HBX x1 x2 z0 HS HFUp HLp HO6 HB6 HE6 e2 e1 e0 hpW hpW2 hpW3 hpW4 hp0 hpR hpN hn0I hrT hr0I HHYY HOO
      obtain ⟨A6, hA6⟩ : ∃ A6, A6 = some (⟨g6, 0, none⟩ : Addr) := ⟨_, rfl⟩
      rw [← hA6] at HFO
      rw [← hA6]
      clear hA6
      obtain ⟨A1, hA1⟩ : ∃ A1, A1 = some ad1 := ⟨_, rfl⟩
      rw [← hA1] at HR1
      rw [← hA1]
      clear hA1
  case' neg =>
    refine (Be.lenB HE6.out).mono ?_
    rw [HME.out]
    rintro e w7 ⟨rfl, rfl⟩
    go_upto_region 12 with fail
    all_goals
      obtain ⟨wx, rfl⟩ : ∃ wx, wx = w7 := ⟨_, rfl⟩
      obtain ⟨F0, HFO, HFB, HSY, HFU⟩ : ∃ F0 : List Int, Hid (wx.ownsRow w4.heap.size 5 1 (.slice A6 R c6) F0.length (nums .u8 F0) ∧ F0.length = R) ∧ Hid (Below w4.heap.size w4 wx) ∧ Hid (Q.Says E F0) ∧ Hid (∀ x ∈ F0, 0 ≤ x ∧ x ≤ 255) :=
        ⟨bytesS E, ⟨by rw [HRL.out]; exact HO6.out, HRL.out⟩, HB6, Q.says_own E, Q.bytes_in _ _⟩
      clear HO6 HB6 HE6
  all_goals
    obtain ⟨hFO, hFL⟩ := HFO.out
    have HFL := Lib.hid hFL
    have HRD := Lib.hid (HR1.out.below (bt HE4.out.base HFB.out))
    have hsz5 := HFB.out.size
    have hapl : (F0.length + n1) * 1 ≤ 140737488355328 := by omega
    have HAPL := Lib.hid hapl
    clear hFL HFO hapl
    by_cases h512 : 512 < R + n1
    · go_wp2_with (at_builtin; go_loud (refine print_append_row (w0 := wx) w4.heap.size rfl (.tmp 56) (.tmp 57) 41 5 .u8 1 rfl Try.underlying41 Ari.info8 (by decide) (.slice A6 R c6) F0 tl A1 n1 c1 rfl rfl hFO HRD.out (Below.refl _ _) hsz5 HAPL.out ?_); intro v8 w8 hown8 hB8 hg8 hat8; rw [List.length_append, HFL.out, HN1.out] at hown8; obtain ⟨A8, c8, rfl⟩ := own_slice hown8; have HB8 := Lib.hid hB8; clear hown8 hB8 hg8 hat8)
      go_ret
      exact ⟨rfl, bt HE4.out.base (HFB.out.trans HB8.out)⟩
    · have h512N : R + n1 ≤ 512 := by omega
      go_wp2_with (at_builtin; go_loud (refine print_append_row (w0 := wx) w4.heap.size rfl (.tmp 56) (.tmp 57) 41 5 .u8 1 rfl Try.underlying41 Ari.info8 (by decide) (.slice A6 R c6) F0 tl A1 n1 c1 rfl rfl hFO HRD.out (Below.refl _ _) hsz5 HAPL.out ?_); intro v8 w8 hown8 hB8 hg8 hat8; rw [List.length_append, HFL.out, HN1.out] at hown8; obtain ⟨A8, c8, rfl⟩ := own_slice hown8; have HB8 := Lib.hid hB8; have HO8 := Lib.hid hown8; clear hown8 hB8 hg8 hat8)
      have HFU8 : Hid (∀ x ∈ F0 ++ tl, 0 ≤ x ∧ x ≤ 255) := fun x hx => (List.mem_append.1 hx).elim (HFU.out x) (HTL.out x)
      have HSY8 := Lib.hid (HSY.out.append tl)
      have hFl : (F0 ++ tl).length = R + n1 := by rw [List.length_append, HFL.out, HN1.out]
      generalize F0 ++ tl = F at HFU8 HSY8 hFl HO8
      have HB8w := Lib.hid (HFB.out.trans HB8.out)
      obtain ⟨O, hO⟩ := bytes_bits F HFU8.out
      have HAG := Lib.hid (fun i hi => Q.agree HSY8.out hO i hi)
      rw [hFl] at hO HAG
      have HFl := Lib.hid hFl
      have HRD8 : Hid (ReadsInt w8 .u8 A8 (R + n1) (bytesL O (R + n1))) := by
        show ReadsInt _ _ _ _ _
        rw [hO]
        exact own_reads' HO8.out
      clear hFl hO hFO hsz5 h512
      refine (open_yes A8 (R + n1) c8 O _ h512N HRD8.out).mono ?_
      rintro e w9 ⟨b, A', c', rfl, hE9, hb9, hbs9, hbl9⟩
      have hEP := eye_p hE9 hbl9 h512N
      have HE9 := Lib.hid (HE4.out.kept (HB8w.out.trans (hb9.mono HB8w.out.size)))
      have HEN9 : Hid (EyeN w9 w9.heap.size (some ⟨b, 0, none⟩) (fun i => (bitI O (R + n1) i).toNat)) := by
        have hbk := blk_lt hE9.at_
        refine .inr ⟨b, R + n1, O, A', c', rfl, hE9, hbk, fun ad e => by have := hbl9 ad e; omega, h512N, fun i => ?_⟩
        show (((bitI O (R + n1) i).toNat : Nat) : Int) = _
        have : 0 ≤ bitI O (R + n1) i := by
          unfold bitI
          split
          · omega
          · decide
        omega
      generalize hBe : (fun i : Nat => (bitI O (R + n1) i).toNat) = B at hEP HEN9
      have HAG2 : Hid (∀ i, i < E.length → B i = (E.getD i false).toNat) := fun i hi => by rw [← hBe]; exact HAG.out i hi
      have hBle := hEP.le
      have HBL := Lib.hid hBle
      clear hE9 hbs9 hbl9 hb9 hBe hBle HAG
      go_wp2_with fail
      refine (newFinder_any (some ⟨b, 0, none⟩) B 0 0 rfl (by omega) _ hEP).mono ?_
      rintro e w10 ⟨rfl, hF10, hlt10⟩
      have hv16 := vN_lt (fr := 0) HBL.out 16
      have hFS := fs0 hF10
      have HFS : Hid (FS w9.heap.size (some ⟨b, 0, none⟩) 0 B w10 ⟨0, 65536, vN B 0 16, 16⟩ w10) := ⟨hFS.at_, hFS.eye, OnlyB.refl _ _⟩
      have HRE : Hid (RestF ⟨0, 65536, vN B 0 16, 16⟩) := rest0 (by rw [show (65536 : Nat) = 2 ^ 16 from rfl]; exact hv16)
      have HE10 : Hid (EyeN w10 w9.heap.size (some ⟨b, 0, none⟩) B) := HEN9.out.of_blocks fun k hk => hF10.only.block k hk (fun e => by injection e with e; omega)
      have HB10 : Hid (Below w9.heap.size w9 w10) := only_below hF10.only (Nat.le_refl _)
      have HFIT : Hid (Q.Fit B s) := Q.fit_end HBL.out HRO.out.1 HRO.out.2 (fun i hi => by have h := HAG2.out; rw [← HE.out] at h; exact h i hi)
      have HD0 := Lib.hid (Q.dec0 B)
      have hrd : (⟨0, 65536, vN B 0 16, 16⟩ : Fs).rd ≤ 100000 := by show 16 ≤ 100000; decide
      generalize (⟨0, 65536, vN B 0 16, 16⟩ : Fs) = fs at HFS HRE hrd HD0
      have HRD10 := Lib.hid hrd
      clear hF10 hFS hlt10 hEP hv16 hrd HEN9 HB8 HB8w HO8 HFU8 HSY8 HFL HFU HSY HRD HAPL HRL HRN
      go_wp2_with fail
      refine (get_steps w9.heap.size (some ⟨b, 0, none⟩) B fs n w10 HFS.out HRE.out HE10.out hn120 HRD10.out).mono ?_
      rintro e w11 (⟨L, ds, v, hL, rfl, hG⟩ | ⟨rfl, -, L, ds, es, r', k1, k2, k3, k4⟩)
      · obtain ⟨fe, hfe, -⟩ := hG.fd
        obtain rfl := got_steps HBL.out HFIT.out HQL.out HBQ.out HENC.out HD0.out hG.lns hL hfe
        have HB11 : Hid (Below w9.heap.size w9 w11) := HB10.out.trans (only_b hG.only (Nat.le_refl _) HB10.out.size)
        obtain ⟨A5, c5, rfl, hc5, hr5⟩ := own_reads_le hG.own
        rw [hL] at hr5 hc5 ⊢
        have HR5 := Lib.hid hr5
        have HQ11 := Lib.hid (HQ.out.below (bt HE9.out.base HB11.out))
        clear hG hfe hr5
        go_wp2_with fail
        refine (cost_good A n c L w11 HQ11.out hc HM.out).mono ?_
        rintro e w12 ⟨⟨s', h1, h2, rfl⟩, hb12⟩
        have es : Q.steps s' + 2 = mE := by
          have e1 : s' = s := (enc_eq h1 rest_s0).trans (enc_eq HENC.out rest_s0).symm
          rw [e1, ← HEL.out, HME.out]
        rw [es]
        have HB12 : Hid (Below w9.heap.size w9 w12) := HB11.out.trans (hb12.mono HB11.out.size)
        have HR12 := Lib.hid (HR5.out.below hb12)
        clear h1 h2 es hb12
        go_wp2_with fail
        refine (same_yes A5 A n c5 c L w12 HR12.out (HQ.out.below (bt HE9.out.base HB12.out))).mono ?_
        rintro e w13 ⟨rfl, k13, rfl⟩
        go_wp2_with fail
        refine (Be.lenB ((HE9.out.kept HB12.out).drewN k13)).mono ?_
        rw [HME.out]
        rintro e w14 ⟨rfl, rfl⟩
        go_wp2
        go_ret
        exact ⟨rfl, pw_below_drewN (bt HE9.out.base HB12.out) k13⟩
      · obtain ⟨fe, hfe, -⟩ := k4
        exact (got_never HBL.out HFIT.out HQL.out HBQ.out HENC.out HD0.out k2 k1 k3 hfe).elim
theorem back_of (A : Option Addr) (n c : Nat) (z : List Int) (A1 : Option Addr) (n1 c1 : Nat) (w : World) (h1 : ReadsInt w .i64 A n z ∧ z.length = n ∧ (∀ n ∈ z, (Lit.int .i64 n).wf = true) ∧ n ≤ c) (h2 : ∃ l : List Int, l.length = n1 ∧ ReadsInt w .u8 A1 n1 l ∧ (∀ x ∈ l, 0 ≤ x ∧ x ≤ 255) ∧ n1 ≤ c1) (y1 : n1 * 1 ≤ 140737488351232) :
    Calls Try.prog 11 #[.slice A n c, .slice A1 n1 c1] w fun e w' => e = .returned (.bool true) ∧ Below w.heap.size w w' := by
  obtain ⟨r1, -, -, k3⟩ := h1
  obtain ⟨l, -, hr, hl, -⟩ := h2
  exact back_walk A n c z A1 n1 c1 l w r1 k3 hr hl (by omega)
end Go.Proofs.Ytikjolinendfgaa.Spe
