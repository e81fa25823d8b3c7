/- The walks of the document's queue (psalteryref27.Queue): a flush, a next number, a slice of ones. -/
import Derived.Test.YtidfahjebjaneaaQueue3
import Derived.Test.YtidfahjebjaneaaMore2
set_option linter.unusedVariables false
set_option linter.unusedSimpArgs false
namespace Go.Proofs.Ytidfahjebjaneaa.Que
open Go.RowKit Go.Proofs.YtidfahjebjaneaaW.PrintWords Go.Proofs.YtidfahjebjaneaaW.PrintLast Go.Proofs.YtidfahjebjaneaaW.PrintMore

/-- one of the document's list: number, payload, open -/
abbrev OneV := Int × ByteArray × Bool
def ocs (os : List OneV) : List Value := os.flatMap fun o => [.int .i64 o.1, .string o.2.1, .bool o.2.2]
theorem ocs_append (a b : List OneV) : ocs (a ++ b) = ocs a ++ ocs b := by simp [ocs]
theorem ocs_length (os : List OneV) : (ocs os).length = os.length * 3 := by
  induction os with
  | nil => rfl
  | cons o r ih => simp only [ocs, List.flatMap_cons, List.length_append, List.length_cons, List.length_nil] at ih ⊢; omega
theorem ocs_one : ∀ (os : List OneV) (u : Value), u ∈ ocs os → u.oneCell' = true := by
  intro os u hu
  simp only [ocs, List.mem_flatMap] at hu
  obtain ⟨o, -, hu⟩ := hu
  simp only [List.mem_cons, List.not_mem_nil, or_false] at hu
  rcases hu with rfl | rfl | rfl <;> rfl
theorem ocs_at : ∀ (os : List OneV) (i : Nat) (h : i < os.length), (ocs os)[i * 3]? = some (.int .i64 os[i].1) ∧ (ocs os)[i * 3 + 1]? = some (.string os[i].2.1) ∧ (ocs os)[i * 3 + 2]? = some (.bool os[i].2.2)
  | o :: r, 0, _ => ⟨rfl, rfl, rfl⟩
  | o :: r, i + 1, h => by
    have ih := ocs_at r i (by simpa using h)
    have e : ∀ j, (ocs (o :: r))[j + 3]? = (ocs r)[j]? := fun j => rfl
    rw [show (i + 1) * 3 = i * 3 + 3 by omega, show i * 3 + 3 + 1 = i * 3 + 1 + 3 by omega, show i * 3 + 3 + 2 = i * 3 + 2 + 3 by omega, e, e, e]
    exact ih
theorem ocs_set : ∀ (os : List OneV) (i : Nat) (h : i < os.length) (x : Bool), ocs (os.set i (os[i].1, os[i].2.1, x)) = (ocs os).set (i * 3 + 2) (.bool x)
  | o :: r, 0, _, _ => rfl
  | o :: r, i + 1, h, x => by
    have ih := ocs_set r i (by simpa using h) x
    have hi : i < r.length := by simpa using h
    show ocs (o :: r.set i ((r[i]'hi).1, (r[i]'hi).2.1, x)) = _
    rw [show (i + 1) * 3 + 2 = i * 3 + 2 + 3 by omega]
    show _ :: _ :: _ :: ocs _ = _ :: _ :: _ :: (ocs r).set (i * 3 + 2) _
    rw [ih]

/-- the document's queue, in block m; its list lies above -/
structure RAt (W : World) (m F N : Nat) (A : Option Addr) (c : Nat) (os : List OneV) : Prop where
  at_ : W.heap[m]? = some (.cells #[.int .i64 F, .int .i64 N, .slice A os.length c] 57 (0, 0))
  le : os.length ≤ c
  cs : 0 < os.length → ∃ g o, A = some ⟨g, o, none⟩ ∧ m < g ∧ g < W.heap.size ∧ ∀ j u, (ocs os)[j]? = some u → W.cell? ⟨g, o + j, none⟩ = some u ∧ W.frozen? ⟨g, o + j, none⟩ = false
theorem RAt.c0 {W : World} {m F N : Nat} {A : Option Addr} {c : Nat} {os : List OneV} (h : RAt W m F N A c os) : W.cell? ⟨m, 0, none⟩ = some (.int .i64 F) := (blk_cell h.at_ 0).trans rfl
theorem RAt.c1 {W : World} {m F N : Nat} {A : Option Addr} {c : Nat} {os : List OneV} (h : RAt W m F N A c os) : W.cell? ⟨m, 1, none⟩ = some (.int .i64 N) := (blk_cell h.at_ 1).trans rfl
theorem RAt.c2 {W : World} {m F N : Nat} {A : Option Addr} {c : Nat} {os : List OneV} (h : RAt W m F N A c os) : W.cell? ⟨m, 2, none⟩ = some (.slice A os.length c) := (blk_cell h.at_ 2).trans rfl
theorem RAt.lt {W : World} {m F N : Nat} {A : Option Addr} {c : Nat} {os : List OneV} (h : RAt W m F N A c os) : m < W.heap.size := (Array.getElem?_eq_some_iff.1 h.at_).1

theorem ocs_tail : ∀ (os : List OneV) (j : Nat) (u : Value), (ocs os.tail)[j]? = some u → (ocs os)[3 + j]? = some u
  | [], j, u, h => by simp [ocs] at h
  | o :: r, j, u, h => by rw [Nat.add_comm]; exact h
theorem RAt.step {w3 : World} {m F N : Nat} {v : Value} (h : w3.heap[m]? = some (.cells #[.int .i64 F, .int .i64 N, v] 57 (0, 0))) (A : Option Addr) (c : Nat) (os : List OneV) (hv : v = .slice A os.length c) (hle : os.length ≤ c)
    (hcs : 0 < os.length → ∃ g o, A = some ⟨g, o, none⟩ ∧ m < g ∧ g < w3.heap.size ∧ ∀ j u, (ocs os)[j]? = some u → w3.cell? ⟨g, o + j, none⟩ = some u ∧ w3.frozen? ⟨g, o + j, none⟩ = false) :
    RAt (w3.setCell ⟨m, 1, none⟩ (.int .i64 ((N : Int) + 1))) m F (N + 1) A c os := by
  subst hv
  refine ⟨(blk_set h 1 _).trans rfl, hle, fun h0 => ?_⟩
  obtain ⟨g, o, h1, h2, h3, h4⟩ := hcs h0
  refine ⟨g, o, h1, h2, by simpa using h3, fun j u hu => ?_⟩
  obtain ⟨h5, h6⟩ := h4 j u hu
  have hh := RowKit.Below.heap_setCell w3 ⟨m, 1, none⟩ (.int .i64 ((N : Int) + 1)) g (show g ≠ m by omega)
  exact ⟨by rw [World.cell?_of_block (w := w3) hh]; exact h5, by rw [World.frozen?_of_block (w := w3) hh]; exact h6⟩
theorem RAt.step2 {w3 : World} {m F N : Nat} {v : Value} (h : w3.heap[m]? = some (.cells #[.int .i64 F, .int .i64 N, v] 57 (0, 0))) (A : Option Addr) (c : Nat) (os : List OneV) (hle : os.length ≤ c)
    (hcs : 0 < os.length → ∃ g o, A = some ⟨g, o, none⟩ ∧ m < g ∧ g < w3.heap.size ∧ ∀ j u, (ocs os)[j]? = some u → w3.cell? ⟨g, o + j, none⟩ = some u ∧ w3.frozen? ⟨g, o + j, none⟩ = false) :
    RAt ((w3.setCell ⟨m, 2, none⟩ (.slice A os.length c)).setCell ⟨m, 1, none⟩ (.int .i64 ((N : Int) + 1))) m F (N + 1) A c os := by
  refine RAt.step ((blk_set h 2 _).trans rfl) A c os rfl hle fun h0 => ?_
  obtain ⟨g, o, h1, h2, h3, h4⟩ := hcs h0
  refine ⟨g, o, h1, h2, by simpa using h3, fun j u hu => ?_⟩
  obtain ⟨h5, h6⟩ := h4 j u hu
  have hh := RowKit.Below.heap_setCell w3 ⟨m, 2, none⟩ (.slice A os.length c) g (show g ≠ m by omega)
  exact ⟨by rw [World.cell?_of_block (w := w3) hh]; exact h5, by rw [World.frozen?_of_block (w := w3) hh]; exact h6⟩

set_option maxRecDepth 100000 in
set_option maxHeartbeats 1000000 in
theorem rpush_long (b : Nat) (s : ByteArray) (w : World) (hs : 512 < s.size) :
    Calls Try.prog 28 #[.pointer (some ⟨b, 0, none⟩), .string s] w fun e w' => e = .returned (.tuple #[.int .i64 0, .int .i64 2]) ∧ w' = w := by
  go_enter Try.func28, Try.ntmps28
  go_wp2_with fail
  go_ret2
  exact ⟨rfl, rfl⟩

theorem infoO : (Try.prog.info? 106).map (fun i => (i.zero, i.size, i.bytes)) = some (some (.agg #[.int .i64 0, .string ⟨#[]⟩, .bool false]), 3, 32) := by kernel_rfl

set_option maxRecDepth 100000 in
set_option maxHeartbeats 1000000 in
theorem find_any (m F N : Nat) (A : Option Addr) (c : Nat) (os : List OneV) (lo : Nat) (x : Int) (w : World) (h : RAt w m F N A c os) (hlo : ∀ i (h : i < os.length), os[i].1 = ((lo + i : Nat) : Int)) (hn : os.length ≤ 8) :
    Calls Try.prog 49 #[.pointer (some ⟨m, 0, none⟩), .int .i64 x] w fun e w' => e = .returned (.int .i64 (if (lo : Int) ≤ x ∧ x < (lo + os.length : Nat) then x - lo else -1)) ∧ ∃ k, w' = w.drewN k := by
  have c0 := h.c0
  have c2 := h.c2
  have hcs := h.cs
  have HLO := Lib.hid hlo
  clear hlo h
  obtain ⟨n, hn'⟩ : ∃ n, n = os.length := ⟨_, rfl⟩
  have HN := Lib.hid hn'
  rw [← hn'] at hn hcs c2 ⊢
  clear hn'
  obtain ⟨r, hr⟩ : ∃ r : Int, r = if (lo : Int) ≤ x ∧ x < (lo + n : Nat) then x - lo else -1 := ⟨_, rfl⟩
  rw [← hr]
  replace hr := Lib.hid hr
  go_enter Try.func49, Try.ntmps49
  go_wp2_with fail
  go_loopg [5] n (fun gk v W => ∃ i k : Nat, i ≤ n ∧ gk = n - i ∧ v = .int .i64 i ∧ W = w.drewN k ∧ ¬ ((lo : Int) ≤ x ∧ x < (lo + i : Nat)))
  case atStart => exact ⟨0, 0, by omega, by omega, rfl, rfl, by omega⟩
  case round =>
    obtain ⟨i, k, hi, rfl, rfl, rfl, hno⟩ := hrel
    have HNO := Lib.hid hno
    clear hno
    by_cases hlt : i < n
    · obtain ⟨g, o, rfl, -, -, hc⟩ := hcs (by omega)
      have hi' : i < os.length := by rw [← HN.out]; exact hlt
      have z := (hc _ _ (ocs_at os i hi').1).1
      rw [HLO.out i hi'] at z
      by_cases hx : ((lo + i : Nat) : Int) = x
      · have b1 : (((lo + i : Nat) : Int) == x) = true := beq_iff_eq.2 hx
        have HX := Lib.hid hx
        clear hx
        go_wp2_with fail
        go_ret
        exact ⟨ret_int (by have h1 := hr.out; have h2 := HX.out; rw [if_pos (by omega)] at h1; omega), _, rfl⟩
      · have b1 : (((lo + i : Nat) : Int) == x) = false := beq_eq_false_iff_ne.2 hx
        have HX := Lib.hid hx
        clear hx
        go_wp2_with fail
        go_roundg (n - (i + 1))
        case measure => omega
        case rel => exact ⟨i + 1, k, by omega, rfl, by go_num, rfl, by have h1 := HX.out; have h2 := HNO.out; omega⟩
    · go_wp2_with fail
      go_ret
      exact ⟨ret_int (by have h1 := hr.out; have h2 := HNO.out; rw [if_neg (by omega)] at h1; omega), _, rfl⟩

theorem addp (g o j : Nat) : (⟨g, o, none⟩ : Addr).add j = ⟨g, o + j, none⟩ := by unfold Addr.add; split <;> simp_all
theorem own_pos {w : World} {base n size : Nat} {e : TypeId} {v : Value} {xs : List Value} (h : w.ownsRow base e size v n xs) (hn : 0 < n) : ∃ g cap, v = .slice (some ⟨g, 0, none⟩) n cap ∧ n ≤ cap ∧ base ≤ g := by
  rcases h.2 with ⟨-, h2⟩ | ⟨g, cap, cur, h1, h2, -, h3, -⟩
  · omega
  · exact ⟨g, cap, h1, h3, h2⟩
/-- what a push leaves of the list -/
def rpushed (F N : Nat) (os : List OneV) (s : ByteArray) : List OneV := if F < os.length + 1 then (os ++ [((N : Int), s, true)]).tail else os ++ [((N : Int), s, true)]

set_option maxRecDepth 100000 in
set_option maxHeartbeats 2000000 in
theorem rpush_ok (m F N : Nat) (A : Option Addr) (c : Nat) (os : List OneV) (s : ByteArray) (w : World) (h : RAt w m F N A c os) (hs : s.size ≤ 512) (hn : os.length ≤ 8) (hN : N ≤ 1000000) :
    Calls Try.prog 28 #[.pointer (some ⟨m, 0, none⟩), .string s] w fun e w' => e = .returned (.tuple #[.int .i64 N, .int .i64 0]) ∧ (∃ A' c', RAt w' m F (N + 1) A' c' (rpushed F N os s)) ∧ Below m w w' := by
  have c0 := h.c0
  have c1 := h.c1
  have c2 := fun o => pw_cell_below (ba (br w) o) h.c2
  have HA := Lib.hid h
  have hcs : 0 < os.length → ∃ ad, A = some ad ∧ ∀ j u, (ocs os)[j]? = some u → (w.alloc (.cells #[] 106)).cell? (ad.add j) = some u := fun h0 => by
    obtain ⟨g, o, rfl, -, -, hc⟩ := h.cs h0
    exact ⟨_, rfl, fun j u hu => by rw [addp]; exact pw_cell_below (ba (br w) _) (hc j u hu).1⟩
  have hlt := h.lt
  have hat0 := h.at_
  clear h
  go_enter Try.func28, Try.ntmps28
  go_wp2_with (first
    | (at_builtin; refine print_append_rows w.heap.size rfl (.tmp 15) (.tmp 19) 55 106 _ 3 32 rfl Try.underlying55 infoO rfl (by decide) (by decide) _ 0 [] (ocs os) A os.length c rfl rfl (World.ownsRow_lit w #[] 0 (Nat.le_refl _) (by decide) rfl) (ocs_length os) hcs (ocs_one os) (ba (br w) _) (by simp) (by omega) ?_; intro v1 w1 hown1 hB1 hg1 hat1; rw [Nat.zero_add, List.nil_append] at hown1; obtain ⟨A1, d1, rfl⟩ := own_slice hown1; have hz1 := hB1.size; clear hg1 hat1)
    | (at_builtin; refine print_append_cells w.heap.size rfl (.tmp 20) (.tmp 24) 55 106 _ 3 32 rfl Try.underlying55 infoO rfl (by decide) (by decide) _ os.length (ocs os) [.int .i64 N, .string s, .bool true] rfl rfl rfl (by intro u hu; simp only [List.mem_cons, List.not_mem_nil, or_false] at hu; rcases hu with rfl | rfl | rfl <;> rfl) hown1 hB1 hz1 (by omega) ?_; intro v2 w2 hown2 hB2 hg2 hat2; obtain ⟨g, d2, rfl, hd2, hgb⟩ := own_pos hown2 (by omega); clear hg2 hat2 hown1 hB1 hz1; have hm2 := (hB2.block m hlt).trans hat0; have e2 := blk_cell hm2 2; have f2 := blk_frozen hm2 2))
  have hm3 : (w2.setCell ⟨m, 2, none⟩ (.slice (some ⟨g, 0, none⟩) (os.length + 1) d2)).heap[m]? = some (.cells #[.int .i64 F, .int .i64 N, .slice (some ⟨g, 0, none⟩) (os.length + 1) d2] 57 (0, 0)) := (blk_set hm2 2 _).trans rfl
  have hc3 : Hid (g < w2.heap.size ∧ ∀ j u, (ocs os ++ [Value.int .i64 N, .string s, .bool true])[j]? = some u → ∀ x v, (w2.setCell ⟨m, x, none⟩ v).cell? ⟨g, j, none⟩ = some u ∧ (w2.setCell ⟨m, x, none⟩ v).frozen? ⟨g, j, none⟩ = false) := by
    obtain ⟨-, h1, -, h2⟩ := own_cells hown2
    refine ⟨h1, fun j u hu x v => ?_⟩
    obtain ⟨h3, h4⟩ := h2 j u hu
    have hh := RowKit.Below.heap_setCell w2 ⟨m, x, none⟩ v g (by show g ≠ m; omega)
    exact ⟨by rw [World.cell?_of_block (w := w2) hh]; exact h3, by rw [World.frozen?_of_block (w := w2) hh]; exact h4⟩
  have hB3 : Below m w (w2.setCell ⟨m, 2, none⟩ (.slice (some ⟨g, 0, none⟩) (os.length + 1) d2)) := (hB2.mono (Nat.le_of_lt hlt)).setCell (p := ⟨m, 2, none⟩) (Nat.le_refl _) _
  have hg3 : Hid (g < (w2.setCell ⟨m, 2, none⟩ (.slice (some ⟨g, 0, none⟩) (os.length + 1) d2)).heap.size ∧ ∀ j u, (ocs os ++ [Value.int .i64 N, .string s, .bool true])[j]? = some u → (w2.setCell ⟨m, 2, none⟩ (.slice (some ⟨g, 0, none⟩) (os.length + 1) d2)).cell? ⟨g, j, none⟩ = some u ∧ (w2.setCell ⟨m, 2, none⟩ (.slice (some ⟨g, 0, none⟩) (os.length + 1) d2)).frozen? ⟨g, j, none⟩ = false) := by
    have := hc3.out
    exact ⟨by simpa using this.1, fun j u hu => this.2 j u hu 2 _⟩
  clear hc3 hown2 hm2 e2 f2 hB2 c0 c1 c2 hcs hat0 HA
  generalize w2.setCell ⟨m, 2, none⟩ (.slice (some ⟨g, 0, none⟩) (os.length + 1) d2) = w3 at hm3 hB3 hg3 ⊢
  have e0 : w3.cell? ⟨m, 0, none⟩ = some (.int .i64 F) := (blk_cell hm3 0).trans rfl
  have e2 : w3.cell? ⟨m, 2, none⟩ = some (.slice (some ⟨g, 0, none⟩) (os.length + 1) d2) := (blk_cell hm3 2).trans rfl
  have f2 : w3.frozen? ⟨m, 2, none⟩ = false := blk_frozen hm3 2
  have e1 : w3.cell? ⟨m, 1, none⟩ = some (.int .i64 N) := (blk_cell hm3 1).trans rfl
  have f1 : w3.frozen? ⟨m, 1, none⟩ = false := blk_frozen hm3 1
  have en : wrap64 ((N : Int) + 1) = ((N + 1 : Nat) : Int) := by unfold wrap64; omega
  by_cases hF : F < os.length + 1
  · have HF := Lib.hid hF
    have b1 : decide ((F : Int) < (os.length : Int) + 1) = true := decide_eq_true (by omega)
    have b2 : decide ((F : Int) < ((os.length + 1 : Nat) : Int)) = true := decide_eq_true (by omega)
    have hm4 := Lib.hid hm3
    have hB4 := Lib.hid hB3
    have hmg : m < g := by omega
    have hd : 1 ≤ d2 := by omega
    clear hm3 hB3
    go_quiet (fail)
    go_wp2_with fail
    all_goals
      go_ret2
      refine ⟨rfl, ?_, ((bdn hB4.out _).setCell (p := ⟨m, 2, none⟩) (Nat.le_refl _) _).setCell (p := ⟨m, 1, none⟩) (Nat.le_refl _) _⟩
      rw [rpushed, if_pos HF.out]
      have hcs5 : ∀ j u, (ocs (os ++ [((N : Int), s, true)]).tail)[j]? = some u → w3.cell? ⟨g, 3 + j, none⟩ = some u ∧ w3.frozen? ⟨g, 3 + j, none⟩ = false := fun j u hu => by
        have := ocs_tail _ j u hu
        rw [ocs_append] at this
        exact hg3.out.2 _ u this
      have hlen : os.length = ((os ++ [((N : Int), s, true)]).tail).length := by simp
      generalize (os ++ [((N : Int), s, true)]).tail = os' at hlen hcs5
      rw [hlen]
      first
        | exact ⟨some ⟨g, 0, none⟩, 0, RAt.step2 (w3 := w3.drewN _) hm4.out _ _ _ (by omega) (fun h0 => by omega)⟩
        | exact ⟨some ⟨g, 3, none⟩, d2 - 1, RAt.step2 (w3 := w3.drewN _) hm4.out _ _ _ (by omega) (fun _ => ⟨g, 3, rfl, hmg, hg3.out.1, hcs5⟩)⟩
  · have HF := Lib.hid hF
    have b1 : decide ((F : Int) < (os.length : Int) + 1) = false := decide_eq_false (by omega)
    have b2 : decide ((F : Int) < ((os.length + 1 : Nat) : Int)) = false := decide_eq_false (by omega)
    have hm4 := Lib.hid hm3
    have hB4 := Lib.hid hB3
    have hmg : m < g := by omega
    clear hm3 hB3
    go_quiet (fail)
    go_wp2_with fail
    go_ret2
    refine ⟨rfl, ⟨some ⟨g, 0, none⟩, d2, ?_⟩, (bdn hB4.out _).setCell (p := ⟨m, 1, none⟩) (Nat.le_refl _) _⟩
    rw [rpushed, if_neg HF.out]
    refine RAt.step (w3 := w3.drewN _) hm4.out _ _ _ (by simp) (by simpa using hd2) fun _ => ⟨g, 0, rfl, hmg, hg3.out.1, fun j u hu => ?_⟩
    rw [Nat.zero_add]
    exact hg3.out.2 j u (by rw [ocs_append] at hu; exact hu)
end Go.Proofs.Ytidfahjebjaneaa.Que
