/- The walks of check.Seal and check.Open. -/
import Derived.Test.YtcjnfdhdcoobgaaKTail
set_option linter.unusedVariables false
set_option linter.unusedSimpArgs false
namespace Go.Proofs.Ytcjnfdhdcoobgaa.Chk
open Go.RowKit Go.Proofs.YtcjnfdhdcoobgaaW.PrintWords Go.Proofs.YtcjnfdhdcoobgaaW.PrintLast Go.Proofs.YtcjnfdhdcoobgaaW.PrintMore

/-- a slice of bytes of the call's own comes back, and an error -/
def Row8E (l : List Int) (err : Int) (w : World) (e : Ending) (w' : World) : Prop := ∃ v, e = .returned (.tuple #[v, .int .i64 err]) ∧ w'.ownsRow w.heap.size 5 1 v l.length (nums .u8 l) ∧ Below w.heap.size w w'
theorem Box3.keep {w W w2 : World} {B : Nat} {a b c : Value} (h : (W.cell? ⟨B, 0, none⟩ = some a ∧ W.cell? ⟨B, 1, none⟩ = some b ∧ W.cell? ⟨B, 2, none⟩ = some c) ∧ Below w.heap.size w W ∧ B < W.heap.size) (hb : Below W.heap.size W w2) :
    (w2.cell? ⟨B, 0, none⟩ = some a ∧ w2.cell? ⟨B, 1, none⟩ = some b ∧ w2.cell? ⟨B, 2, none⟩ = some c) ∧ Below w.heap.size w w2 ∧ B < w2.heap.size := by
  obtain ⟨⟨h1, h2, h3⟩, h4, h5⟩ := h
  obtain ⟨c1, -⟩ := bcell hb
  exact ⟨⟨by rw [c1 _ _ h5]; exact h1, by rw [c1 _ _ h5]; exact h2, by rw [c1 _ _ h5]; exact h3⟩, bt h4 hb, Nat.lt_of_lt_of_le h5 hb.size⟩
theorem Box3.below {w W : World} {B : Nat} {a b c : Value} (h : (W.cell? ⟨B, 0, none⟩ = some a ∧ W.cell? ⟨B, 1, none⟩ = some b ∧ W.cell? ⟨B, 2, none⟩ = some c) ∧ Below w.heap.size w W ∧ B < W.heap.size) : Below w.heap.size w W := h.2.1
theorem Box3.keepg {w W w2 : World} {B : Nat} {a b c v : Value} (h : (W.cell? ⟨B, 0, none⟩ = some a ∧ W.cell? ⟨B, 1, none⟩ = some b ∧ W.cell? ⟨B, 2, none⟩ = some c) ∧ Below w.heap.size w W ∧ B < W.heap.size) (hg : W.grownBy w2 v.ownBlock) (hne : v.ownBlock ≠ some B) (hB : Below w.heap.size w w2) :
    (w2.cell? ⟨B, 0, none⟩ = some a ∧ w2.cell? ⟨B, 1, none⟩ = some b ∧ w2.cell? ⟨B, 2, none⟩ = some c) ∧ Below w.heap.size w w2 ∧ B < w2.heap.size := by
  obtain ⟨⟨h1, h2, h3⟩, h4, h5⟩ := h
  have e : w2.heap[B]? = W.heap[B]? := hg.block B h5 (fun h => hne h.symm)
  have c1 : ∀ o, w2.cell? ⟨B, o, none⟩ = W.cell? ⟨B, o, none⟩ := fun o => by unfold World.cell?; simp only [e]
  exact ⟨⟨by rw [c1]; exact h1, by rw [c1]; exact h2, by rw [c1]; exact h3⟩, hB, Nat.lt_of_lt_of_le h5 hg.size⟩
theorem Box3.ne {w W w2 : World} {B : Nat} {a b c v : Value} {e : TypeId} {size n : Nat} {xs : List Value} (h : (W.cell? ⟨B, 0, none⟩ = some a ∧ W.cell? ⟨B, 1, none⟩ = some b ∧ W.cell? ⟨B, 2, none⟩ = some c) ∧ Below w.heap.size w W ∧ B < W.heap.size) (ho : w2.ownsRow W.heap.size e size v n xs) : v.ownBlock ≠ some B :=
  fun hv => by have := own_base ho B hv; have := h.2.2; omega
theorem Box3.init {w w1 : World} {a b c : Value} {t : TypeId} (hb1 : Below w.heap.size w w1) :
    ((w1.alloc (.cells #[a, b, c] t)).drew.cell? ⟨w1.heap.size, 0, none⟩ = some a ∧ (w1.alloc (.cells #[a, b, c] t)).drew.cell? ⟨w1.heap.size, 1, none⟩ = some b ∧ (w1.alloc (.cells #[a, b, c] t)).drew.cell? ⟨w1.heap.size, 2, none⟩ = some c) ∧
      Below w.heap.size w (w1.alloc (.cells #[a, b, c] t)).drew ∧ w1.heap.size < (w1.alloc (.cells #[a, b, c] t)).drew.heap.size := by
  refine ⟨⟨?_, ?_, ?_⟩, bd (ba hb1 _), ?_⟩ <;> simp
set_option maxRecDepth 100000 in
set_option maxHeartbeats 1000000 in
theorem seal_knd {wd st p : Nat} (hk : Knd wd st p) (A : Option Addr) (c : Nat) (l : List Int) (w : World)
    (hl : l.length ≤ 4096) (hlu : ∀ x ∈ l, 0 ≤ x ∧ x ≤ 255) (hr : ReadsInt w .u8 A l.length l) :
    Calls Try.prog 56 #[.int .i64 wd, .slice A l.length c] w (Row8E (l ++ tailL wd (sumN wd st p l (8 * l.length)) (wd / 8)) 0 w) := by
  have HLU := Lib.hid hlu
  have HS24 := Lib.hid (show sumN wd st p l (8 * l.length) < 16777216 from Nat.lt_of_lt_of_le (sumN_lt hk l _) hk.w.2.2.2.2.2.1)
  have hw24 := hk.w.2.1
  clear hlu
  have e8 := Lib.hid (show (8 * (l.length : Int)).toNat = 8 * l.length by omega)
  go_enter Try.func56, Try.ntmps56
  go_wp2_with (go_at_call 73; refine (of_knd hk _).mono ?_; rintro e w1 ⟨rfl, hb1⟩)
  have g0 : IntKind.i64.wrap (8 * (l.length : Int)) = 8 * (l.length : Int) := IntWalk.i64_in _ (by omega)
  go_region_held3 (fun w' => (w'.cell? ⟨w1.heap.size, 0, none⟩ = some (.int .i64 wd) ∧ w'.cell? ⟨w1.heap.size, 1, none⟩ = some (.int .u32 st) ∧ w'.cell? ⟨w1.heap.size, 2, none⟩ = some (.int .u32 p)) ∧ Below w.heap.size w w' ∧ w1.heap.size < w'.heap.size)
    (first | exact Box3.init hb1 | exact Box3.keep (by assumption) (by assumption) | exact Box3.keepg (by assumption) (by assumption) hne (by assumption))
    (first
      | (go_at_call 54; refine (clone_any _ _ _ l _ (by omega) (hr.below (Box3.below (by assumption)))).mono ?_; rintro e w2 ⟨vC, rfl, hC0, hb2⟩; have hne := Box3.ne (by assumption) hC0; have hC := own_weaken hC0 (Box3.below (by assumption)).size; clear hC0)
      | (go_at_call 75; refine (sum_any hk _ _ l _ _ (by omega) (by omega) (by omega) HLU.out (hr.below (Box3.below (by assumption)))).mono ?_; rintro e w3 ⟨rfl, hb3⟩; rw [e8.out]; (try have hCs := pw_own_below hC hb3))
      | (go_at_call 74; refine (tail_any hk _ HS24.out _).mono ?_; rintro e w4 ⟨vT, rfl, hT, hb4⟩; obtain ⟨AT, cT, rfl, hRT⟩ := own_reads hT; (try have hCt := pw_own_below hC hb4); (try have hCt := pw_own_below hCs hb4))
      | ((refine step_append_row w.heap.size rfl (.tmp 17) (.tmp 25) 37 5 .u8 1 rfl Try.underlying37 info8 (by decide) _ l _ _ _ _ rfl rfl (by first | exact hC | exact hCt) (by first | exact hRT | exact hRT.below hb2) (Box3.below (by assumption)) (Box3.below (by assumption)).size (by rw [tailL_length]; omega) ?_); intro v1 w5 hown hB5 hg5))
  all_goals
    go_wp2
    go_ret2
    exact ⟨v1, rfl, hown, hB5⟩
/-- what is in the bytes without their sum, and whether the sum fits -/
def fits (wd st p : Nat) (l : List Int) : Prop := wd / 8 ≤ l.length ∧ tailL wd (sumN wd st p l (8 * (l.length - wd / 8))) (wd / 8) = l.drop (l.length - wd / 8)
instance (wd st p : Nat) (l : List Int) : Decidable (fits wd st p l) := by unfold fits; infer_instance
set_option maxRecDepth 100000 in
set_option maxHeartbeats 400000 in
theorem open_short {wd st p : Nat} (hk : Knd wd st p) (A : Option Addr) (c : Nat) (l : List Int) (w : World) (hl : l.length < wd / 8) :
    Calls Try.prog 60 #[.int .i64 wd, .slice A l.length c] w (fun e w' => e = .returned (.tuple #[.slice none 0 0, .int .i64 60]) ∧ Below w.heap.size w w') := by
  have hw2 := hk.w.2.1
  have hneg : decide ((l.length : Int) - (wd : Int) / 8 < 0) = true := decide_eq_true (by omega)
  go_enter Try.func60, Try.ntmps60
  go_wp2_with (go_at_call 73; refine (of_knd hk _).mono ?_; rintro e w1 ⟨rfl, hb1⟩)
  go_quiet (fail)
  go_wp2
  go_ret2
  exact ⟨rfl, pw_below_drewN (ba hb1 _) _⟩
set_option maxRecDepth 100000 in
set_option maxHeartbeats 1000000 in
theorem open_yes {wd st p : Nat} (hk : Knd wd st p) (A : Option Addr) (c : Nat) (l : List Int) (w : World) (hl : l.length ≤ 4096) (hc : l.length ≤ c) (hlu : ∀ x ∈ l, 0 ≤ x ∧ x ≤ 255)
    (hr : ReadsInt w .u8 A l.length l) (hf : fits wd st p l) :
    Calls Try.prog 60 #[.int .i64 wd, .slice A l.length c] w (Row8E (l.take (l.length - wd / 8)) 0 w) := by
  have HLU := Lib.hid hlu
  clear hlu
  obtain ⟨f1, f2⟩ := hf
  obtain ⟨j, hj, hj0, hj1, HJ⟩ : ∃ j : Int, (l.length : Int) - (wd : Int) / 8 = j ∧ 0 ≤ j ∧ j ≤ l.length ∧ Hid (j.toNat = l.length - wd / 8 ∧ (8 * j).toNat = 8 * (l.length - wd / 8)) := ⟨_, rfl, by omega, by omega, by constructor <;> omega⟩
  have HF := Lib.hid f2
  have HS24 := Lib.hid (show sumN wd st p l (8 * (l.length - wd / 8)) < 16777216 from Nat.lt_of_lt_of_le (sumN_lt hk l _) hk.w.2.2.2.2.2.1)
  have hw24 := hk.w.2.1
  have hneg : decide (j < 0) = false := decide_eq_false (by omega)
  have g0 : IntKind.i64.wrap (8 * j) = 8 * j := IntWalk.i64_in _ (by omega)
  obtain ⟨i8, hi8, -, hs8, -⟩ := info_parts info8
  obtain ⟨A', hcut, hrc, hcc⟩ := print_cut_int (P := Try.prog) (k := .u8) 37 5 Try.underlying37 hi8 hs8 A c l j hj0 hj1 hc
  obtain ⟨htake, hrt, hct⟩ := print_take_int (P := Try.prog) (k := .u8) 37 5 Try.underlying37 hi8 hs8 A c l j hj0 hj1 hc
  have el1 : (l.drop j.toNat).length = l.length - j.toNat := List.length_drop
  have el2 : (l.take j.toNat).length = j.toNat := by rw [List.length_take]; omega
  rw [el1] at hrc hcc
  rw [el2] at hrt hct
  simp only [el1] at hcut
  simp only [el2] at htake
  clear el1 el2
  have HRC := Lib.hid hrc
  have HRT := Lib.hid hrt
  have HDR : Hid (∀ x ∈ l.drop j.toNat, 0 ≤ x ∧ x ≤ 255) := fun x hx => HLU.out x (List.mem_of_mem_drop hx)
  have HTL : Hid (∀ x ∈ tailL wd (sumN wd st p l (8 * (l.length - wd / 8))) (wd / 8), 0 ≤ x ∧ x ≤ 255) := by
    show ∀ x ∈ _, _
    intro x hx
    rw [f2] at hx
    exact HLU.out x (List.mem_of_mem_drop hx)
  clear f1 f2 hi8 hrc hrt
  go_enter Try.func60, Try.ntmps60
  go_wp2_with (go_at_call 73; refine (of_knd hk _).mono ?_; rintro e w1 ⟨rfl, hb1⟩)
  go_region_held3 (fun w' => (w'.cell? ⟨w1.heap.size, 0, none⟩ = some (.int .i64 wd) ∧ w'.cell? ⟨w1.heap.size, 1, none⟩ = some (.int .u32 st) ∧ w'.cell? ⟨w1.heap.size, 2, none⟩ = some (.int .u32 p)) ∧ Below w.heap.size w w' ∧ w1.heap.size < w'.heap.size)
    (first | assumption | exact Box3.init hb1 | exact Box3.keep (by assumption) (by assumption))
    (first
      | (go_at_call 75; refine (sum_any hk _ _ l _ _ (by omega) (by omega) (by omega) HLU.out (hr.below (Box3.below (by assumption)))).mono ?_; rintro e w3 ⟨rfl, hb3⟩; rw [HJ.out.2])
      | (go_at_call 74; refine (tail_any hk _ HS24.out _).mono ?_; rintro e w4 ⟨vT, rfl, hT, hb4⟩; obtain ⟨AT, cT, rfl, hRT⟩ := own_reads hT)
      | (go_at_call 79; refine (equal_any _ _ _ _ _ _ _ (l.drop j.toNat) _ hRT (HRC.out _ (hr.below (Box3.below (by assumption)))) HTL.out HDR.out).mono ?_; rintro e w5 ⟨rfl, rfl⟩; rw [HJ.out.1, decide_eq_true HF.out])
      | fail)
  go_wp2_with (go_at_call 54; refine (clone_any _ _ _ (l.take j.toNat) _ (by rw [List.length_take]; omega) (HRT.out _ (hr.below (Box3.below (by assumption))))).mono ?_; rintro e w6 ⟨vC, rfl, hC0, hb6⟩)
  go_ret2
  rw [← HJ.out.1]
  exact ⟨vC, rfl, own_weaken hC0 (Box3.below (by assumption)).size, bt (Box3.below (by assumption)) hb6⟩
set_option maxRecDepth 100000 in
set_option maxHeartbeats 1000000 in
theorem open_no {wd st p : Nat} (hk : Knd wd st p) (A : Option Addr) (c : Nat) (l : List Int) (w : World) (hl : l.length ≤ 4096) (hc : l.length ≤ c) (hlu : ∀ x ∈ l, 0 ≤ x ∧ x ≤ 255)
    (hr : ReadsInt w .u8 A l.length l) (f1 : wd / 8 ≤ l.length) (hf : ¬ fits wd st p l) :
    Calls Try.prog 60 #[.int .i64 wd, .slice A l.length c] w (fun e w' => e = .returned (.tuple #[.slice none 0 0, .int .i64 60]) ∧ Below w.heap.size w w') := by
  have f2 : ¬ tailL wd (sumN wd st p l (8 * (l.length - wd / 8))) (wd / 8) = l.drop (l.length - wd / 8) := fun h => hf ⟨f1, h⟩
  clear hf
  have HLU := Lib.hid hlu
  clear hlu
  obtain ⟨j, hj, hj0, hj1, HJ⟩ : ∃ j : Int, (l.length : Int) - (wd : Int) / 8 = j ∧ 0 ≤ j ∧ j ≤ l.length ∧ Hid (j.toNat = l.length - wd / 8 ∧ (8 * j).toNat = 8 * (l.length - wd / 8)) := ⟨_, rfl, by omega, by omega, by constructor <;> omega⟩
  have HF := Lib.hid f2
  have HS24 := Lib.hid (show sumN wd st p l (8 * (l.length - wd / 8)) < 16777216 from Nat.lt_of_lt_of_le (sumN_lt hk l _) hk.w.2.2.2.2.2.1)
  have hw24 := hk.w.2.1
  have hneg : decide (j < 0) = false := decide_eq_false (by omega)
  have g0 : IntKind.i64.wrap (8 * j) = 8 * j := IntWalk.i64_in _ (by omega)
  obtain ⟨i8, hi8, -, hs8, -⟩ := info_parts info8
  obtain ⟨A', hcut, hrc, hcc⟩ := print_cut_int (P := Try.prog) (k := .u8) 37 5 Try.underlying37 hi8 hs8 A c l j hj0 hj1 hc
  obtain ⟨htake, hrt, hct⟩ := print_take_int (P := Try.prog) (k := .u8) 37 5 Try.underlying37 hi8 hs8 A c l j hj0 hj1 hc
  have el1 : (l.drop j.toNat).length = l.length - j.toNat := List.length_drop
  have el2 : (l.take j.toNat).length = j.toNat := by rw [List.length_take]; omega
  rw [el1] at hrc hcc
  rw [el2] at hrt hct
  simp only [el1] at hcut
  simp only [el2] at htake
  clear el1 el2
  have HRC := Lib.hid hrc
  have HRT := Lib.hid hrt
  have HDR : Hid (∀ x ∈ l.drop j.toNat, 0 ≤ x ∧ x ≤ 255) := fun x hx => HLU.out x (List.mem_of_mem_drop hx)
  have HTL : Hid (∀ x ∈ tailL wd (sumN wd st p l (8 * (l.length - wd / 8))) (wd / 8), 0 ≤ x ∧ x ≤ 255) := tailL_byte _ _ _
  clear f1 f2 hi8 hrc hrt
  go_enter Try.func60, Try.ntmps60
  go_wp2_with (go_at_call 73; refine (of_knd hk _).mono ?_; rintro e w1 ⟨rfl, hb1⟩)
  go_region_held3 (fun w' => (w'.cell? ⟨w1.heap.size, 0, none⟩ = some (.int .i64 wd) ∧ w'.cell? ⟨w1.heap.size, 1, none⟩ = some (.int .u32 st) ∧ w'.cell? ⟨w1.heap.size, 2, none⟩ = some (.int .u32 p)) ∧ Below w.heap.size w w' ∧ w1.heap.size < w'.heap.size)
    (first | assumption | exact Box3.init hb1 | exact Box3.keep (by assumption) (by assumption))
    (first
      | (go_at_call 75; refine (sum_any hk _ _ l _ _ (by omega) (by omega) (by omega) HLU.out (hr.below (Box3.below (by assumption)))).mono ?_; rintro e w3 ⟨rfl, hb3⟩; rw [HJ.out.2])
      | (go_at_call 74; refine (tail_any hk _ HS24.out _).mono ?_; rintro e w4 ⟨vT, rfl, hT, hb4⟩; obtain ⟨AT, cT, rfl, hRT⟩ := own_reads hT)
      | (go_at_call 79; refine (equal_any _ _ _ _ _ _ _ (l.drop j.toNat) _ hRT (HRC.out _ (hr.below (Box3.below (by assumption)))) HTL.out HDR.out).mono ?_; rintro e w5 ⟨rfl, rfl⟩; rw [HJ.out.1, decide_eq_false HF.out])
      | fail)
  go_wp2
  go_ret2
  exact ⟨rfl, Box3.below (by assumption)⟩
end Go.Proofs.Ytcjnfdhdcoobgaa.Chk
