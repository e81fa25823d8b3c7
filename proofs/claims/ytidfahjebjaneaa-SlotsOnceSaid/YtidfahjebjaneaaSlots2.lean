/- The walk of the statement SlotsTurns. -/
import Derived.Test.YtidfahjebjaneaaSlots1
set_option linter.unusedVariables false
set_option linter.unusedSimpArgs false
namespace Go.Proofs.Ytidfahjebjaneaa.Slt
open Go.RowKit Go.Proofs.YtidfahjebjaneaaW.PrintWords Go.Proofs.YtidfahjebjaneaaW.PrintLast Go.Proofs.YtidfahjebjaneaaW.PrintMore Go.Proofs.Ytidfahjebjaneaa.PSlotsTurns

theorem turn_c (S F i s : Int) (w : World) : Calls Try.prog 19 #[.agg #[.int .i64 S, .int .i64 F], .int .i64 i, .int .i64 s] w fun e w' => e = .returned (.tuple #[.int .i64 (turnV S F i s).1, .int .i64 (turnV S F i s).2]) ∧ Below w.heap.size w w' :=
  slots_Turn.calls S F i s _ _ w (turn_f S F i s)
theorem rturn_c (S F i s : Int) (w : World) : Calls Try.prog 20 #[.agg #[.int .i64 S, .int .i64 F], .int .i64 i, .int .i64 s] w fun e w' => e = .returned (.tuple #[.int .i64 (turnV S F i s).1, .int .i64 (turnV S F i s).2]) ∧ Below w.heap.size w w' :=
  psalteryref28_Turn.calls S F i s _ _ w (rturn_f S F i s)
theorem alive_c (w : World) : Calls Try.prog 18 #[] w fun e w' => e = .returned (.bool true) ∧ Below w.heap.size w w' := psalterylaw28_alive.calls true w alive_f
theorem check_yes {S F : Int} (h : Link S F) (w : World) : Calls Try.prog 22 #[.agg #[.int .i64 S, .int .i64 F]] w fun e w' => e = .returned (.int .i64 0) ∧ Below w.heap.size w w' :=
  slots_Check.calls S F 0 w (by rw [check_f, if_pos h])
theorem check_no {S F : Int} (h : ¬ Link S F) (w : World) : Calls Try.prog 22 #[.agg #[.int .i64 S, .int .i64 F]] w fun e w' => e = .returned (.int .i64 1) ∧ Below w.heap.size w w' :=
  slots_Check.calls S F 1 w (by rw [check_f, if_neg h])
theorem rcheck_yes {S F : Int} (h : Link S F) (w : World) : Calls Try.prog 21 #[.agg #[.int .i64 S, .int .i64 F]] w fun e w' => e = .returned (.bool true) ∧ Below w.heap.size w w' :=
  psalteryref28_Check.calls S F true w (by rw [rcheck_f, decide_eq_true h])
theorem rcheck_no {S F : Int} (h : ¬ Link S F) (w : World) : Calls Try.prog 21 #[.agg #[.int .i64 S, .int .i64 F]] w fun e w' => e = .returned (.bool false) ∧ Below w.heap.size w w' :=
  psalteryref28_Check.calls S F false w (by rw [rcheck_f, decide_eq_false h])

def ps (S F : Int) : List (Nat × Nat) := pairs S.toNat F.toNat
theorem Link.nat {S F : Int} (h : Link S F) : ∃ s f : Nat, S = s ∧ F = f ∧ s ≤ 16 ∧ 1 ≤ f ∧ f ≤ 8 := ⟨S.toNat, F.toNat, by unfold Link at h; omega, by unfold Link at h; omega, by unfold Link at h; omega, by unfold Link at h; omega, by unfold Link at h; omega⟩

def Rows48 (S F k err : Int) (w : World) (e : Ending) (w' : World) : Prop := ∃ v, e = .returned (.tuple #[v, .int .i64 err]) ∧ Kd.R k48 48 w' w.heap.size (fun _ => True) v ((ps S F).map fun q => P48 k.toNat q.1 q.2) ∧ Below w.heap.size w w'
def Row47 (S F k : Int) (w : World) (e : Ending) (w' : World) : Prop := ∃ v, e = .returned v ∧ Kd.R k47 47 w' w.heap.size (fun _ => True) v ((ps S F).map fun q => P47 k.toNat q.1 q.2) ∧ Below w.heap.size w w'

theorem chances_yes {S F k : Int} (h : Link S F) (hk : 0 ≤ k ∧ k < 16777216) (w : World) : Calls Try.prog 23 #[.agg #[.int .i64 S, .int .i64 F], .int .i64 k] w (Rows48 S F k 0 w) := by
  obtain ⟨s, f, rfl, rfl, h1, h2, h3⟩ := h.nat
  obtain ⟨n, rfl⟩ := Int.eq_ofNat_of_zero_le hk.1
  obtain ⟨K, hK⟩ := chances_f h1 h2 h3 (show n < 16777216 by omega)
  refine (slots_Chances.calls K s f n ((pairs s f).map fun q : Nat × Nat => P48 n q.1 q.2) 0 w ?_).mono fun e w' h => h
  unfold slots_Chances.f
  rw [may_f, if_pos ⟨h, hk⟩]
  simp only [Option.bind_some, if_true]
  rw [hK, ch_same]; rfl
theorem chances_no {S F k : Int} (h : ¬ (Link S F ∧ 0 ≤ k ∧ k < 16777216)) (w : World) : Calls Try.prog 23 #[.agg #[.int .i64 S, .int .i64 F], .int .i64 k] w fun e w' => ∃ A c, e = .returned (.tuple #[.slice A 0 c, .int .i64 1]) ∧ Below w.heap.size w w' := by
  refine (slots_Chances.calls 0 S F k [] 1 w ?_).mono fun e w' h => ?_
  · unfold slots_Chances.f
    rw [may_f, if_neg h]
    rfl
  · obtain ⟨v, rfl, hR, hb⟩ := h
    obtain ⟨A, c, rfl, -, -⟩ := Kd.R_reads hR
    exact ⟨A, c, rfl, hb⟩
theorem rchances_yes {S F k : Int} (h : Link S F) (hk : 0 ≤ k ∧ k < 16777216) (w : World) : Calls Try.prog 24 #[.agg #[.int .i64 S, .int .i64 F], .int .i64 k] w (Row47 S F k w) := by
  obtain ⟨s, f, rfl, rfl, h1, h2, h3⟩ := h.nat
  obtain ⟨n, rfl⟩ := Int.eq_ofNat_of_zero_le hk.1
  obtain ⟨K, hK⟩ := rchances_f h1 h2 h3 (show n < 16777216 by omega)
  refine (psalteryref28_Chances.calls K s f n _ w hK).mono fun e w' h => ?_
  rw [rch_same] at h
  exact h

theorem eqA47 (d : Nat) (w : World) (x0 y0 : Int) (x1 y1 : Int) :
    (Op.equalIn (d + 2) 47 (.agg #[.int .i64 x0, .int .i64 x1]) (.agg #[.int .i64 y0, .int .i64 y1])).run Try.prog w = .ok (x0 == y0 && (x1 == y1)) w := by
  refine eqA_of Try.underlying47 (by kernel_rfl) ?_
  refine eqf_cons (by rfl) (by go_simp; rfl) (by go_simp; rfl) (by go_simp) ?_
  exact eqf_last (by rfl) (by go_simp; rfl) (by go_simp; rfl) (by go_simp)
theorem neq47 (w : World) (x0 x1 : Int) : (binOp .neq 47 (.agg #[.int .i64 x0, .int .i64 x1]) (.agg #[.int .i64 x0, .int .i64 x1])).run Try.prog w = .ok (.bool false) w := by
  simp only [binOp]
  simp [Op.equal, Op.maxDepth, eqA47 9998 w x0 x0 x1 x1]

theorem drewN_add (w : World) (a b : Nat) : (w.drewN a).drewN b = w.drewN (a + b) := by simp [World.drewN, Nat.add_assoc]
theorem same_f0 (l : List (Nat × Nat)) (k n : Nat) : (rd_T47 (l.map fun q => P47 k q.1 q.2) n).f0 = (rd_T48 (l.map fun q => P48 k q.1 q.2) n).f0 := by
  unfold rd_T47 rd_T48
  rw [List.getD_eq_getElem?_getD, List.getD_eq_getElem?_getD, List.getElem?_map, List.getElem?_map]
  cases l[(n : Int).toNat]? <;> rfl
theorem same_f1 (l : List (Nat × Nat)) (k n : Nat) : (rd_T47 (l.map fun q => P47 k q.1 q.2) n).f1 = (rd_T48 (l.map fun q => P48 k q.1 q.2) n).f1 := by
  unfold rd_T47 rd_T48
  rw [List.getD_eq_getElem?_getD, List.getD_eq_getElem?_getD, List.getElem?_map, List.getElem?_map]
  cases l[(n : Int).toNat]? <;> rfl
theorem Box2.keep {w W w2 : World} {B : Nat} {a b : Value} (h : (W.cell? ⟨B, 0, none⟩ = some a ∧ W.cell? ⟨B, 1, none⟩ = some b) ∧ Below w.heap.size w W ∧ B < W.heap.size) (hb : Below W.heap.size W w2) :
    (w2.cell? ⟨B, 0, none⟩ = some a ∧ w2.cell? ⟨B, 1, none⟩ = some b) ∧ Below w.heap.size w w2 ∧ B < w2.heap.size := by
  obtain ⟨⟨h1, h2⟩, h4, h5⟩ := h
  obtain ⟨c1, -⟩ := bcell hb
  exact ⟨⟨by rw [c1 _ _ h5]; exact h1, by rw [c1 _ _ h5]; exact h2⟩, bt h4 hb, Nat.lt_of_lt_of_le h5 hb.size⟩
theorem Box2.drew {w W : World} {B : Nat} {a b : Value} (h : (W.cell? ⟨B, 0, none⟩ = some a ∧ W.cell? ⟨B, 1, none⟩ = some b) ∧ Below w.heap.size w W ∧ B < W.heap.size) :
    (W.drew.cell? ⟨B, 0, none⟩ = some a ∧ W.drew.cell? ⟨B, 1, none⟩ = some b) ∧ Below w.heap.size w W.drew ∧ B < W.drew.heap.size := ⟨h.1, bd h.2.1, h.2.2⟩
theorem Box2.init (w : World) (a b : Value) (t : TypeId) :
    ((w.alloc (.cells #[a, b] t)).cell? ⟨w.heap.size, 0, none⟩ = some a ∧ (w.alloc (.cells #[a, b] t)).cell? ⟨w.heap.size, 1, none⟩ = some b) ∧ Below w.heap.size w (w.alloc (.cells #[a, b] t)) ∧ w.heap.size < (w.alloc (.cells #[a, b] t)).heap.size := by
  refine ⟨⟨?_, ?_⟩, ba (br w) _, ?_⟩ <;> simp

set_option maxRecDepth 100000 in
set_option maxHeartbeats 1000000 in
theorem turns_yes (S F i s k : Int) (hL : Link S F) (w : World) :
    Calls Try.prog 4 #[.agg #[.int .i64 S, .int .i64 F], .int .i64 i, .int .i64 s, .int .i64 k] w fun e w' => e = .returned (.bool true) ∧ Below w.heap.size w w' := by
  go_enter Try.func4, Try.ntmps4
  go_wp2_with fail
  have hbox := Box2.init w (.int .i64 S) (.int .i64 F) 34
  refine (alive_c _).mono ?_
  rintro e w1 ⟨rfl, hb1⟩
  replace hbox := Box2.keep hbox hb1
  obtain ⟨⟨c0, c1⟩, hb, hlt⟩ := id hbox
  clear hb1
  go_wp2_with fail
  refine (turn_c _ _ _ _ _).mono ?_
  rintro e w2 ⟨rfl, hb2⟩
  replace hbox := Box2.keep hbox hb2
  obtain ⟨⟨c0, c1⟩, hb, hlt⟩ := id hbox
  clear hb2
  go_wp2_with fail
  refine (rturn_c _ _ _ _ _).mono ?_
  rintro e w3 ⟨rfl, hb3⟩
  replace hbox := Box2.keep hbox hb3
  obtain ⟨⟨c0, c1⟩, hb, hlt⟩ := id hbox
  clear hb3
  go_wp2_with fail
  go_region_held3 (fun w' => (w'.cell? ⟨w.heap.size, 0, none⟩ = some (.int .i64 S) ∧ w'.cell? ⟨w.heap.size, 1, none⟩ = some (.int .i64 F)) ∧ Below w.heap.size w w' ∧ w.heap.size < w'.heap.size)
    (first | exact Box2.drew (by assumption) | exact Box2.keep (by assumption) (by assumption))
    (first
      | (go_at_call 22; refine (check_yes hL _).mono ?_; rintro e w4 ⟨rfl, hb4⟩)
      | (go_at_call 21; refine (rcheck_yes hL _).mono ?_; rintro e w5 ⟨rfl, hb5⟩)
      | fail)
  have hbox4 := ‹(w4.cell? _ = some _ ∧ w4.cell? _ = some _) ∧ Below w.heap.size w w4 ∧ _›
  clear hbox hb hlt c0 c1
  obtain ⟨⟨c0, c1⟩, hb, hlt⟩ := id hbox4
  by_cases hk : 0 ≤ k ∧ k < 16777216
  · go_wp2_with fail
    refine (chances_yes hL hk _).mono ?_
    rintro e w6 ⟨v1, rfl, hR1, hb6⟩
    have hbox6 := Box2.keep hbox4 hb6
    clear hb6 hbox4 hb hlt c0 c1
    obtain ⟨⟨c0, c1⟩, hb, hlt⟩ := id hbox6
    go_wp2_with fail
    refine (rcheck_yes hL _).mono ?_
    rintro e w7 ⟨rfl, hb7⟩
    have hbox7 := Box2.keep hbox6 hb7
    have hR1 := Kd.R_below hR1 hb7
    clear hb7 hbox6 hb hlt c0 c1
    obtain ⟨⟨c0, c1⟩, hb, hlt⟩ := id hbox7
    go_wp2_with fail
    refine (rchances_yes hL hk _).mono ?_
    rintro e w8 ⟨v2, rfl, hR2, hb8⟩
    have hbox8 := Box2.keep hbox7 hb8
    have hR1 := Kd.R_below hR1 hb8
    clear hb8 hbox7 hb hlt c0 c1
    obtain ⟨⟨c0, c1⟩, hb, hlt⟩ := id hbox8
    obtain ⟨A1, d1, rfl, -, hC1⟩ := Kd.R_reads hR1
    obtain ⟨A2, d2, rfl, -, hC2⟩ := Kd.R_reads hR2
    have l1 : ((ps S F).map fun q => P48 k.toNat q.1 q.2).length = (ps S F).length := List.length_map ..
    have l2 : ((ps S F).map fun q => P47 k.toNat q.1 q.2).length = (ps S F).length := List.length_map ..
    rw [l1] at hC1
    rw [l2] at hC2
    rw [l1, l2]
    obtain ⟨m, hm⟩ : ∃ m, m = (ps S F).length := ⟨_, rfl⟩
    have hm16 : m ≤ 16 := by
      obtain ⟨s, f, rfl, rfl, h1, h2, h3⟩ := hL.nat
      have := (pairs_in h1 h2 h3).1
      rw [hm]; unfold ps; simpa using Nat.le_trans this h1
    rw [← hm] at hC1 hC2 ⊢
    have HM := Lib.hid hm
    clear hm l1 l2 hR1 hR2
    have hneq := neq47
    go_wp2
    go_loopg [16] m (fun g x wr => ∃ n q : Nat, n ≤ m ∧ g = m - n ∧ x = .int .i64 n ∧ wr = w8.drewN q)
    case atStart => exact ⟨0, 0, by omega, by omega, rfl, rfl⟩
    case round =>
      obtain ⟨n, q, hn, rfl, rfl, rfl⟩ := hrel
      by_cases hlt' : n < m
      · obtain ⟨ad1, rfl, x1, x2⟩ := at_T48 hC1 (n : Int) (by omega) (by omega)
        obtain ⟨ad2, rfl, y1, y2⟩ := at_T47 hC2 (n : Int) (by omega) (by omega)
        rw [Int.toNat_natCast] at x1 x2 y1 y2
        have e1 : (rd_T47 ((ps S F).map fun q => P47 k.toNat q.1 q.2) n).f0 = (rd_T48 ((ps S F).map fun q => P48 k.toNat q.1 q.2) n).f0 := same_f0 _ _ _
        have e2 : (rd_T47 ((ps S F).map fun q => P47 k.toNat q.1 q.2) n).f1 = (rd_T48 ((ps S F).map fun q => P48 k.toNat q.1 q.2) n).f1 := same_f1 _ _ _
        rw [e1] at y1
        rw [e2] at y2
        generalize (rd_T48 ((ps S F).map fun q => P48 k.toNat q.1 q.2) n).f0 = a at *
        generalize (rd_T48 ((ps S F).map fun q => P48 k.toNat q.1 q.2) n).f1 = b at *
        clear e1 e2 hC1 hC2 hbox8
        go_wp2
        go_quiet (fail)
        go_wp2
        go_roundg (m - (n + 1))
        case measure => omega
        case rel => exact ⟨n + 1, _, by omega, rfl, by go_num, rfl⟩
      · go_wp2
        go_ret
        exact ⟨rfl, pw_below_drewN hb _⟩
  · go_wp2_with fail
    refine (chances_no (fun h => hk h.2) _).mono ?_
    rintro e w6 ⟨A, c, rfl, hb6⟩
    have hbox6 := Box2.keep hbox4 hb6
    clear hb6 hbox4 hb hlt c0 c1
    obtain ⟨⟨c0, c1⟩, hb, hlt⟩ := id hbox6
    go_wp2_with fail
    refine (rcheck_yes hL _).mono ?_
    rintro e w7 ⟨rfl, hb7⟩
    have hb := bt hb hb7
    by_cases hk0 : k < 0
    · go_wp2
      go_ret
      exact ⟨rfl, hb⟩
    · have hk1 : 16777216 ≤ k := by omega
      go_wp2
      go_ret
      exact ⟨rfl, hb⟩

set_option maxRecDepth 100000 in
set_option maxHeartbeats 1000000 in
theorem turns_no (S F i s k : Int) (hL : ¬ Link S F) (w : World) :
    Calls Try.prog 4 #[.agg #[.int .i64 S, .int .i64 F], .int .i64 i, .int .i64 s, .int .i64 k] w fun e w' => e = .returned (.bool true) ∧ Below w.heap.size w w' := by
  go_enter Try.func4, Try.ntmps4
  go_wp2_with fail
  have hbox := Box2.init w (.int .i64 S) (.int .i64 F) 34
  refine (alive_c _).mono ?_
  rintro e w1 ⟨rfl, hb1⟩
  replace hbox := Box2.keep hbox hb1
  obtain ⟨⟨c0, c1⟩, hb, hlt⟩ := id hbox
  clear hb1
  go_wp2_with fail
  refine (turn_c _ _ _ _ _).mono ?_
  rintro e w2 ⟨rfl, hb2⟩
  replace hbox := Box2.keep hbox hb2
  obtain ⟨⟨c0, c1⟩, hb, hlt⟩ := id hbox
  clear hb2
  go_wp2_with fail
  refine (rturn_c _ _ _ _ _).mono ?_
  rintro e w3 ⟨rfl, hb3⟩
  replace hbox := Box2.keep hbox hb3
  obtain ⟨⟨c0, c1⟩, hb, hlt⟩ := id hbox
  clear hb3
  go_wp2_with fail
  go_region_held3 (fun w' => (w'.cell? ⟨w.heap.size, 0, none⟩ = some (.int .i64 S) ∧ w'.cell? ⟨w.heap.size, 1, none⟩ = some (.int .i64 F)) ∧ Below w.heap.size w w' ∧ w.heap.size < w'.heap.size)
    (first | exact Box2.drew (by assumption) | exact Box2.keep (by assumption) (by assumption))
    (first
      | (go_at_call 22; refine (check_no hL _).mono ?_; rintro e w4 ⟨rfl, hb4⟩)
      | (go_at_call 21; refine (rcheck_no hL _).mono ?_; rintro e w5 ⟨rfl, hb5⟩)
      | fail)
  have hbox4 := ‹(w4.cell? _ = some _ ∧ w4.cell? _ = some _) ∧ Below w.heap.size w w4 ∧ _›
  clear hbox hb hlt c0 c1
  obtain ⟨⟨c0, c1⟩, hb, hlt⟩ := id hbox4
  go_wp2_with fail
  refine (chances_no (fun h => hL h.1) _).mono ?_
  rintro e w6 ⟨A, c, rfl, hb6⟩
  have hbox6 := Box2.keep hbox4 hb6
  clear hb6 hbox4 hb hlt c0 c1
  obtain ⟨⟨c0, c1⟩, hb, hlt⟩ := id hbox6
  go_wp2_with fail
  refine (rcheck_no hL _).mono ?_
  rintro e w7 ⟨rfl, hb7⟩
  have hb := bt hb hb7
  go_wp2
  go_ret
  exact ⟨rfl, hb⟩

theorem turns_any (S F i s k : Int) (w : World) :
    Calls Try.prog 4 #[.agg #[.int .i64 S, .int .i64 F], .int .i64 i, .int .i64 s, .int .i64 k] w fun e w' => e = .returned (.bool true) ∧ Below w.heap.size w w' := by
  by_cases h : Link S F
  · exact turns_yes S F i s k h w
  · exact turns_no S F i s k h w
end Go.Proofs.Ytidfahjebjaneaa.Slt
