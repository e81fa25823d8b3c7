/- The walks of slots.Events and of the statement SlotsEvents. -/
import Derived.Test.YtidfahjebjaneaaSlots3
set_option linter.unusedVariables false
set_option linter.unusedSimpArgs false
namespace Go.Proofs.Ytidfahjebjaneaa.Slt
open Go.RowKit Go.Proofs.YtidfahjebjaneaaW.PrintWords Go.Proofs.YtidfahjebjaneaaW.PrintLast Go.Proofs.YtidfahjebjaneaaW.PrintMore Go.Proofs.Ytidfahjebjaneaa.PSlotsTurns
open Go.Proofs.Ytidfahjebjaneaa.PSlotsEvents (rd_L1 at_L1)

theorem infoB : (Try.prog.info? 4).map (fun i => (i.zero, i.size, i.bytes)) = some (some (.bool false), 1, 1) := by kernel_rfl

/-- which numbers below stop come, as far as the first n of them are known -/
def evL (S F stop : Int) (ls : List (List Int)) (m n : Nat) : List Bool := (List.range m).map fun j => if j < n then comesB S F (j : Int) stop ls else false
theorem evL_length (S F stop : Int) (ls : List (List Int)) (m n : Nat) : (evL S F stop ls m n).length = m := by simp [evL]
theorem evL_zero (S F stop : Int) (ls : List (List Int)) (m : Nat) : evL S F stop ls m 0 = List.replicate m false := by
  unfold evL; simp only [Nat.not_lt_zero, if_false]
  apply List.ext_getElem <;> simp
theorem evL_set (S F stop : Int) (ls : List (List Int)) (m n : Nat) (h : n < m) : (evL S F stop ls m n).set n (comesB S F (n : Int) stop ls) = evL S F stop ls m (n + 1) := by
  apply List.ext_getElem
  · simp [evL]
  · intro j h1 h2
    simp only [evL, List.getElem_set, List.getElem_map, List.getElem_range]
    by_cases e : n = j
    · subst e; rw [if_pos rfl, if_pos (by omega)]
    · rw [if_neg e]
      by_cases e2 : j < n
      · rw [if_pos e2, if_pos (by omega)]
      · rw [if_neg e2, if_neg (by omega)]

theorem Box2.set {w W : World} {B g j : Nat} {a b v : Value} (h : (W.cell? ⟨B, 0, none⟩ = some a ∧ W.cell? ⟨B, 1, none⟩ = some b) ∧ Below w.heap.size w W ∧ B < W.heap.size) (hg : B < g) (hw : w.heap.size ≤ g) :
    ((W.setCell ⟨g, j, none⟩ v).cell? ⟨B, 0, none⟩ = some a ∧ (W.setCell ⟨g, j, none⟩ v).cell? ⟨B, 1, none⟩ = some b) ∧ Below w.heap.size w (W.setCell ⟨g, j, none⟩ v) ∧ B < (W.setCell ⟨g, j, none⟩ v).heap.size := by
  obtain ⟨⟨h1, h2⟩, h4, h5⟩ := h
  have e : (W.setCell ⟨g, j, none⟩ v).heap[B]? = W.heap[B]? := Below.heap_setCell W ⟨g, j, none⟩ v B (by show B ≠ g; omega)
  have c1 : ∀ o, (W.setCell ⟨g, j, none⟩ v).cell? ⟨B, o, none⟩ = W.cell? ⟨B, o, none⟩ := fun o => by unfold World.cell?; simp only [e]
  have hb := below_set (j := j) (v := v) h4 hw
  refine ⟨⟨by rw [c1]; exact h1, by rw [c1]; exact h2⟩, hb, ?_⟩
  have hs : (W.setCell ⟨g, j, none⟩ v).heap.size = W.heap.size := by simp [World.setCell]
  omega

def Evs (S F stop : Int) (ls : List (List Int)) (w : World) (e : Ending) (w' : World) : Prop :=
  ∃ g c, e = .returned (.tuple #[.slice (some ⟨g, 0, none⟩) stop.toNat c, .int .i64 0]) ∧ w'.ownsRow w.heap.size 4 1 (.slice (some ⟨g, 0, none⟩) stop.toNat c) stop.toNat (encs Value.bool (evL S F stop ls stop.toNat stop.toNat)) ∧ Below w.heap.size w w'

set_option maxRecDepth 100000 in
set_option maxHeartbeats 2000000 in
theorem events_yes (S F : Int) (m : Nat) (ls : List (List Int)) (A : Option Addr) (c : Nat) (hL : Link S F) (hst : m ≤ 4096) (w : World) (hr : Lss w A ls) (hc : ls.length ≤ c) :
    Calls Try.prog 37 #[.agg #[.int .i64 S, .int .i64 F], .int .i64 m, .slice A ls.length c] w (Evs S F m ls w) := by
  have HR := Lib.hid hr
  clear hr
  have hmk := print_make_of (P := Try.prog) 76 4 (.bool false) 1 Try.underlying76 infoB rfl (by decide) m (by omega)
  go_enter Try.func37, Try.ntmps37
  go_wp2_with fail
  refine (may_yes hL (by omega) _).mono ?_
  rintro e w1 ⟨rfl, hb1⟩
  have hbox := Box2.keep (Box2.init w (.int .i64 S) (.int .i64 F) 34) hb1
  obtain ⟨⟨c0, c1⟩, hb, hlt⟩ := id hbox
  clear hb1
  have hm : (m : Int) ≤ 4096 := by omega
  go_wp2
  have hbox0 := Box2.keep hbox (ba (br w1) (.cells (madeCells #[.bool false] m) 4))
  have hown0 := own_made_of (enc := Value.bool) (d := false) w1 w.heap.size 4 m hb.size (by omega)
  rw [← evL_zero S F m ls m] at hown0
  clear hbox hb c0 c1
  obtain ⟨g, hg⟩ : ∃ g, g = w1.heap.size := ⟨_, rfl⟩
  rw [← hg] at hown0 hlt ⊢
  clear hg
  go_loopg [9, 25] m (fun gk x y wr => ∃ n : Nat, n ≤ m ∧ gk = m - n ∧ y = .int .i64 n ∧ Hid (wr.ownsRow w.heap.size 4 1 (.slice (some ⟨g, 0, none⟩) m m) m (encs Value.bool (evL S F m ls m n))) ∧
    Hid ((wr.cell? ⟨w.heap.size, 0, none⟩ = some (.int .i64 S) ∧ wr.cell? ⟨w.heap.size, 1, none⟩ = some (.int .i64 F)) ∧ Below w.heap.size w wr ∧ w.heap.size < wr.heap.size))
  case atStart => exact ⟨0, by omega, by omega, rfl, hown0, hbox0⟩
  case round =>
    obtain ⟨n, hn, rfl, rfl, HO, HB⟩ := hrel
    by_cases hlt' : n < m
    · obtain ⟨⟨c0, c1⟩, hb, hlt2⟩ := HB.out
      go_wp2_with fail
      refine (comes_c S F n m ls A c hL (by omega) (by omega) _ (Kd.C_below HR.out hb) hc).mono ?_
      rintro e w4 ⟨rfl, hb4⟩
      have hO4 := own_move HO.out (w1 := w4) (fun k hk => hb4.block k (own_lt HO.out k hk))
      obtain ⟨-, hz⟩ := own_at_of (d := false) hO4 (n : Int) (by omega) (by omega)
      obtain ⟨hz0, -⟩ := own_at_of (d := false) hO4 (n : Int) (by omega) (by omega)
      rw [Int.toNat_natCast] at hz hz0
      have hst := (own_store_of hO4 (n : Int) (comesB S F n m ls)).1
      rw [Int.toNat_natCast, evL_set _ _ _ _ _ _ hlt'] at hst
      have hbx := Box2.set (j := n) (v := .bool (comesB S F n m ls)) (Box2.keep HB.out hb4) (g := g) (by omega) (by omega)
      have H1 := Lib.hid hst
      have H2 := Lib.hid hbx
      clear hst hbx hb hO4
      go_wp2
      go_roundg (m - (n + 1))
      case measure => omega
      case rel => exact ⟨n + 1, by omega, rfl, by go_num, H1.out, H2.out⟩
    · have hnm : n = m := by omega
      subst hnm
      go_wp2
      go_ret2
      exact ⟨g, n, rfl, HO.out, HB.out.2.1⟩
end Go.Proofs.Ytidfahjebjaneaa.Slt
