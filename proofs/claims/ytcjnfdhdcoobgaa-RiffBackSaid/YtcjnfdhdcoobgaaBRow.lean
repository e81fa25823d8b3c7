/- A row of bytes made of a string ('[]byte(s)') that the call reads and writes. -/
import Derived.Test.YtcjnfdhdcoobgaaStr
set_option linter.unusedVariables false
namespace Go.Proofs.Ytcjnfdhdcoobgaa
open Go.RowKit Go.Proofs.YtcjnfdhdcoobgaaW.PrintWords Go.Proofs.YtcjnfdhdcoobgaaW.PrintLast Go.Proofs.YtcjnfdhdcoobgaaW.PrintMore

/-- block g begins with the bytes L, which may be written -/
structure BRow (W : World) (g : Nat) (L : List Int) : Prop where
  ex : ∃ (cs : Array Value) (m : Nat), W.heap[g]? = some (.cells cs 5 (m, m + 1)) ∧ L.length ≤ m ∧ L.length ≤ cs.size ∧ ∀ j, j < L.length → cs[j]? = some (.int .u8 (rd L (j : Int)))
theorem BRow.of (W : World) (s : ByteArray) : BRow (Lib.bytesWorld W 5 s) W.heap.size (bytesOf s) := by
  have hlen := bytesOf_length s
  have hcell : ∀ j, j < s.size → (Lib.bytesCells W 5 s)[j]? = some (.int .u8 (rd (bytesOf s) (j : Int))) := fun j hj => by
    have h1 := Lib.bytesWorld_cell W 5 s j hj
    rw [cell_of_row _ _ _ _ _ _ (Lib.bytesWorld_at_new W 5 s)] at h1
    rw [h1]
    have h' : j < s.data.toList.length := by rw [data_length]; exact hj
    simp [rd, bytesOf, List.getD_eq_getElem?_getD, List.getElem?_eq_getElem h']
  have hsz : s.size ≤ (Lib.bytesCells W 5 s).size := by
    have e : s.data.size = s.size := rfl
    simp only [Lib.bytesCells, Array.size_append, Array.size_map, e]
    omega
  refine ⟨_, _, Lib.bytesWorld_at_new W 5 s, ?_, ?_, fun j hj => hcell j (by omega)⟩
  · rw [hlen]; exact hsz
  · rw [hlen]; exact hsz
theorem BRow.cell {W : World} {g : Nat} {L : List Int} (h : BRow W g L) (j : Nat) (hj : j < L.length) : W.cell? ⟨g, j, none⟩ = some (.int .u8 (rd L (j : Int))) ∧ W.frozen? ⟨g, j, none⟩ = false := by
  obtain ⟨cs, m, h1, h2, -, h3⟩ := h.ex
  refine ⟨(cell_of_row _ _ _ _ _ _ h1).trans (h3 j hj), ?_⟩
  simp only [World.frozen?, h1, Bool.and_eq_false_iff, decide_eq_false_iff_not]
  omega
theorem BRow.set {W : World} {g : Nat} {L : List Int} (h : BRow W g L) (j : Nat) (hj : j < L.length) (x : Int) : BRow (W.setCell ⟨g, j, none⟩ (.int .u8 x)) g (L.set j x) := by
  obtain ⟨cs, m, h1, h2, h4, h3⟩ := h.ex
  refine ⟨cs.setIfInBounds j (.int .u8 x), m, ?_, by rw [List.length_set]; exact h2, by rw [List.length_set, Array.size_setIfInBounds]; exact h4, fun i hi => ?_⟩
  · simp [World.setCell, Array.getElem?_modify, h1]
  · rw [List.length_set] at hi
    rw [Array.getElem?_setIfInBounds]
    by_cases e : j = i
    · subst e
      rw [if_pos rfl, if_pos (by omega)]
      unfold rd
      rw [Int.toNat_natCast, List.getD_eq_getElem?_getD, List.getElem?_set_self hj]; rfl
    · rw [if_neg e, h3 i hi]
      unfold rd
      rw [Int.toNat_natCast, List.getD_eq_getElem?_getD, List.getD_eq_getElem?_getD, List.getElem?_set_ne e]
theorem BRow.reads {W : World} {g : Nat} {L : List Int} (h : BRow W g L) (hl : L.length ≤ 9223372036854775807) : ReadsInt W .u8 (some ⟨g, 0, none⟩) L.length L := by
  refine ⟨rfl, hl, fun _ => ⟨_, rfl, fun j hj => ?_⟩⟩
  rw [add_plain, (h.cell j hj).1]
  unfold rd; rw [Int.toNat_natCast]
theorem BRow.drew {W : World} {g : Nat} {L : List Int} (h : BRow W g L) : BRow W.drew g L := ⟨h.ex⟩
theorem BRow.same {W W' : World} {g : Nat} {L : List Int} (h : BRow W g L) (e : W'.heap[g]? = W.heap[g]?) : BRow W' g L := by
  obtain ⟨cs, m, h1, h2⟩ := h.ex
  exact ⟨cs, m, by rw [e]; exact h1, h2⟩
end Go.Proofs.Ytcjnfdhdcoobgaa
