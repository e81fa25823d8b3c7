/- The walks of the statements CheckSeals and CheckBack. -/
import Derived.Test.YtcjnfdhdcoobgaaKRef
set_option linter.unusedVariables false
set_option linter.unusedSimpArgs false
namespace Go.Proofs.Ytcjnfdhdcoobgaa.Chk
open Go.RowKit Go.Proofs.YtcjnfdhdcoobgaaW.PrintWords Go.Proofs.YtcjnfdhdcoobgaaW.PrintLast Go.Proofs.YtcjnfdhdcoobgaaW.PrintMore

theorem seal_of {wd st p : Nat} (hk : Knd wd st p) (A : Option Addr) (n c : Nat) (l : List Int) (w : World) (hl : l.length ≤ 4096) (hlu : Bytes l) (hr : ReadsInt w .u8 A n l) :
    Calls Try.prog 56 #[.int .i64 wd, .slice A n c] w (Row8E (l ++ tailL wd (sumN wd st p l (8 * l.length)) (wd / 8)) 0 w) := by
  obtain rfl := hr.1
  exact seal_knd hk A c l w hl hlu hr
/-- what Open answers of any bytes -/
def OpenE (wd st p : Nat) (l : List Int) (w : World) (e : Ending) (w' : World) : Prop :=
  (fits wd st p l ∧ Row8E (l.take (l.length - wd / 8)) 0 w e w') ∨ (¬ fits wd st p l ∧ e = .returned (.tuple #[.slice none 0 0, .int .i64 60]) ∧ Below w.heap.size w w')
theorem open_of {wd st p : Nat} (hk : Knd wd st p) (A : Option Addr) (n c : Nat) (l : List Int) (w : World) (hl : l.length ≤ 4096) (hc : l.length ≤ c) (hlu : Bytes l) (hr : ReadsInt w .u8 A n l) :
    Calls Try.prog 60 #[.int .i64 wd, .slice A n c] w (OpenE wd st p l w) := by
  obtain rfl := hr.1
  by_cases h : wd / 8 ≤ l.length
  · by_cases hf : fits wd st p l
    · exact (open_yes hk A c l w hl hc hlu hr hf).mono fun e w' h => .inl ⟨hf, h⟩
    · exact (open_no hk A c l w hl hc hlu hr h hf).mono fun e w' h => .inr ⟨hf, h⟩
  · exact (open_short hk A c l w (by omega)).mono fun e w' h' => .inr ⟨fun hf => h hf.1, h'⟩
theorem str_nil : strOfNums [] = ⟨#[]⟩ := rfl
theorem conv_nil (W : World) (c : Nat) : (convert 37 9 (.slice none 0 c)).run Try.prog W = .ok (.string ⟨#[]⟩) W :=
  string_of_reads (xs := []) Try.underlying37 Try.underlying5 Try.underlying9 (reads_nil W .u8 none)
theorem conv_own {W : World} {base n : Nat} {v : Value} {l : List Int} (h : W.ownsRow base 5 1 v n (nums .u8 l)) : (convert 37 9 v).run Try.prog W = .ok (.string (strOfNums l)) W :=
  own_string Try.underlying37 Try.underlying5 Try.underlying9 h
theorem conv_bytes {L : List Int} (hL : Bytes L) (hl : L.length ≤ 4096) (W : World) : ReadsInt (Lib.bytesWorld W 5 (strOfNums L)) .u8 (some ⟨W.heap.size, 0, none⟩) L.length L := by
  have := bytes_reads W 5 (strOfNums L) (by rw [strOfNums_size]; omega)
  rw [bytesOf_str hL, strOfNums_size] at this
  exact this
theorem fits_seal {wd st p : Nat} (hk : Knd wd st p) (L : List Int) : fits wd st p (L ++ tailL wd (sumN wd st p L (8 * L.length)) (wd / 8)) ∧
    (L ++ tailL wd (sumN wd st p L (8 * L.length)) (wd / 8)).take ((L ++ tailL wd (sumN wd st p L (8 * L.length)) (wd / 8)).length - wd / 8) = L := by
  have hl : (L ++ tailL wd (sumN wd st p L (8 * L.length)) (wd / 8)).length = L.length + wd / 8 := by rw [List.length_append, tailL_length]
  have ht : (L ++ tailL wd (sumN wd st p L (8 * L.length)) (wd / 8)).take L.length = L := by rw [List.take_append_of_le_length (Nat.le_refl _), List.take_length]
  have hd : (L ++ tailL wd (sumN wd st p L (8 * L.length)) (wd / 8)).drop L.length = tailL wd (sumN wd st p L (8 * L.length)) (wd / 8) := by rw [List.drop_append_of_le_length (Nat.le_refl _), List.drop_length, List.nil_append]
  unfold fits
  rw [hl, Nat.add_sub_cancel, ht, hd]
  refine ⟨⟨by omega, ?_⟩, rfl⟩
  have := sumN_take wd st p (L ++ tailL wd (sumN wd st p L (8 * L.length)) (wd / 8)) L.length (by omega)
  rw [ht] at this
  rw [← this]
end Go.Proofs.Ytcjnfdhdcoobgaa.Chk
