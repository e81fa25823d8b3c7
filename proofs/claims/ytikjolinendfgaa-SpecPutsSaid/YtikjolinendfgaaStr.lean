/- Small lemmas on strings as lists of bytes. -/
import Derived.Test.YtikjolinendfgaaMore
set_option linter.unusedVariables false
namespace Go.Proofs.Ytikjolinendfgaa
open Go.RowKit Go.Proofs.YtikjolinendfgaaW.PrintWords Go.Proofs.YtikjolinendfgaaW.PrintLast Go.Proofs.YtikjolinendfgaaW.PrintMore

def Bytes (l : List Int) : Prop := ∀ x ∈ l, 0 ≤ x ∧ x ≤ 255
theorem Bytes.append {l m : List Int} (h : Bytes l) (k : Bytes m) : Bytes (l ++ m) := fun x hx => (List.mem_append.1 hx).elim (h x) (k x)
theorem Bytes.take {l : List Int} (h : Bytes l) (n : Nat) : Bytes (l.take n) := fun x hx => h x (List.mem_of_mem_take hx)
theorem Bytes.drop {l : List Int} (h : Bytes l) (n : Nat) : Bytes (l.drop n) := fun x hx => h x (List.mem_of_mem_drop hx)

theorem back_nums {l : List Int} (hl : Bytes l) : ((l.map fun n => UInt8.ofNat n.toNat).map fun u => (u.toNat : Int)) = l := by
  rw [List.map_map]
  conv => rhs; rw [← List.map_id l]
  apply List.map_congr_left
  intro x hx
  have := hl x hx
  simp only [Function.comp_apply, UInt8.toNat_ofNat', id_eq]
  omega
theorem str_data {l m : List Int} (hl : Bytes l) (hm : Bytes m) : (strOfNums l).data.toList = (strOfNums m).data.toList ↔ l = m := by
  rw [strOfNums_data, strOfNums_data]
  constructor
  · intro h
    have := congrArg (List.map fun u : UInt8 => (u.toNat : Int)) h
    rw [back_nums hl, back_nums hm] at this
    exact this
  · rintro rfl; rfl
theorem str_eq {l m : List Int} (hl : Bytes l) (hm : Bytes m) : ((strOfNums l).toList == (strOfNums m).toList) = decide (l = m) := by
  rw [Go.ByteArray.toList_eq, Go.ByteArray.toList_eq, Bool.eq_iff_iff, beq_iff_eq, decide_eq_true_iff]
  exact str_data hl hm
theorem bytesOf_byte (s : ByteArray) : Bytes (bytesOf s) := by
  intro x hx
  unfold bytesOf at hx
  obtain ⟨b, -, rfl⟩ := List.mem_map.1 hx
  have := b.toNat_lt
  omega
theorem bytesOf_str {l : List Int} (hl : Bytes l) : bytesOf (strOfNums l) = l := by
  unfold bytesOf; rw [strOfNums_data]; exact back_nums hl
theorem str_bytesOf (s : ByteArray) : strOfNums (bytesOf s) = s := by
  apply ByteArray.ext
  apply Array.ext'
  rw [strOfNums_data]
  unfold bytesOf
  rw [List.map_map]
  conv => rhs; rw [← List.map_id s.data.toList]
  apply List.map_congr_left
  intro x hx
  simp
theorem str_append (l m : List Int) : strOfNums l ++ strOfNums m = strOfNums (l ++ m) := by
  apply ByteArray.ext
  apply Array.ext'
  rw [ByteArray.data_append, Array.toList_append, strOfNums_data, strOfNums_data, strOfNums_data, List.map_append]
theorem str_take (l : List Int) (n : Nat) : (strOfNums l).extract 0 n = strOfNums (l.take n) := by
  apply ByteArray.ext
  apply Array.ext'
  rw [ByteArray.data_extract, Array.toList_extract, strOfNums_data, strOfNums_data, List.map_take]
  simp
theorem str_mid (l : List Int) (m n : Nat) : (strOfNums l).extract m n = strOfNums ((l.take n).drop m) := by
  apply ByteArray.ext
  apply Array.ext'
  rw [ByteArray.data_extract, Array.toList_extract, strOfNums_data, strOfNums_data, List.map_drop, List.map_take]
  simp [List.extract_eq_take_drop, List.drop_take]
end Go.Proofs.Ytikjolinendfgaa
