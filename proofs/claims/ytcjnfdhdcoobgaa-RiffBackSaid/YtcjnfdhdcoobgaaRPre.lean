/- Small laws that the walks of the package riff use: rows of bytes, texts, a number's next byte. -/
import Derived.Test.YtcjnfdhdcoobgaaStr
set_option linter.unusedVariables false
set_option linter.unusedSimpArgs false
namespace Go.Proofs.Ytcjnfdhdcoobgaa.Chk
open Go.RowKit Go.Proofs.YtcjnfdhdcoobgaaW.PrintWords Go.Proofs.YtcjnfdhdcoobgaaW.PrintLast Go.Proofs.YtcjnfdhdcoobgaaW.PrintMore
theorem rd_byte {l : List Int} (h : ∀ x ∈ l, 0 ≤ x ∧ x ≤ 255) (i : Int) : 0 ≤ rd l i ∧ rd l i ≤ 255 := by
  unfold rd
  rw [List.getD_eq_getElem?_getD]
  cases e : l[i.toNat]? with
  | none => simp
  | some x => exact h x (List.mem_of_getElem? e)

theorem info8 : (Try.prog.info? 5).map (fun i => (i.zero, i.size, i.bytes)) = some (some (.int .u8 0), 1, 1) := by kernel_rfl
/-- a slice of bytes of the call's own comes back -/
def Row8 (l : List Int) (w : World) (e : Ending) (w' : World) : Prop := ∃ v, e = .returned v ∧ w'.ownsRow w.heap.size 5 1 v l.length (nums .u8 l) ∧ Below w.heap.size w w'
/-- a slice of bytes of the call's own comes back, and an error -/
def Row8E (l : List Int) (err : Int) (w : World) (e : Ending) (w' : World) : Prop := ∃ v, e = .returned (.tuple #[v, .int .i64 err]) ∧ w'.ownsRow w.heap.size 5 1 v l.length (nums .u8 l) ∧ Below w.heap.size w w'
theorem reads_nil (W : World) (k : IntKind) (A : Option Addr) : ReadsInt W k A 0 [] := ⟨rfl, by omega, fun h => by omega⟩
theorem str_nil : strOfNums [] = ⟨#[]⟩ := rfl
theorem conv_nil (W : World) (c : Nat) : (convert 37 9 (.slice none 0 c)).run Try.prog W = .ok (.string ⟨#[]⟩) W :=
  string_of_reads (xs := []) Try.underlying37 Try.underlying5 Try.underlying9 (reads_nil W .u8 none)
theorem conv_own {W : World} {base n : Nat} {v : Value} {l : List Int} (h : W.ownsRow base 5 1 v n (nums .u8 l)) : (convert 37 9 v).run Try.prog W = .ok (.string (strOfNums l)) W :=
  own_string Try.underlying37 Try.underlying5 Try.underlying9 h
theorem conv_bytes {L : List Int} (hL : Bytes L) (hl : L.length ≤ 4096) (W : World) : ReadsInt (Lib.bytesWorld W 5 (strOfNums L)) .u8 (some ⟨W.heap.size, 0, none⟩) L.length L := by
  have := bytes_reads W 5 (strOfNums L) (by rw [strOfNums_size]; omega)
  rw [bytesOf_str hL, strOfNums_size] at this
  exact this
theorem drop_rd {M : List Int} {n : Nat} (h : n < M.length) : M.drop n = rd M (n : Int) :: M.drop (n + 1) := by
  rw [List.drop_eq_getElem_cons h]
  unfold rd
  rw [Int.toNat_natCast, List.getD_eq_getElem?_getD, List.getElem?_eq_getElem h]; rfl
end Go.Proofs.Ytcjnfdhdcoobgaa.Chk
namespace Go.Proofs.Ytcjnfdhdcoobgaa.Pdu
open Go.RowKit Go.Proofs.YtcjnfdhdcoobgaaW.PrintWords Go.Proofs.YtcjnfdhdcoobgaaW.PrintLast Go.Proofs.YtcjnfdhdcoobgaaW.PrintMore Go.Proofs.Ytcjnfdhdcoobgaa.Chk
theorem or_byte64 (V c : Nat) (hV : V < 1099511627776) (hc : c < 256) : bits .or .i64 ((V : Int) * 256) (c : Int) = ((256 * V + c : Nat) : Int) := by
  have e : (V : Int) * 256 = ((256 * V : Nat) : Int) := by omega
  have h := bits_join .i64 62 (by decide) (fun n h0 h1 => IntWalk.i64_in n (by omega)) 8 ((256 * V : Nat) : Int) (c : Int) (by omega) (by omega) (by omega) (by omega) (by omega) (by omega)
  rw [e, h]
  omega
theorem str_index (s : ByteArray) (i : Nat) (h : i < s.size) (W : World) : (Instr.index 9 (.string s) (.int .i64 (i : Int))).run Try.prog W = .ok (.int .u8 (rd (bytesOf s) (i : Int))) W := by
  have e : s[i]? = some (s[i]'h) := getElem?_pos s i h
  have e2 : ((s[i]'h).toNat : Int) = rd (bytesOf s) (i : Int) := by
    have h' : i < s.data.toList.length := by rw [data_length]; exact h
    simp [rd, bytesOf, List.getD_eq_getElem?_getD, List.getElem?_eq_getElem h']
    rfl
  rw [← e2]
  have hA : ∀ (k : IntKind) (i : Int) (W : World), (asIntOf (.int k i)).run Try.prog W = .ok (k, i) W := fun _ _ _ => rfl
  simp [Instr.index, Try.underlying9, e, hA, Result.andThen]
theorem str_cut (s : ByteArray) (a b : Nat) (h : a ≤ b) (hb : b ≤ s.size) (W : World) : (Instr.slice 9 (.string s) (some (.int .i64 (a : Int))) (some (.int .i64 (b : Int))) none).run Try.prog W = .ok (.string (s.extract a b)) W := by
  have h1 : (0 : Int) ≤ (b : Int) ∧ (b : Int) ≤ (s.size : Int) := by omega
  have h2 : (0 : Int) ≤ (a : Int) ∧ (a : Int) ≤ (b : Int) := by omega
  have hA : ∀ (k : IntKind) (i : Int) (W : World), (asIntOf (.int k i)).run Try.prog W = .ok (k, i) W := fun _ _ _ => rfl
  have h3 : max (b : Int) 0 = b := by omega
  simp [Instr.slice, Instr.sliceBounds, Instr.sliceBound, Try.underlying9, hA, h3, h, hb, Result.andThen]
end Go.Proofs.Ytcjnfdhdcoobgaa.Pdu
