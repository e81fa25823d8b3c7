/- The walks of check's tail, and of bytes.Clone and bytes.Equal. -/
import Derived.Test.YtcjnfdhdcoobgaaKSum
import Derived.Test.YtcjnfdhdcoobgaaStr
set_option linter.unusedVariables false
set_option linter.unusedSimpArgs false
namespace Go.Proofs.Ytcjnfdhdcoobgaa.Chk
open Go.RowKit Go.Proofs.YtcjnfdhdcoobgaaW.PrintWords Go.Proofs.YtcjnfdhdcoobgaaW.PrintLast Go.Proofs.YtcjnfdhdcoobgaaW.PrintMore

theorem info8 : (Try.prog.info? 5).map (fun i => (i.zero, i.size, i.bytes)) = some (some (.int .u8 0), 1, 1) := by kernel_rfl
/-- a slice of bytes of the call's own comes back -/
def Row8 (l : List Int) (w : World) (e : Ending) (w' : World) : Prop := ∃ v, e = .returned v ∧ w'.ownsRow w.heap.size 5 1 v l.length (nums .u8 l) ∧ Below w.heap.size w w'
/-- the sum's bytes, the highest first, k of them -/
def tailL (wd S k : Nat) : List Int := (List.range k).map fun i => ((S / 2 ^ (wd - 8 - 8 * i) % 256 : Nat) : Int)
theorem tailL_succ (wd S k : Nat) : tailL wd S (k + 1) = tailL wd S k ++ [((S / 2 ^ (wd - 8 - 8 * k) % 256 : Nat) : Int)] := by
  unfold tailL; rw [List.range_succ, List.map_append]; rfl
theorem tailL_byte (wd S k : Nat) : ∀ x ∈ tailL wd S k, 0 ≤ x ∧ x ≤ 255 := by
  intro x hx
  unfold tailL at hx
  obtain ⟨i, -, rfl⟩ := List.mem_map.1 hx
  omega
theorem tailL_length (wd S k : Nat) : (tailL wd S k).length = k := by simp [tailL]
set_option maxRecDepth 100000 in
set_option maxHeartbeats 1000000 in
theorem tail_any {wd st p : Nat} (hk : Knd wd st p) (S : Nat) (hS : S < 16777216) (w : World) :
    Calls Try.prog 74 #[.agg #[.int .i64 wd, .int .u32 st, .int .u32 p], .int .u32 S] w (Row8 (tailL wd S (wd / 8)) w) := by
  obtain ⟨w1, w2, -, -, -, -, -, w8, -⟩ := hk.w
  go_enter Try.func74, Try.ntmps74
  go_wp2
  go_loopg [5, 6] (wd / 8) (fun g v s wr => ∃ k : Nat, k ≤ wd / 8 ∧ g = wd / 8 - k ∧ s = .int .i64 ((wd : Int) - 8 - 8 * k) ∧ wr.ownsRow w.heap.size 5 1 v (tailL wd S k).length (nums .u8 (tailL wd S k)) ∧ Below w.heap.size w wr)
  case atStart => exact ⟨0, by omega, by omega, by simp, own_nil _ _ _ _, ba (br w) _⟩
  case round =>
    obtain ⟨k, hk8, rfl, rfl, hown, hb⟩ := hrel
    by_cases hlt : k < wd / 8
    · have hsh : ((wd : Int) - 8 - 8 * k) = ((wd - 8 - 8 * k : Nat) : Int) := by omega
      obtain ⟨sh, hsd⟩ : ∃ sh : Nat, sh = wd - 8 - 8 * k := ⟨_, rfl⟩
      rw [← hsd] at hsh
      have HSD := Lib.hid hsd
      have sh32 : sh ≤ 24 := by omega
      have hlen := tailL_length wd S k
      have HT := Lib.hid (tailL_succ wd S k)
      have hpos : (0 : Int) ≤ sh := by omega
      clear hsd
      rw [hsh]
      go_wp2_with (at_builtin; go_loud (refine print_append_num w.heap.size rfl (.tmp 14) (.tmp 19) 37 5 .u8 1 rfl Try.underlying37 info8 (by decide) _ _ _ rfl rfl hown hb hb.size (by rw [hlen]; omega) ?_); intro v1 w1 hown1 hB1 hg1 hat1)
      go_roundg (wd / 8 - (k + 1))
      case measure => omega
      case rel =>
        have hsd := HSD.out
        have e1 : (((S / 2 ^ (wd - 8 - 8 * k) % 256 : Nat)) : Int) = (S : Int) / 2 ^ sh % 256 := by rw [← hsd]; push_cast; rfl
        refine ⟨k + 1, by omega, rfl, by congr 1; omega, ?_, hB1⟩
        rw [HT.out, e1]
        exact hown1
    · have hkk : k = wd / 8 := by omega
      have hneg : (wd : Int) - 8 - 8 * k < 0 := by omega
      have HK := Lib.hid hkk
      clear hkk
      go_wp2
      go_ret
      exact ⟨_, rfl, by rw [← HK.out]; exact hown, hb⟩
theorem own_empty (W : World) : (W.alloc (.cells #[] 5)).ownsRow W.heap.size 5 1 (.slice (some ⟨W.heap.size, 0, none⟩) 0 0) ([] : List Int).length (nums .u8 []) :=
  own_lit W W.heap.size 5 .u8 [] (Nat.le_refl _) (by decide)
set_option maxRecDepth 100000 in
set_option maxHeartbeats 1000000 in
theorem clone_any (A : Option Addr) (n c : Nat) (l : List Int) (w : World) (hl : l.length ≤ 140737488351232) (hr : ReadsInt w .u8 A n l) :
    Calls Try.prog 54 #[.slice A n c] w (Row8 l w) := by
  obtain rfl := hr.1
  have hnil := fun (w : World) (a : Option Addr) (n c : Nat) => Lib.run_eql_slice_nil (P := Try.prog) w 37 5 a n c 0 0 Try.underlying37
  cases A with
  | none =>
    have h0 : l = [] := by
      rcases Nat.eq_zero_or_pos l.length with h | h
      · exact List.length_eq_zero_iff.1 h
      · obtain ⟨ad, h1, -⟩ := hr.2.2 h; cases h1
    subst h0
    go_enter Try.func54, Try.ntmps54
    go_wp2
    go_ret
    exact ⟨_, rfl, own_nil _ _ _ _, br w⟩
  | some ad =>
    go_enter Try.func54, Try.ntmps54
    go_wp2_with (at_builtin; go_loud (refine print_append_row w.heap.size rfl (.tmp 5) (.tmp 6) 37 5 .u8 1 rfl Try.underlying37 info8 (by decide) _ [] l _ _ _ rfl rfl (own_empty w) (hr.below (ba (br w) _)) (ba (br w) _) (ba (br w) _).size (by simp; omega) ?_); intro v1 w1 hown1 hB1 hg1 hat1)
    go_ret
    exact ⟨_, rfl, by simpa using hown1, hB1⟩
set_option maxRecDepth 100000 in
set_option maxHeartbeats 1000000 in
theorem equal_any (A B : Option Addr) (n' m' c d : Nat) (l m : List Int) (w : World) (hr : ReadsInt w .u8 A n' l) (hs : ReadsInt w .u8 B m' m) (hl : ∀ x ∈ l, 0 ≤ x ∧ x ≤ 255) (hm : ∀ x ∈ m, 0 ≤ x ∧ x ≤ 255) :
    Calls Try.prog 79 #[.slice A n' c, .slice B m' d] w fun e w' => e = .returned (.bool (decide (l = m))) ∧ w' = w := by
  have c1 := string_of_reads (P := Try.prog) (c := c) (dst := 9) Try.underlying37 Try.underlying5 Try.underlying9 hr
  have c2 := string_of_reads (P := Try.prog) (c := d) (dst := 9) Try.underlying37 Try.underlying5 Try.underlying9 hs
  have HE := Lib.hid (str_eq hl hm)
  clear hr hs hl hm
  go_enter Try.func79, Try.ntmps79
  go_wp2
  go_ret
  exact ⟨by rw [← HE.out]; rfl, rfl⟩
end Go.Proofs.Ytcjnfdhdcoobgaa.Chk
