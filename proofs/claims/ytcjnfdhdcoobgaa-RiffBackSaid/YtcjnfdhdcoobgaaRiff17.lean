/- The walks of the document's Same, and of the statement RiffParses. -/
import Derived.Test.YtcjnfdhdcoobgaaRiff16
import Derived.Test.YtcjnfdhdcoobgaaBRow
set_option linter.unusedVariables false
set_option linter.unusedSimpArgs false
namespace Go.Proofs.Ytcjnfdhdcoobgaa.Rif
open Go.RowKit Go.Proofs.YtcjnfdhdcoobgaaW.PrintWords Go.Proofs.YtcjnfdhdcoobgaaW.PrintLast Go.Proofs.YtcjnfdhdcoobgaaW.PrintMore Go.Proofs.Ytcjnfdhdcoobgaa.Chk

set_option maxRecDepth 100000 in
set_option maxHeartbeats 1000000 in
theorem same_yes (R C : Int) (A B : Option Addr) (n c d : Nat) (xs : List Int) (w : World) (ha : ReadsInt w .i16 A n xs) (hb : ReadsInt w .i16 B n xs) :
    Calls Try.prog 43 #[.agg #[.int .i64 R, .int .i64 C, .slice A n c], .agg #[.int .i64 R, .int .i64 C, .slice B n d]] w fun e w' => e = .returned (.bool true) ∧ Below w.heap.size w w' := by
  obtain rfl := ha.1
  have hn := ha.2.1
  have hx0 := blk_alloc (heap_alloc_new w (.cells #[.int .i64 R, .int .i64 C, .slice A xs.length c] 58)) (.cells #[.int .i64 R, .int .i64 C, .slice B xs.length d] 58)
  have hy0 := two_new w (.cells #[.int .i64 R, .int .i64 C, .slice A xs.length c] 58) (.cells #[.int .i64 R, .int .i64 C, .slice B xs.length d] 58)
  have HX := Lib.hid (And.intro hx0 hy0)
  clear hx0 hy0
  go_enter Try.func43, Try.ntmps43
  go_wp2
  go_loopg [5] xs.length (fun gk v W => ∃ k : Nat, k ≤ xs.length ∧ gk = xs.length - k ∧ v = .int .i64 k ∧ W.heap[w.heap.size]? = some (.cells #[.int .i64 R, .int .i64 C, .slice A xs.length c] 58 (0, 0)) ∧ W.heap[w.heap.size + 1]? = some (.cells #[.int .i64 R, .int .i64 C, .slice B xs.length d] 58 (0, 0)) ∧ Below w.heap.size w W)
  case atStart => exact ⟨0, by omega, rfl, rfl, HX.out.1, HX.out.2, ba (ba (br w) _) _⟩
  case round =>
    obtain ⟨k, hk, rfl, rfl, hx, hy, hbw⟩ := hrel
    have x2 := blk_cell hx 2
    have y2 := blk_cell hy 2
    by_cases hlt : k < xs.length
    · obtain ⟨ad, rfl, z1⟩ := (ha.below hbw).at_ (k : Int) (by omega) (by omega)
      obtain ⟨bd_, rfl, z2⟩ := (hb.below hbw).at_ (k : Int) (by omega) (by omega)
      rw [Int.toNat_natCast] at z1 z2
      have i0 : (0 : Int) ≤ (k : Int) := by omega
      have i1 : (k : Int) < (xs.length : Int) := by omega
      generalize rd xs (k : Int) = p at z1 z2
      have hpp : (p != p) = false := by simp
      go_upto_region 6 with fail
      go_quiet (fail)
      go_wp2
      go_roundg (xs.length - (k + 1))
      case measure => omega
      case rel => exact ⟨k + 1, by omega, rfl, by go_num, hx, hy, below_drewN hbw _⟩
    · obtain rfl : k = xs.length := by omega
      go_wp2
      go_ret
      exact ⟨rfl, hbw⟩

theorem parse_one (A : Option Addr) (n c : Nat) (M : List Int) (w : World) (hl : M.length ≤ 8192) (hc : M.length ≤ c) (hB : Bytes M) (hr : ReadsInt w .u8 A n M) (R C : Int) (xs : List Int) (ok : Bool) (ho : (parseP M = none ∧ R = 0 ∧ C = 0 ∧ xs = [] ∧ ok = false) ∨ (parseP M = some (R, C, xs) ∧ ok = true)) :
    Calls Try.prog 41 #[.slice A n c] w fun e w' => ∃ A' c', e = .returned (.tuple #[.agg #[.int .i64 R, .int .i64 C, .slice A' xs.length c'], .int .i64 (if ok then 0 else 140)]) ∧ ReadsInt w' .i16 A' xs.length xs ∧ Below w.heap.size w w' := by
  refine (parse_any A n c M w hl hc hB hr).mono fun e w' h => ?_
  unfold ParseOut at h
  rcases ho with ⟨h1, rfl, rfl, rfl, rfl⟩ | ⟨h1, rfl⟩
  · rw [h1] at h
    obtain ⟨rfl, hb⟩ := h
    exact ⟨none, 0, rfl, reads_nil _ _ _, hb⟩
  · rw [h1] at h
    obtain ⟨A', c', rfl, hown, hb⟩ := h
    exact ⟨A', c', rfl, own_reads' hown, hb⟩
theorem rparse_one (s : ByteArray) (w : World) (hs : s.size ≤ 4096) (R C : Int) (xs : List Int) (ok : Bool) (ho : (parseP (bytesOf s) = none ∧ R = 0 ∧ C = 0 ∧ xs = [] ∧ ok = false) ∨ (parseP (bytesOf s) = some (R, C, xs) ∧ ok = true)) :
    Calls Try.prog 42 #[.string s] w fun e w' => ∃ A' c', e = .returned (.tuple #[.agg #[.int .i64 R, .int .i64 C, .slice A' xs.length c'], .bool ok]) ∧ ReadsInt w' .i16 A' xs.length xs ∧ Below w.heap.size w w' := by
  refine (rparse_any s w hs).mono fun e w' h => ?_
  unfold RParseOut at h
  rcases ho with ⟨h1, rfl, rfl, rfl, rfl⟩ | ⟨h1, rfl⟩
  · rw [h1] at h
    obtain ⟨rfl, hb⟩ := h
    exact ⟨none, 0, rfl, reads_nil _ _ _, hb⟩
  · rw [h1] at h
    obtain ⟨A', c', rfl, hown, hb⟩ := h
    exact ⟨A', c', rfl, own_reads' hown, hb⟩
theorem parse_cases (M : List Int) : ∃ (R C : Int) (xs : List Int) (ok : Bool), (parseP M = none ∧ R = 0 ∧ C = 0 ∧ xs = [] ∧ ok = false) ∨ (parseP M = some (R, C, xs) ∧ ok = true) := by
  cases h : parseP M with
  | none => exact ⟨0, 0, [], false, .inl ⟨rfl, rfl, rfl, rfl, rfl⟩⟩
  | some t => exact ⟨t.1, t.2.1, t.2.2, true, .inr ⟨rfl, rfl⟩⟩
/-- both Chunks, in one form -/
theorem chunks_one (A : Option Addr) (n c : Nat) (M : List Int) (w : World) (hl : M.length ≤ 8192) (hc : M.length ≤ c) (hB : Bytes M) (hr : ReadsInt w .u8 A n M) (ps : List (List Int × List Int)) (ok : Bool) (ho : (filesP M = none ∧ ps = [] ∧ ok = false) ∨ (filesP M = some ps ∧ ok = true)) :
    Calls Try.prog 39 #[.slice A n c] w fun e w' => ∃ v, e = .returned (.tuple #[v, .int .i64 (if ok then 0 else 140)]) ∧ w'.ownsRow w.heap.size 9 1 v ps.length (names ps) ∧ Below w.heap.size w w' := by
  refine (chunks_any A n c M w hl hc hB hr).mono fun e w' h => ?_
  unfold ChunksOut at h
  rcases ho with ⟨h1, rfl, rfl⟩ | ⟨h1, rfl⟩
  · rw [h1] at h
    obtain ⟨rfl, hb⟩ := h
    exact ⟨_, rfl, World.ownsRow_nil _ _ _ _, hb⟩
  · rw [h1] at h
    obtain ⟨v, rfl, hown, hb⟩ := h
    exact ⟨_, rfl, hown, hb⟩
theorem rchunks_two (s : ByteArray) (w : World) (hs : s.size ≤ 4096) (ps : List (List Int × List Int)) (ok : Bool) (ho : (filesP (bytesOf s) = none ∧ ps = [] ∧ ok = false) ∨ (filesP (bytesOf s) = some ps ∧ ok = true)) :
    Calls Try.prog 40 #[.string s] w fun e w' => ∃ A c, e = .returned (.tuple #[.slice A (ps.length * 2) c, .bool ok]) ∧ ReadsB w' A ps ∧ Below w.heap.size w w' := by
  refine (rchunks_one s w hs).mono fun e w' ⟨A', c', qs, he, hq, hR, hb⟩ => ?_
  rcases ho with ⟨h1, rfl, rfl⟩ | ⟨h1, rfl⟩
  · rcases hq with ⟨h2, rfl⟩ | h2
    · rw [h1] at he
      exact ⟨A', c', he, hR, hb⟩
    · rw [h1] at h2; cases h2
  · rcases hq with ⟨h2, rfl⟩ | h2
    · rw [h1] at h2; cases h2
    · rw [h1] at h2 he
      injection h2 with h2
      subst h2
      exact ⟨A', c', he, hR, hb⟩
theorem files_cases (M : List Int) : ∃ (ps : List (List Int × List Int)) (ok : Bool), (filesP M = none ∧ ps = [] ∧ ok = false) ∨ (filesP M = some ps ∧ ok = true) := by
  cases h : filesP M with
  | none => exact ⟨[], false, .inl ⟨rfl, rfl, rfl⟩⟩
  | some t => exact ⟨t, true, .inr ⟨rfl, rfl⟩⟩
/-- names as they are read -/
theorem names_read {w : World} {base : Nat} {v : Value} {ps : List (List Int × List Int)} (h : w.ownsRow base 9 1 v ps.length (names ps)) : ∃ A c, v = .slice A ps.length c ∧ ∀ (i : Nat) (hi : i < ps.length), ∃ ad, A = some ad ∧ w.cell? (ad.add i) = some (.string (strOfNums ps[i].1)) := by
  obtain ⟨A, c, rfl⟩ := own_slice h
  refine ⟨A, c, rfl, fun i hi => ?_⟩
  rcases h.2 with ⟨h1, h2⟩ | ⟨g, cap, cur, h1, -, -, -, -, -, -⟩
  · omega
  · simp only [Value.slice.injEq] at h1
    obtain ⟨rfl, -, rfl⟩ := h1
    have hc := World.ownsRow.cells (g := g) h rfl
    refine ⟨_, rfl, hc i _ ?_⟩
    simp [names, List.getElem?_eq_getElem hi]
end Go.Proofs.Ytcjnfdhdcoobgaa.Rif
