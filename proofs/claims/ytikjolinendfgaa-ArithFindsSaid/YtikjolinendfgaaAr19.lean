/- The walks of both NewFinder at places below 0 and beyond all bits (arith). -/
import Derived.Test.YtikjolinendfgaaAr18
set_option linter.unusedVariables false
set_option linter.unusedSimpArgs false
namespace Go.Proofs.Ytikjolinendfgaa.Ari
open Go.RowKit Go.Proofs.YtikjolinendfgaaW.PrintWords Go.Proofs.YtikjolinendfgaaW.PrintLast Go.Proofs.YtikjolinendfgaaW.PrintMore Go.Proofs.Ytikjolinendfgaa.Bit

set_option maxRecDepth 100000 in
set_option maxHeartbeats 2000000 in
theorem newFinder_any_low (ep : Option Addr) (B : Nat → Nat) (x : Int) (hx : x < 0) (w : World) (he : EyeP w w.heap.size ep B) :
    Calls Try.prog 25 #[.pointer ep, .int .i64 x] w fun e w' => e = .returned (.pointer (some ⟨w.heap.size, 0, none⟩)) ∧ Fn w.heap.size ep 0 B w 0 65535 16 (vN B 0 16) w' ∧ w.heap.size < w'.heap.size := by
  have hle := he.le
  have HF0 : Hid (∀ o, o = Obj.cells #[.int .i64 0, .int .i64 65535, .pointer ep, .int .i64 0, .int .i64 0, .int .i64 0] 83 → Fn w.heap.size ep 0 B w 0 65535 0 0 (w.alloc o)) := fun o ho => ⟨by unfold FnAt; rw [heap_alloc_new, ho]; rfl, he.of_blocks fun k hk h0 => (ba (br w) o).block _ (by rcases Nat.lt_or_ge k w.heap.size with h | h; exact h; exact absurd (Array.getElem?_eq_none h) h0), World.grownBy_alloc w _ _⟩
  have HLT := Lib.hid (vN_lt (fr := 0) hle)
  clear he
  go_enter Try.func25, Try.ntmps25
  go_wp2
  go_loopg [14] 16 (fun gk x W => ∃ (i : Nat), i ≤ 16 ∧ gk = 16 - i ∧ x = .int .i64 i ∧ Hid (Fn w.heap.size ep 0 B w 0 65535 i (vN B 0 i) W) ∧ Hid (w.heap.size < W.heap.size))
  case atStart =>
    exact ⟨0, by omega, rfl, rfl, HF0.out _ rfl, by show _ < _; simp⟩
  case round =>
    obtain ⟨i, hi, rfl, rfl, HF, HZ⟩ := hrel
    have c5 : wr.cell? ⟨w.heap.size, 5, none⟩ = some (.int .i64 (vN B 0 i)) := (blk_cell HF.out.at_ 5).trans rfl
    by_cases hlt : i < 16
    · have hb := HF.out.eye.le (0 + i)
      have hp : 2 ^ i ≤ 2 ^ 16 := Nat.pow_le_pow_right (show 0 < 2 by decide) (show i ≤ 16 by omega)
      have hv : vN B 0 i < 65536 := Nat.lt_of_lt_of_le (HLT.out i) hp
      have T := Lib.hid (fbit_any w.heap.size ep 0 B w 0 65535 i (vN B 0 i) wr.drew HF.out.drew (by omega) (by omega))
      have HS : Hid (vN B 0 (i + 1) = 2 * vN B 0 i + B (0 + i)) := rfl
      generalize B (0 + i) = bb at T hb HS
      generalize vN B 0 i = va at T hv HS c5
      go_wp2
      go_region_with (first
          | (go_at_call 49; refine T.out.mono ?_; rintro e w3 ⟨rfl, h3⟩; have hs3 : w.heap.size < w3.heap.size := blk_lt h3.at_; have c5' : w3.cell? ⟨w.heap.size, 5, none⟩ = some (.int .i64 va) := (blk_cell h3.at_ 5).trans rfl; have f5 : w3.frozen? ⟨w.heap.size, 5, none⟩ = false := blk_frozen h3.at_ 5)
          | fail)
      all_goals
        go_wp2
        go_roundg (16 - (i + 1))
        case measure => omega
        case rel =>
          refine ⟨i + 1, by omega, rfl, by go_num, ?_, by show _ < _; simpa using hs3⟩
          rw [HS.out, show 2 * (va : Int) + (bb : Int) = ((2 * va + bb : Nat) : Int) from by omega]
          exact h3.s5 _
    · obtain rfl : i = 16 := by omega
      go_wp2
      go_ret
      exact ⟨rfl, HF.out, HZ.out⟩
set_option maxRecDepth 100000 in
set_option maxHeartbeats 2000000 in
theorem newFinder_any_top (ep : Option Addr) (B : Nat → Nat) (x : Int) (hx : 4096 < x) (w : World) (he : EyeP w w.heap.size ep B) :
    Calls Try.prog 25 #[.pointer ep, .int .i64 x] w fun e w' => e = .returned (.pointer (some ⟨w.heap.size, 0, none⟩)) ∧ Fn w.heap.size ep 4096 B w 0 65535 16 (vN B 4096 16) w' ∧ w.heap.size < w'.heap.size := by
  have hle := he.le
  have HF0 : Hid (∀ o, o = Obj.cells #[.int .i64 0, .int .i64 65535, .pointer ep, .int .i64 4096, .int .i64 0, .int .i64 0] 83 → Fn w.heap.size ep 4096 B w 0 65535 0 0 (w.alloc o)) := fun o ho => ⟨by unfold FnAt; rw [heap_alloc_new, ho]; rfl, he.of_blocks fun k hk h0 => (ba (br w) o).block _ (by rcases Nat.lt_or_ge k w.heap.size with h | h; exact h; exact absurd (Array.getElem?_eq_none h) h0), World.grownBy_alloc w _ _⟩
  have HLT := Lib.hid (vN_lt (fr := 4096) hle)
  clear he
  go_enter Try.func25, Try.ntmps25
  go_wp2
  go_loopg [14] 16 (fun gk x W => ∃ (i : Nat), i ≤ 16 ∧ gk = 16 - i ∧ x = .int .i64 i ∧ Hid (Fn w.heap.size ep 4096 B w 0 65535 i (vN B 4096 i) W) ∧ Hid (w.heap.size < W.heap.size))
  case atStart =>
    exact ⟨0, by omega, rfl, rfl, HF0.out _ rfl, by show _ < _; simp⟩
  case round =>
    obtain ⟨i, hi, rfl, rfl, HF, HZ⟩ := hrel
    have c5 : wr.cell? ⟨w.heap.size, 5, none⟩ = some (.int .i64 (vN B 4096 i)) := (blk_cell HF.out.at_ 5).trans rfl
    by_cases hlt : i < 16
    · have hb := HF.out.eye.le (4096 + i)
      have hp : 2 ^ i ≤ 2 ^ 16 := Nat.pow_le_pow_right (show 0 < 2 by decide) (show i ≤ 16 by omega)
      have hv : vN B 4096 i < 65536 := Nat.lt_of_lt_of_le (HLT.out i) hp
      have T := Lib.hid (fbit_any w.heap.size ep 4096 B w 0 65535 i (vN B 4096 i) wr.drew HF.out.drew (by omega) (by omega))
      have HS : Hid (vN B 4096 (i + 1) = 2 * vN B 4096 i + B (4096 + i)) := rfl
      generalize B (4096 + i) = bb at T hb HS
      generalize vN B 4096 i = va at T hv HS c5
      go_wp2
      go_region_with (first
          | (go_at_call 49; refine T.out.mono ?_; rintro e w3 ⟨rfl, h3⟩; have hs3 : w.heap.size < w3.heap.size := blk_lt h3.at_; have c5' : w3.cell? ⟨w.heap.size, 5, none⟩ = some (.int .i64 va) := (blk_cell h3.at_ 5).trans rfl; have f5 : w3.frozen? ⟨w.heap.size, 5, none⟩ = false := blk_frozen h3.at_ 5)
          | fail)
      all_goals
        go_wp2
        go_roundg (16 - (i + 1))
        case measure => omega
        case rel =>
          refine ⟨i + 1, by omega, rfl, by go_num, ?_, by show _ < _; simpa using hs3⟩
          rw [HS.out, show 2 * (va : Int) + (bb : Int) = ((2 * va + bb : Nat) : Int) from by omega]
          exact h3.s5 _
    · obtain rfl : i = 16 := by omega
      go_wp2
      go_ret
      exact ⟨rfl, HF.out, HZ.out⟩
set_option maxRecDepth 100000 in
set_option maxHeartbeats 2000000 in
theorem rnewFinder_any_low (A : Option Addr) (c : Nat) (L : List Int) (x : Int) (hx : x < 0) (w : World) (hb : ReadsInt w .i64 A L.length L) (hne : ∀ ad, A = some ad → ad.block < w.heap.size) (hL : ∀ x ∈ L, 0 ≤ x ∧ x ≤ 1) :
    Calls Try.prog 26 #[.slice A L.length c, .int .i64 x] w fun e w' => e = .returned (.pointer (some ⟨w.heap.size, 0, none⟩)) ∧ RF w.heap.size A c L w 0 65536 (vN (bD L) 0 16) (0 + 16) 16 w' ∧ w.heap.size < w'.heap.size := by
  have HF0 : Hid (∀ o, o = Obj.cells #[.int .i64 0, .int .i64 65536, .int .i64 0, .slice A L.length c, .int .i64 0, .int .i64 0] 63 → RF w.heap.size A c L w 0 65536 0 0 0 (w.alloc o)) := fun o ho => ⟨by rw [heap_alloc_new, ho]; rfl, hb.below (ba (br w) o), fun ad e => by have := hne ad e; omega, World.grownBy_alloc w _ _⟩
  have HLT := Lib.hid (vN_lt (fr := 0) (bD_le hL))
  have HL := Lib.hid hL
  clear hb hne hL
  generalize hn : L.length = nb at HF0
  have HNB := Lib.hid hn
  clear hn
  go_enter Try.func26, Try.ntmps26
  go_wp2
  go_loopg [6] 16 (fun gk x W => ∃ (i : Nat), i ≤ 16 ∧ gk = 16 - i ∧ x = .int .i64 i ∧ Hid (RF w.heap.size A c L w 0 65536 (vN (bD L) 0 i) (0 + i) i W))
  case atStart =>
    exact ⟨0, by omega, rfl, rfl, HF0.out _ rfl⟩
  case round =>
    obtain ⟨i, hi, rfl, rfl, HF⟩ := hrel
    have c2 : wr.cell? ⟨w.heap.size, 2, none⟩ = some (.int .i64 (vN (bD L) 0 i)) := (blk_cell HF.out.at_ 2).trans rfl
    by_cases hlt : i < 16
    · have hb := bD_le HL.out (0 + i)
      have hp : 2 ^ i ≤ 2 ^ 16 := Nat.pow_le_pow_right (show 0 < 2 by decide) (show i ≤ 16 by omega)
      have hv : vN (bD L) 0 i < 65536 := Nat.lt_of_lt_of_le (HLT.out i) hp
      have T := Lib.hid (rbit_any w.heap.size A c L w 0 65536 (vN (bD L) 0 i) (0 + i) i wr.drew HF.out.drew HL.out (by omega) (by omega))
      have HS : Hid (vN (bD L) 0 (i + 1) = 2 * vN (bD L) 0 i + bD L (0 + i)) := rfl
      generalize bD L (0 + i) = bb at T hb HS
      generalize vN (bD L) 0 i = va at T hv HS c2
      go_wp2
      go_region_with (first
          | (go_at_call 50; refine T.out.mono ?_; rintro e w3 ⟨rfl, h3⟩; have hs3 : w.heap.size < w3.heap.size := blk_lt h3.at_; have c2' : w3.cell? ⟨w.heap.size, 2, none⟩ = some (.int .i64 va) := (blk_cell h3.at_ 2).trans rfl; have f2 : w3.frozen? ⟨w.heap.size, 2, none⟩ = false := blk_frozen h3.at_ 2)
          | fail)
      all_goals
        go_wp2
        go_roundg (16 - (i + 1))
        case measure => omega
        case rel =>
          refine ⟨i + 1, by omega, rfl, by go_num, ?_⟩
          rw [HS.out, show (va : Int) * 2 + (bb : Int) = ((2 * va + bb : Nat) : Int) from by omega]
          exact h3.s2 _
    · obtain rfl : i = 16 := by omega
      go_wp2
      go_ret
      exact ⟨rfl, HF.out, blk_lt HF.out.at_⟩
set_option maxRecDepth 100000 in
set_option maxHeartbeats 2000000 in
theorem rnewFinder_any_top (A : Option Addr) (c : Nat) (L : List Int) (x : Int) (hx : 1048576 < x) (w : World) (hb : ReadsInt w .i64 A L.length L) (hne : ∀ ad, A = some ad → ad.block < w.heap.size) (hL : ∀ x ∈ L, 0 ≤ x ∧ x ≤ 1) :
    Calls Try.prog 26 #[.slice A L.length c, .int .i64 x] w fun e w' => e = .returned (.pointer (some ⟨w.heap.size, 0, none⟩)) ∧ RF w.heap.size A c L w 0 65536 (vN (bD L) 1048576 16) (1048576 + 16) 16 w' ∧ w.heap.size < w'.heap.size := by
  have HF0 : Hid (∀ o, o = Obj.cells #[.int .i64 0, .int .i64 65536, .int .i64 0, .slice A L.length c, .int .i64 1048576, .int .i64 0] 63 → RF w.heap.size A c L w 0 65536 0 1048576 0 (w.alloc o)) := fun o ho => ⟨by rw [heap_alloc_new, ho]; rfl, hb.below (ba (br w) o), fun ad e => by have := hne ad e; omega, World.grownBy_alloc w _ _⟩
  have HLT := Lib.hid (vN_lt (fr := 1048576) (bD_le hL))
  have HL := Lib.hid hL
  clear hb hne hL
  generalize hn : L.length = nb at HF0
  have HNB := Lib.hid hn
  clear hn
  go_enter Try.func26, Try.ntmps26
  go_wp2
  go_loopg [6] 16 (fun gk x W => ∃ (i : Nat), i ≤ 16 ∧ gk = 16 - i ∧ x = .int .i64 i ∧ Hid (RF w.heap.size A c L w 0 65536 (vN (bD L) 1048576 i) (1048576 + i) i W))
  case atStart =>
    exact ⟨0, by omega, rfl, rfl, HF0.out _ rfl⟩
  case round =>
    obtain ⟨i, hi, rfl, rfl, HF⟩ := hrel
    have c2 : wr.cell? ⟨w.heap.size, 2, none⟩ = some (.int .i64 (vN (bD L) 1048576 i)) := (blk_cell HF.out.at_ 2).trans rfl
    by_cases hlt : i < 16
    · have hb := bD_le HL.out (1048576 + i)
      have hp : 2 ^ i ≤ 2 ^ 16 := Nat.pow_le_pow_right (show 0 < 2 by decide) (show i ≤ 16 by omega)
      have hv : vN (bD L) 1048576 i < 65536 := Nat.lt_of_lt_of_le (HLT.out i) hp
      have T := Lib.hid (rbit_any w.heap.size A c L w 0 65536 (vN (bD L) 1048576 i) (1048576 + i) i wr.drew HF.out.drew HL.out (by omega) (by omega))
      have HS : Hid (vN (bD L) 1048576 (i + 1) = 2 * vN (bD L) 1048576 i + bD L (1048576 + i)) := rfl
      generalize bD L (1048576 + i) = bb at T hb HS
      generalize vN (bD L) 1048576 i = va at T hv HS c2
      go_wp2
      go_region_with (first
          | (go_at_call 50; refine T.out.mono ?_; rintro e w3 ⟨rfl, h3⟩; have hs3 : w.heap.size < w3.heap.size := blk_lt h3.at_; have c2' : w3.cell? ⟨w.heap.size, 2, none⟩ = some (.int .i64 va) := (blk_cell h3.at_ 2).trans rfl; have f2 : w3.frozen? ⟨w.heap.size, 2, none⟩ = false := blk_frozen h3.at_ 2)
          | fail)
      all_goals
        go_wp2
        go_roundg (16 - (i + 1))
        case measure => omega
        case rel =>
          refine ⟨i + 1, by omega, rfl, by go_num, ?_⟩
          rw [HS.out, show (va : Int) * 2 + (bb : Int) = ((2 * va + bb : Nat) : Int) from by omega]
          exact h3.s2 _
    · obtain rfl : i = 16 := by omega
      go_wp2
      go_ret
      exact ⟨rfl, HF.out, blk_lt HF.out.at_⟩
end Go.Proofs.Ytikjolinendfgaa.Ari
