/- The walks of the package riff: song, with slices.Index and slices.Equal. -/
import Derived.Test.YtcjnfdhdcoobgaaRiff8
set_option linter.unusedVariables false
set_option linter.unusedSimpArgs false
namespace Go.Proofs.Ytcjnfdhdcoobgaa.Rif
open Go.RowKit Go.Proofs.YtcjnfdhdcoobgaaW.PrintWords Go.Proofs.YtcjnfdhdcoobgaaW.PrintLast Go.Proofs.YtcjnfdhdcoobgaaW.PrintMore Go.Proofs.Ytcjnfdhdcoobgaa.Chk

/-- the rate of so many samples a second -/
def rateOf (x : Int) : Int := if x = 16000 then 0 else if x = 32000 then 1 else if x = 44100 then 2 else if x = 48000 then 3 else -1
theorem rateOf_sec (k : Nat) (h : k < 4) : rateOf (sec k) = k := by
  have : k = 0 ∨ k = 1 ∨ k = 2 ∨ k = 3 := by omega
  rcases this with rfl | rfl | rfl | rfl <;> rfl
theorem rateOf_none (x : Int) (h : ∀ j : Nat, j < 4 → sec j ≠ x) : rateOf x = -1 := by
  have h0 := h 0 (by omega)
  have h1 := h 1 (by omega)
  have h2 := h 2 (by omega)
  have h3 := h 3 (by omega)
  change (16000 : Int) ≠ x at h0
  change (32000 : Int) ≠ x at h1
  change (44100 : Int) ≠ x at h2
  change (48000 : Int) ≠ x at h3
  unfold rateOf
  rw [if_neg h0.symm, if_neg h1.symm, if_neg h2.symm, if_neg h3.symm]
set_option maxRecDepth 100000 in
set_option maxHeartbeats 400000 in
theorem index_any (g : Nat) (x : Int) (w : World) (hy : ∀ R : Int, 0 ≤ R → R ≤ 3 → w.cell? ⟨g, R.toNat, none⟩ = some (.int .i64 (sec R))) :
    Calls Try.prog 82 #[.slice (some ⟨g, 0, none⟩) 4 4, .int .i64 x] w fun e w' => e = .returned (.int .i64 (rateOf x)) ∧ w' = w := by
  have HY := Lib.hid hy
  clear hy
  go_enter Try.func82, Try.ntmps82
  go_wp2
  go_loopg [8] 4 (fun gk v W => ∃ k : Nat, k ≤ 4 ∧ gk = 4 - k ∧ v = .int .i64 k ∧ Hid (∀ j : Nat, j < k → sec j ≠ x) ∧ W = w)
  case atStart => exact ⟨0, by omega, rfl, rfl, fun j hj => by omega, rfl⟩
  case round =>
    obtain ⟨k, hk, rfl, rfl, HN, rfl⟩ := hrel
    by_cases hlt : k < 4
    · have y := HY.out k (by omega) (by omega)
      rw [Int.toNat_natCast] at y
      have hR := Lib.hid (rateOf_sec k hlt)
      obtain ⟨s, hs⟩ : ∃ s, s = sec k := ⟨_, rfl⟩
      rw [← hs] at y hR
      have HS := Lib.hid hs
      clear hs
      rcases Classical.em (x = s) with he | he
      · have hb : (x == s) = true := beq_iff_eq.2 he
        have HE := Lib.hid he
        clear he
        go_wp2
        go_ret
        exact ⟨ret_int (by rw [HE.out, hR.out]), rfl⟩
      · have hb : (x == s) = false := beq_eq_false_iff_ne.2 he
        have HE := Lib.hid he
        clear he
        go_wp2
        go_roundg (4 - (k + 1))
        case measure => omega
        case rel => exact ⟨k + 1, by omega, rfl, by go_num, fun j hj => by
          rcases Nat.lt_or_ge j k with h | h
          · exact HN.out j h
          · obtain rfl : j = k := by omega
            rw [← HS.out]; exact fun e => HE.out e.symm, rfl⟩
    · obtain rfl : k = 4 := by omega
      go_wp2
      go_ret
      exact ⟨ret_int (rateOf_none x HN.out).symm, rfl⟩
theorem rd_ext {xs ys : List Int} (h : xs.length = ys.length) (hr : ∀ j : Nat, j < xs.length → rd xs (j : Int) = rd ys (j : Int)) : xs = ys := by
  apply List.ext_getElem h
  intro i h1 h2
  have := hr i h1
  simpa [rd, List.getD_eq_getElem?_getD, List.getElem?_eq_getElem h1, List.getElem?_eq_getElem h2] using this
set_option maxRecDepth 100000 in
set_option maxHeartbeats 1000000 in
theorem equal_any (A B : Option Addr) (n m c d : Nat) (xs ys : List Int) (w : World) (hx : ReadsInt w .u8 A n xs) (hy : ReadsInt w .u8 B m ys) :
    Calls Try.prog 83 #[.slice A n c, .slice B m d] w fun e w' => e = .returned (.bool (decide (xs = ys))) ∧ Below w.heap.size w w' := by
  obtain rfl := hx.1
  obtain rfl := hy.1
  have hxl := hx.2.1
  have hyl := hy.2.1
  by_cases hl : xs.length = ys.length
  · have b0 : ((xs.length : Int) != (ys.length : Int)) = false := bne_eq_false_iff_eq.2 (by omega)
    have HL := Lib.hid hl
    clear hl
    go_enter Try.func83, Try.ntmps83
    go_wp2
    go_loopg [13] xs.length (fun gk v W => ∃ k : Nat, k ≤ xs.length ∧ gk = xs.length - k ∧ v = .int .i64 k ∧ Hid (∀ j : Nat, j < k → rd xs (j : Int) = rd ys (j : Int)) ∧ Below w.heap.size w W)
    case atStart => exact ⟨0, by omega, rfl, rfl, fun j hj => by omega, br w⟩
    case round =>
      obtain ⟨k, hk, rfl, rfl, HN, hb⟩ := hrel
      by_cases hlt : k < xs.length
      · have hk2 : k < ys.length := by have := HL.out; omega
        obtain ⟨ad, rfl, y1⟩ := (hx.below hb).at_ (k : Int) (by omega) (by omega)
        obtain ⟨bd_, rfl, y2⟩ := (hy.below hb).at_ (k : Int) (by omega) (by omega)
        rw [Int.toNat_natCast] at y1 y2
        have i0 : (0 : Int) ≤ (k : Int) := by omega
        have i1 : (k : Int) < (xs.length : Int) := by omega
        have i2 : (k : Int) < (ys.length : Int) := by omega
        obtain ⟨p, hp⟩ : ∃ p, p = rd xs (k : Int) := ⟨_, rfl⟩
        obtain ⟨q, hq⟩ : ∃ q, q = rd ys (k : Int) := ⟨_, rfl⟩
        rw [← hp] at y1
        rw [← hq] at y2
        have HPQ := Lib.hid (And.intro hp hq)
        clear hp hq
        rcases Classical.em (p = q) with he | he
        · have hbq : (p != q) = false := bne_eq_false_iff_eq.2 he
          have HE := Lib.hid he
          clear he
          go_upto_region 6 with fail
          go_quiet (fail)
          go_wp2
          go_roundg (xs.length - (k + 1))
          case measure => omega
          case rel => exact ⟨k + 1, by omega, rfl, by go_num, fun j hj => by
            rcases Nat.lt_or_ge j k with h | h
            · exact HN.out j h
            · obtain rfl : j = k := by omega
              rw [← HPQ.out.1, ← HPQ.out.2]; exact HE.out, below_drewN hb _⟩
        · have hbq : (p != q) = true := bne_iff_ne.2 he
          have HE := Lib.hid he
          clear he
          go_upto_region 6 with fail
          go_quiet (fail)
          go_wp2
          go_ret
          exact ⟨by rw [decide_eq_false (fun e => HE.out (by rw [HPQ.out.1, HPQ.out.2, e]))]; rfl, below_drewN hb _⟩
      · obtain rfl : k = xs.length := by omega
        go_wp2
        go_ret
        exact ⟨by rw [decide_eq_true (rd_ext HL.out HN.out)]; rfl, hb⟩
  · have b0 : ((xs.length : Int) != (ys.length : Int)) = true := bne_iff_ne.2 (by omega)
    rw [decide_eq_false (fun e => hl (by rw [e]))]
    clear hl
    go_enter Try.func83, Try.ntmps83
    go_wp2
    go_ret
    exact ⟨rfl, br w⟩
end Go.Proofs.Ytcjnfdhdcoobgaa.Rif
