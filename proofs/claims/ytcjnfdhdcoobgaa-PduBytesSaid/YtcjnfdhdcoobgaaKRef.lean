/- The walks of the reference's Tail, Seal and Open. -/
import Derived.Test.YtcjnfdhdcoobgaaKSeal
set_option linter.unusedVariables false
set_option linter.unusedSimpArgs false
namespace Go.Proofs.Ytcjnfdhdcoobgaa.Chk
open Go.RowKit Go.Proofs.YtcjnfdhdcoobgaaW.PrintWords Go.Proofs.YtcjnfdhdcoobgaaW.PrintLast Go.Proofs.YtcjnfdhdcoobgaaW.PrintMore

def rt (S : Nat) : Nat → List Int
  | 0 => []
  | k + 1 => ((S / 256 ^ k % 256 : Nat) : Int) :: rt S k
theorem rt_tail {wd st p : Nat} (hk : Knd wd st p) (S : Nat) : rt S (wd / 8) = tailL wd S (wd / 8) := by
  cases hk <;> simp [rt, tailL, List.range_succ]
theorem rt_byte (S : Nat) : ∀ k, Bytes (rt S k)
  | 0 => fun x hx => by simp [rt] at hx
  | k + 1 => fun x hx => by
    simp only [rt, List.mem_cons] at hx
    rcases hx with rfl | hx
    · omega
    · exact rt_byte S k x hx
theorem rt_length (S : Nat) : ∀ k, (rt S k).length = k
  | 0 => rfl
  | k + 1 => by simp [rt, rt_length S k]
set_option maxRecDepth 100000 in
set_option maxHeartbeats 1000000 in
theorem rtail_any {wd st p : Nat} (hk : Knd wd st p) (S : Nat) (hS : S < 16777216) (w : World) :
    Calls Try.prog 77 #[.int .i64 wd, .int .u32 S] w fun e w' => e = .returned (.string (strOfNums (tailL wd S (wd / 8)))) ∧ Below w.heap.size w w' := by
  obtain ⟨w1, w2, -, -, -, -, -, w8, -⟩ := hk.w
  have HR := Lib.hid (rt_tail hk S)
  have hcv : ∀ (W : World) (x : Int), (convert 37 9 (.slice (some ⟨W.heap.size, 0, none⟩) 1 1)).run Try.prog (W.alloc (.cells #[.int .u8 x] 5)) = .ok (.string (strOfNums [x])) (W.alloc (.cells #[.int .u8 x] 5)) :=
    fun W x => own_string (n := 1) (xs := [x]) Try.underlying37 Try.underlying5 Try.underlying9 (own_lit W 0 5 .u8 [x] (Nat.zero_le _) (by simp))
  go_enter Try.func77, Try.ntmps77
  go_wp2
  go_loopg [1, 5, 6] (wd / 8) (fun g s t i wr => ∃ k T : Nat, k ≤ wd / 8 ∧ g = wd / 8 - k ∧ i = .int .i64 k ∧ s = .int .u32 T ∧ T < 16777216 ∧ Hid (T = S / 256 ^ k) ∧ t = .string (strOfNums (rt S k)) ∧ Below w.heap.size w wr)
  case atStart => exact ⟨0, S, by omega, by omega, rfl, rfl, hS, by show S = _; simp, rfl, br w⟩
  case round =>
    obtain ⟨k, T, hk8, rfl, rfl, rfl, hT, HT, rfl, hb⟩ := hrel
    by_cases hlt : k < wd / 8
    · have hlen : (strOfNums (rt S k)).size = k := by rw [strOfNums_size, rt_length]
      have h1 : ∀ x, (strOfNums [x]).size = 1 := fun x => by rw [strOfNums_size]; rfl
      have e1 : ((T / 256 : Nat) : Int) = (T : Int) / 256 := by omega
      have HE := Lib.hid e1
      have e2 : strOfNums [(T : Int) % 256] ++ strOfNums (rt S k) = strOfNums (rt S (k + 1)) := by
        rw [str_append]; simp only [rt, List.cons_append, List.nil_append, ← HT.out]; congr 2
      have HE2 := Lib.hid e2
      clear e1 e2
      go_wp2
      go_roundg (wd / 8 - (k + 1))
      case measure => omega
      case rel => exact ⟨k + 1, T / 256, by omega, rfl, by go_num, by rw [HE.out], by omega, by show T / 256 = _; rw [HT.out, Nat.pow_succ, Nat.div_div_eq_div_mul], by rw [HE2.out], ba hb _⟩
    · have hkk : k = wd / 8 := by omega
      have HK := Lib.hid hkk
      have hnl : decide ((k : Int) < (wd : Int) / 8) = false := decide_eq_false (by omega)
      clear hkk
      go_wp2
      go_ret
      exact ⟨by rw [← HR.out, ← HK.out]; rfl, hb⟩
theorem rsum_of {wd st p : Nat} (hk : Knd wd st p) (A : Option Addr) (n' c : Nat) (l : List Int) (n : Int) (w : World) (h0 : 0 ≤ n) (hn : n ≤ 8 * l.length)
    (hl : l.length ≤ 140737488351232) (hlu : Bytes l) (hr : ReadsInt w .u8 A n' l) :
    Calls Try.prog 78 #[.int .i64 wd, .slice A n' c, .int .i64 n] w
      fun e w' => e = .returned (.int .u32 ((sumN wd st p l n.toNat : Nat) : Int)) ∧ w' = w := by
  obtain rfl := hr.1
  exact rsum_knd hk A c l n w h0 hn hl hlu hr
set_option maxRecDepth 100000 in
set_option maxHeartbeats 1000000 in
theorem rseal_knd {wd st p : Nat} (hk : Knd wd st p) (L : List Int) (hL : Bytes L) (hl : L.length ≤ 4096) (w : World) :
    Calls Try.prog 58 #[.int .i64 wd, .string (strOfNums L)] w
      fun e w' => e = .returned (.tuple #[.string (strOfNums (L ++ tailL wd (sumN wd st p L (8 * L.length)) (wd / 8))), .int .i64 0]) ∧ Below w.heap.size w w' := by
  have hsz := strOfNums_size L
  have hsT := strOfNums_size (tailL wd (sumN wd st p L (8 * L.length)) (wd / 8))
  rw [tailL_length] at hsT
  have hw2 := hk.w.2.1
  have hS := Lib.hid (show sumN wd st p L (8 * L.length) < 16777216 from Nat.lt_of_lt_of_le (sumN_lt hk L _) hk.w.2.2.2.2.2.1)
  have e8 := Lib.hid (show (8 * (L.length : Int)).toNat = 8 * L.length by omega)
  have kb := fun W : World => print_bytes (P := Try.prog) 9 37 5 Try.underlying9 Try.underlying37 Try.underlying5 (strOfNums L) W
  have HRD : Hid (∀ W : World, ReadsInt (Lib.bytesWorld W 5 (strOfNums L)) .u8 (some ⟨W.heap.size, 0, none⟩) L.length L) := fun W => by
    have := bytes_reads W 5 (strOfNums L) (by rw [strOfNums_size]; omega)
    rw [bytesOf_str hL, strOfNums_size] at this
    exact this
  have HAP := Lib.hid (str_append L (tailL wd (sumN wd st p L (8 * L.length)) (wd / 8)))
  go_enter Try.func58, Try.ntmps58
  go_wp2_with fail
  refine (kind_knd hk _ rfl _).mono ?_
  rintro e w1 ⟨rfl, rfl⟩
  go_wp2_with fail
  refine (rsum_of hk _ _ _ L _ _ (by omega) (by omega) (by omega) hL (HRD.out _)).mono ?_
  rintro e w1 ⟨rfl, rfl⟩
  rw [e8.out]
  go_wp2_with fail
  refine (rtail_any hk _ hS.out _).mono ?_
  rintro e w2 ⟨rfl, hb2⟩
  go_wp2_with fail
  go_ret2
  exact ⟨by rw [← HAP.out]; rfl, bt (bytes_below (br w) (Nat.le_refl _) _ _) hb2⟩
/-- what Open answers of bytes -/
theorem fits_iff (wd st p : Nat) (L : List Int) (h : wd / 8 ≤ L.length) (hw : sumN wd st p (L.take (L.length - wd / 8)) (8 * (L.length - wd / 8)) = sumN wd st p L (8 * (L.length - wd / 8))) :
    (L.take (L.length - wd / 8) ++ tailL wd (sumN wd st p (L.take (L.length - wd / 8)) (8 * (L.take (L.length - wd / 8)).length)) (wd / 8) = L) ↔ fits wd st p L := by
  have hl : (L.take (L.length - wd / 8)).length = L.length - wd / 8 := by rw [List.length_take]; omega
  rw [hl, hw]
  unfold fits
  constructor
  · intro e
    exact ⟨h, List.append_cancel_left (e.trans (List.take_append_drop (L.length - wd / 8) L).symm)⟩
  · rintro ⟨-, e⟩
    rw [e]; exact List.take_append_drop _ _
theorem sumN_take (wd st p : Nat) (L : List Int) (n : Nat) (h : n ≤ L.length) : sumN wd st p (L.take n) (8 * n) = sumN wd st p L (8 * n) := by
  unfold sumN
  apply Crc.feed_congr
  intro j _ hj
  unfold bitAt rd
  rw [Int.toNat_natCast, List.getD_eq_getElem?_getD, List.getD_eq_getElem?_getD, List.getElem?_take, if_pos (by omega)]
end Go.Proofs.Ytcjnfdhdcoobgaa.Chk
