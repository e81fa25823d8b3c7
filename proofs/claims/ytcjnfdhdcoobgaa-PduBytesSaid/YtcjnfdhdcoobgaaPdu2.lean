/- The walk of pdu.Bytes. -/
import Derived.Test.YtcjnfdhdcoobgaaPdu1
set_option linter.unusedVariables false
set_option linter.unusedSimpArgs false
namespace Go.Proofs.Ytcjnfdhdcoobgaa.Pdu
open Go.RowKit Go.Proofs.YtcjnfdhdcoobgaaW.PrintWords Go.Proofs.YtcjnfdhdcoobgaaW.PrintLast Go.Proofs.YtcjnfdhdcoobgaaW.PrintMore Go.Proofs.Ytcjnfdhdcoobgaa.Chk

/-- a number's bytes, the highest first -/
def be (X : Int) (wd j : Nat) : List Int := (List.range j).map fun i => X / 2 ^ (8 * (wd - 1 - i)) % 256
theorem be_succ (X : Int) (wd j : Nat) : be X wd (j + 1) = be X wd j ++ [X / 2 ^ (8 * (wd - 1 - j)) % 256] := by unfold be; rw [List.range_succ, List.map_append]; rfl
theorem be_length (X : Int) (wd j : Nat) : (be X wd j).length = j := by simp [be]
theorem be_byte (X : Int) (wd j : Nat) : Bytes (be X wd j) := by
  intro x hx
  obtain ⟨i, -, rfl⟩ := List.mem_map.1 hx
  omega
/-- a packet's bytes without their sum -/
def bodyL (K E N : Int) (L : List Int) : List Int := [K] ++ be E 3 3 ++ be N 3 3 ++ be L.length 2 2 ++ L
/-- the head, its first t fields -/
def hdL (K E N : Int) (len : Nat) : Nat → List Int
  | 0 => [K]
  | 1 => [K] ++ be E 3 3
  | 2 => [K] ++ be E 3 3 ++ be N 3 3
  | _ => [K] ++ be E 3 3 ++ be N 3 3 ++ be len 2 2
theorem hdL_length (K E N : Int) (len t : Nat) (h : t ≤ 3) : (hdL K E N len t).length ≤ 9 := by
  have : t = 0 ∨ t = 1 ∨ t = 2 ∨ t = 3 := by omega
  rcases this with rfl | rfl | rfl | rfl <;> simp [hdL, be_length]
theorem arr_at (K E N : Int) (len t : Nat) (h : t < 3) (hE : 0 ≤ E) (hE2 : E < 16777216) (hN : 0 ≤ N) (hN2 : N < 16777216) (hl : len ≤ 512) : ∃ (X : Int) (Wd : Nat),
    (∀ w, (Instr.index 103 (.agg #[.int .i64 E, .int .i64 3, .int .i64 N, .int .i64 3, .int .i64 len, .int .i64 2]) (.int .i64 (t : Int))).run Try.prog w = .ok (.agg #[.int .i64 X, .int .i64 Wd]) w) ∧
    1 ≤ Wd ∧ Wd ≤ 3 ∧ 0 ≤ X ∧ X < 16777216 ∧ Hid (hdL K E N len (t + 1) = hdL K E N len t ++ be X Wd Wd) := by
  have : t = 0 ∨ t = 1 ∨ t = 2 := by omega
  rcases this with rfl | rfl | rfl
  · exact ⟨E, 3, fun _ => by kernel_rfl, by omega, by omega, hE, hE2, rfl⟩
  · exact ⟨N, 3, fun _ => by kernel_rfl, by omega, by omega, hN, hN2, rfl⟩
  · exact ⟨len, 2, fun _ => by kernel_rfl, by omega, by omega, by omega, by omega, rfl⟩
theorem body_byte (K E N : Int) (L : List Int) (hK : 0 ≤ K ∧ K ≤ 255) (hL : Bytes L) : Bytes (bodyL K E N L) := by
  unfold bodyL
  refine Bytes.append (Bytes.append (Bytes.append (Bytes.append (fun x hx => ?_) (be_byte _ _ _)) (be_byte _ _ _)) (be_byte _ _ _)) hL
  simp only [List.mem_singleton] at hx; subst hx; exact hK
def sealL (l : List Int) : List Int := l ++ tailL 24 (sumN 24 5592405 1627 l (8 * l.length)) 3

set_option maxRecDepth 100000 in
set_option maxHeartbeats 2000000 in
theorem bytes_yes (K E N : Int) (L : List Int) (w : World) (hL : Bytes L) (h : May K E N L) :
    Calls Try.prog 24 #[.agg #[.int .i64 K, .int .i64 E, .int .i64 N, .string (strOfNums L)]] w (Row8E (sealL (bodyL K E N L)) 0 w) := by
  have T := fun w => may_any K E N L w (by have := h.2.2.2.2.2.2; omega)
  rw [decide_eq_true h] at T
  obtain ⟨h1, h2, h3, h4, h5, h6, h7⟩ := h
  have hsz := strOfNums_size L
  have HS := Lib.hid hsz
  clear hsz
  go_enter Try.func24, Try.ntmps24
  go_wp2_with fail
  refine (T _).mono ?_
  rintro e w1 ⟨rfl, hb1⟩
  have hx1 : w1.heap[w.heap.size]? = some (.cells #[.int .i64 K, .int .i64 E, .int .i64 N, .string (strOfNums L)] 44 (0, 0)) := (hb1.block _ (by simp)).trans (heap_alloc_new w _)
  have hb1' : Below w.heap.size w w1 := bt (ba (br w) _) hb1
  have z0 : w1.cell? ⟨w.heap.size, 0, none⟩ = some (.int .i64 K) := blk_cell hx1 0
  have z1 : w1.cell? ⟨w.heap.size, 1, none⟩ = some (.int .i64 E) := blk_cell hx1 1
  have z2 : w1.cell? ⟨w.heap.size, 2, none⟩ = some (.int .i64 N) := blk_cell hx1 2
  have z3 : w1.cell? ⟨w.heap.size, 3, none⟩ = some (.string (strOfNums L)) := blk_cell hx1 3
  have z1' := fun o => pw_cell_below (ba (br w1) o) z1
  have z2' := fun o => pw_cell_below (ba (br w1) o) z2
  have z3' := fun o => pw_cell_below (ba (br w1) o) z3
  have eK : K % 256 = K := by omega
  clear hb1
  obtain ⟨len, hlen⟩ : ∃ len, len = (strOfNums L).size := ⟨_, rfl⟩
  have HLEN : Hid (len = L.length) := by rw [hlen]; exact HS.out
  obtain ⟨st, hst⟩ : ∃ st, st = strOfNums L := ⟨_, rfl⟩
  rw [← hst] at hlen hx1 z3 z3' ⊢
  have hst5 : st.size ≤ 512 := by have := HLEN.out; omega
  have HST := Lib.hid hst
  have hlen5 : len ≤ 512 := by have := HLEN.out; omega
  clear hst
  go_wp2
  rw [← hlen]
  clear hlen z1' z2' z3'
  go_loopg [4, 26] 3 (fun gk v x W => ∃ t : Nat, t ≤ 3 ∧ gk = 3 - t ∧ x = .int .i64 t ∧ W.ownsRow w1.heap.size 5 1 v (hdL K E N len t).length (nums .u8 (hdL K E N len t)) ∧ Below w1.heap.size w1 W)
  case atStart => exact ⟨0, by omega, by omega, rfl, own_lit w1 w1.heap.size 5 .u8 [K] (Nat.le_refl _) (by simp), ba (br _) _⟩
  case round =>
    obtain ⟨t, ht, rfl, rfl, hown, hb⟩ := hrel
    obtain ⟨A4, c4, rfl⟩ := own_slice hown
    by_cases hlt : t < 3
    · obtain ⟨X, Wd, hidx, hW1, hW3, hX0, hX, HD⟩ := arr_at K E N len t hlt (by omega) (by omega) (by omega) (by omega) hlen5
      have dlt : decide ((t : Int) < 3) = true := decide_eq_true (by omega)
      have hlent := hdL_length K E N len t (by omega)
      have hll : (hdL K E N len t).length ≤ 9 := by omega
      clear hlent
      obtain ⟨wx, hwx⟩ : ∃ wx : World, wx = wr.alloc (.cells #[.int .i64 X, .int .i64 Wd] 102) := ⟨_, rfl⟩
      have hox : wx.heap[wr.heap.size]? = some (.cells #[.int .i64 X, .int .i64 Wd] 102 (0, 0)) := by rw [hwx]; exact heap_alloc_new _ _
      have hownx : wx.ownsRow w1.heap.size 5 1 (.slice A4 (hdL K E N len t).length c4) (hdL K E N len t).length (nums .u8 (hdL K E N len t)) := by rw [hwx]; exact pw_own_below hown (ba (br _) _)
      have hbx : Below w1.heap.size w1 wx := by rw [hwx]; exact ba hb _
      obtain ⟨H, hH⟩ : ∃ H, H = hdL K E N len t := ⟨_, rfl⟩
      have HH := Lib.hid hH
      rw [← hH] at hll hownx HD ⊢
      have HWX := Lib.hid hwx
      clear hH hwx hown
      go_wp2
      clear hidx
      rw [← HWX.out]
      obtain ⟨wo, rfl⟩ : ∃ wo : World, wo = wr := ⟨_, rfl⟩
      go_loopg [4, 7] Wd (fun gk v x W => ∃ j : Nat, j ≤ Wd ∧ gk = Wd - j ∧ x = .int .i64 ((Wd : Int) - 1 - j) ∧ W.ownsRow w1.heap.size 5 1 v (H ++ be X Wd j).length (nums .u8 (H ++ be X Wd j)) ∧ Below w1.heap.size w1 W ∧
        W.heap[wo.heap.size]? = some (.cells #[.int .i64 X, .int .i64 Wd] 102 (0, 0)))
      case atStart => exact ⟨0, by omega, by omega, by simp, by simpa [be] using hownx, hbx, hox⟩
      case round =>
        clear hownx hbx hox
        obtain ⟨j, hj, rfl, rfl, hown2, hb2, ho2⟩ := hrel
        obtain ⟨M, hM⟩ : ∃ M, M = H ++ be X Wd j := ⟨_, rfl⟩
        have hMl : M.length ≤ 12 := by rw [hM, List.length_append, be_length]; omega
        have HM := Lib.hid hM
        rw [← hM] at hown2
        clear hM
        obtain ⟨A5, c5, rfl⟩ := own_slice hown2
        by_cases hltj : j < Wd
        · have y0 : wr.cell? ⟨wo.heap.size, 0, none⟩ = some (.int .i64 X) := blk_cell ho2 0
          obtain ⟨x, hx⟩ : ∃ x : Nat, (Wd : Int) - 1 - j = x := ⟨Wd - 1 - j, by omega⟩
          rw [hx]
          have HX := Lib.hid hx
          have hx3 : x < 3 := by omega
          have HB := Lib.hid (be_succ X Wd j)
          clear hx
          go_wp2_with (at_builtin; go_loud (refine print_append_num w1.heap.size rfl (.tmp 36) (.tmp 43) 37 5 .u8 1 rfl Try.underlying37 info8 (by decide) _ M (X / 2 ^ (8 * x) % 256) rfl rfl hown2 hb2 hb2.size (by omega) ?_); intro v6 w6 hown6 hb6 hg6 hat6)
          have ho6 := blk_grown ho2 hg6 (own_ne hown2 ho2 (by decide))
          clear hg6 hat6
          go_roundg (Wd - (j + 1))
          case measure => omega
          case rel =>
            refine ⟨j + 1, by omega, rfl, by congr 1; have := HX.out; push_cast; omega, ?_, hb6, ho6⟩
            have e1 : Wd - 1 - j = x := by have := HX.out; omega
            rw [HB.out, e1, ← List.append_assoc, ← HM.out]
            exact hown6
        · obtain rfl : j = Wd := by omega
          go_wp2
          go_roundg (3 - (t + 1))
          case measure => omega
          case rel => exact ⟨t + 1, by omega, rfl, by go_num, by rw [HD.out, ← HM.out]; exact hown2, hb2⟩
    · obtain rfl : t = 3 := by omega
      have q3 := pw_cell_below hb z3
      have hll := hdL_length K E N len 3 (by omega)
      go_wp2_with (at_builtin; go_loud (refine print_append_str w1.heap.size rfl (.tmp 46) (.tmp 48) 37 9 5 rfl Try.underlying37 Try.underlying9 info8 _ (hdL K E N len 3) st rfl rfl hown hb hb.size (by omega) ?_); intro v5 w5 hown5 hb5 hg5)
      have hbo : bytesOf st = L := by rw [HST.out]; exact bytesOf_str hL
      rw [hbo] at hown5
      have hbody : hdL K E N len 3 ++ L = bodyL K E N L := by unfold bodyL; rw [← HLEN.out]; rfl
      rw [hbody] at hown5
      have hbl : (bodyL K E N L).length ≤ 4096 := by rw [← hbody, List.length_append]; omega
      have hBy : Bytes (bodyL K E N L) := body_byte K E N L (by omega) hL
      obtain ⟨A5, c5, rfl, hr5⟩ := own_reads hown5
      clear hbo hbody hown5 hg5 q3 hown
      go_wp2_with fail
      refine (seal_of Knd.k24 A5 _ c5 (bodyL K E N L) w5 hbl hBy hr5).mono ?_
      rintro e w6 ⟨v6, rfl, hown6, hb6⟩
      go_wp2
      go_ret2
      have hb5' : Below w.heap.size w w5 := bt hb1' hb5
      exact ⟨v6, rfl, own_weaken hown6 hb5'.size, bt hb5' hb6⟩

set_option maxRecDepth 100000 in
set_option maxHeartbeats 400000 in
theorem bytes_no (K E N : Int) (L : List Int) (w : World) (hl : L.length ≤ 140737488351232) (h : ¬ May K E N L) :
    Calls Try.prog 24 #[.agg #[.int .i64 K, .int .i64 E, .int .i64 N, .string (strOfNums L)]] w fun e w' => e = .returned (.tuple #[.slice none 0 0, .int .i64 1]) ∧ Below w.heap.size w w' := by
  have T := fun w => may_any K E N L w hl
  rw [decide_eq_false h] at T
  clear h
  generalize strOfNums L = st at T
  go_enter Try.func24, Try.ntmps24
  go_wp2_with fail
  refine (T _).mono ?_
  rintro e w1 ⟨rfl, hb1⟩
  go_wp2
  go_ret2
  exact ⟨rfl, bt (ba (br w) _) hb1⟩
end Go.Proofs.Ytcjnfdhdcoobgaa.Pdu
