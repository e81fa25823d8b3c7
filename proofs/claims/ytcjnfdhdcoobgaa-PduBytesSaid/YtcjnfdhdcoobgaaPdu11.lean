/- The walk of the document's Parse. -/
import Derived.Test.YtcjnfdhdcoobgaaPdu10
set_option linter.unusedVariables false
set_option linter.unusedSimpArgs false
namespace Go.Proofs.Ytcjnfdhdcoobgaa.Pdu
open Go.RowKit Go.Proofs.YtcjnfdhdcoobgaaW.PrintWords Go.Proofs.YtcjnfdhdcoobgaaW.PrintLast Go.Proofs.YtcjnfdhdcoobgaaW.PrintMore Go.Proofs.Ytcjnfdhdcoobgaa.Chk

theorem str_index (s : ByteArray) (i : Nat) (h : i < s.size) (W : World) : (Instr.index 9 (.string s) (.int .i64 (i : Int))).run Try.prog W = .ok (.int .u8 (rd (bytesOf s) (i : Int))) W := by
  have e : s[i]? = some (s[i]'h) := getElem?_pos s i h
  have e2 : ((s[i]'h).toNat : Int) = rd (bytesOf s) (i : Int) := by
    have h' : i < s.data.toList.length := by rw [data_length]; exact h
    simp [rd, bytesOf, List.getD_eq_getElem?_getD, List.getElem?_eq_getElem h']
    rfl
  rw [← e2]
  have hA : ∀ (k : IntKind) (i : Int) (W : World), (asIntOf (.int k i)).run Try.prog W = .ok (k, i) W := fun _ _ _ => rfl
  simp [Instr.index, Try.underlying9, e, hA, Result.andThen]
theorem str_cut (s : ByteArray) (a b : Nat) (h : a ≤ b) (hb : b ≤ s.size) (W : World) : (Instr.slice 9 (.string s) (some (.int .i64 (a : Int))) (some (.int .i64 (b : Int))) none).run Try.prog W = .ok (.string (s.extract a b)) W := by
  have h1 : (0 : Int) ≤ (b : Int) ∧ (b : Int) ≤ (s.size : Int) := by omega
  have h2 : (0 : Int) ≤ (a : Int) ∧ (a : Int) ≤ (b : Int) := by omega
  have hA : ∀ (k : IntKind) (i : Int) (W : World), (asIntOf (.int k i)).run Try.prog W = .ok (k, i) W := fun _ _ _ => rfl
  have h3 : max (b : Int) 0 = b := by omega
  simp [Instr.slice, Instr.sliceBounds, Instr.sliceBound, Try.underlying9, hA, h3, h, hb, Result.andThen]
theorem parts_b (M : List Int) (h : 12 ≤ M.length) : rd (M.take (M.length - 3)) 0 = rd M 0 ∧ (∀ k : Nat, k < 3 → rd (((M.take (M.length - 3)).take 4).drop 1) (k : Int) = rd M ((k + 1 : Nat) : Int)) ∧ (∀ k : Nat, k < 3 → rd (((M.take (M.length - 3)).take 7).drop 4) (k : Int) = rd M ((k + 4 : Nat) : Int)) := by
  refine ⟨?_, fun k hk => ?_, fun k hk => ?_⟩
  · unfold rd
    simp only [List.getD_eq_getElem?_getD, List.getElem?_take]
    rw [if_pos (by show (0 : Int).toNat < _; simp; omega)]
  · unfold rd
    simp only [List.getD_eq_getElem?_getD, List.getElem?_drop, List.getElem?_take, Int.toNat_natCast]
    rw [if_pos (by omega), if_pos (by omega), Nat.add_comm]
  · unfold rd
    simp only [List.getD_eq_getElem?_getD, List.getElem?_drop, List.getElem?_take, Int.toNat_natCast]
    rw [if_pos (by omega), if_pos (by omega), Nat.add_comm]

/-- the answer's block and the packet's -/
structure PB (W : World) (g q : Nat) (a b c : Int) (d : ByteArray) : Prop where
  zero : W.heap[g]? = some (.cells #[.int .i64 0, .int .i64 0, .int .i64 0, .string ⟨#[]⟩] 41 (0, 0))
  at_ : W.heap[q]? = some (.cells #[.int .i64 a, .int .i64 b, .int .i64 c, .string d] 41 (0, 0))
theorem PB.set {W : World} {g q : Nat} {a b c : Int} {d : ByteArray} (h : PB W g q a b c d) (hne : g ≠ q) :
    (∀ x, PB (W.setCell ⟨q, 1, none⟩ (.int .i64 x)) g q a x c d) ∧ (∀ x, PB (W.setCell ⟨q, 2, none⟩ (.int .i64 x)) g q a b x d) ∧ (∀ x, PB (W.setCell ⟨q, 3, none⟩ (.string x)) g q a b c x) :=
  ⟨fun x => ⟨(Below.heap_setCell W ⟨q, 1, none⟩ _ _ hne).trans h.zero, (blk_set h.at_ _ _).trans rfl⟩, fun x => ⟨(Below.heap_setCell W ⟨q, 2, none⟩ _ _ hne).trans h.zero, (blk_set h.at_ _ _).trans rfl⟩, fun x => ⟨(Below.heap_setCell W ⟨q, 3, none⟩ _ _ hne).trans h.zero, (blk_set h.at_ _ _).trans rfl⟩⟩
theorem PB.drew {W : World} {g q : Nat} {a b c : Int} {d : ByteArray} (h : PB W g q a b c d) : PB W.drew g q a b c d := ⟨h.zero, h.at_⟩

set_option maxRecDepth 100000 in
set_option maxHeartbeats 2000000 in
theorem rparse_long (s : ByteArray) (M : List Int) (hMd : M = bytesOf s) (w : World) (hl : s.size ≤ 2000) (h12 : 12 ≤ s.size) (K E N : Int) (P : List Int) (hp : (K, E, N, P) = parts (M.take (M.length - 3))) :
    Calls Try.prog 27 #[.string s] w fun e w' =>
      e = .returned (if May K E N P ∧ sealL (bodyL K E N P) = M then .tuple #[.agg #[.int .i64 K, .int .i64 E, .int .i64 N, .string (strOfNums P)], .bool true] else .tuple #[.agg #[.int .i64 0, .int .i64 0, .int .i64 0, .string ⟨#[]⟩], .bool false]) ∧ Below w.heap.size w w' := by
  have hB : Bytes M := by rw [hMd]; exact bytesOf_byte s
  have hlen : M.length = s.size := by rw [hMd]; exact bytesOf_length s
  have hst : strOfNums M = s := by rw [hMd]; exact str_bytesOf s
  have hix : Hid (∀ i, i < s.size → ∀ W, (Instr.index 9 (.string s) (.int .i64 (i : Int))).run Try.prog W = .ok (.int .u8 (rd M (i : Int))) W) := fun i h W => by rw [hMd]; exact str_index s i h W
  obtain ⟨p0, p1, p2⟩ := parts_b M (by omega)
  simp only [parts, Prod.mk.injEq] at hp
  obtain ⟨hK, hE, hN, hP⟩ := hp
  rw [p0] at hK
  have hbB : Bytes (M.take (M.length - 3)) := hB.take _
  have HE1 := valN_lt ((hbB.take 4).drop 1)
  have HN1 := valN_lt ((hbB.take 7).drop 4)
  have HE2 : ∀ k, 1 ≤ k → k < 4 → valN (((M.take (M.length - 3)).take 4).drop 1) k = 256 * valN (((M.take (M.length - 3)).take 4).drop 1) (k - 1) + (rd M (k : Int)).toNat := fun k h1 h2 => by
    obtain ⟨t, rfl⟩ : ∃ t, k = t + 1 := ⟨k - 1, by omega⟩
    show 256 * valN _ t + (rd _ (t : Int)).toNat = _
    rw [p1 t (by omega)]; rfl
  have HN2 : ∀ k, 4 ≤ k → k < 7 → valN (((M.take (M.length - 3)).take 7).drop 4) (k - 3) = 256 * valN (((M.take (M.length - 3)).take 7).drop 4) (k - 4) + (rd M (k : Int)).toNat := fun k h1 h2 => by
    obtain ⟨t, rfl⟩ : ∃ t, k = t + 4 := ⟨k - 4, by omega⟩
    show 256 * valN _ t + (rd _ (t : Int)).toNat = _
    rw [p2 t (by omega)]; rfl
  generalize valN (((M.take (M.length - 3)).take 4).drop 1) = vE at HE1 HE2 hE
  generalize valN (((M.take (M.length - 3)).take 7).drop 4) = vN at HN1 HN2 hN
  have HEH := Lib.hid (And.intro HE1 HE2)
  have HNH := Lib.hid (And.intro HN1 HN2)
  have hcut : ∀ W, (Instr.slice 9 (.string s) (some (.int .i64 9)) (some (.int .i64 ((s.size : Int) - 3))) none).run Try.prog W = .ok (.string (strOfNums P)) W := fun W => by
    have := str_cut s 9 (s.size - 3) (by omega) (by omega) W
    rw [show ((s.size - 3 : Nat) : Int) = (s.size : Int) - 3 from by omega] at this
    rw [hP, ← hlen, ← str_mid, hst, hlen]
    exact this
  have hK0 := rd_byte hB 0
  rw [← hK] at hK0
  have hx0 := hix.out 0 (by omega)
  rw [show ((0 : Nat) : Int) = 0 from rfl, ← hK] at hx0
  have HB := Lib.hid (rd_byte hB)
  have HR : ∃ R : Value, Hid (R = if May K E N P ∧ sealL (bodyL K E N P) = M then .tuple #[.agg #[.int .i64 K, .int .i64 E, .int .i64 N, .string (strOfNums P)], .bool true] else .tuple #[.agg #[.int .i64 0, .int .i64 0, .int .i64 0, .string ⟨#[]⟩], .bool false]) := ⟨_, rfl⟩
  obtain ⟨R, HR⟩ := HR
  rw [← HR.out]
  have hPB : Bytes P := by rw [hP]; exact hbB.drop 9
  have hPl : P.length ≤ 2000 := by rw [hP, List.length_drop, List.length_take]; omega
  have HPB := Lib.hid (And.intro hPB hPl)
  have HST := Lib.hid (And.intro hst hB)
  have hE' := Lib.hid hE
  have hN' := Lib.hid hN
  have eK : IntKind.i64.wrap K = K := IntWalk.i64_in _ (by omega)
  clear hMd hB hbB hst hlen p0 p1 p2 HE1 HE2 HN1 HN2 hP hPB hPl hE hN hK
  go_enter Try.func27, Try.ntmps27
  go_wp2
  have hne : w.heap.size ≠ w.heap.size + 1 := by omega
  go_loopg [5] 3 (fun gk x W => ∃ k : Nat, 1 ≤ k ∧ k ≤ 4 ∧ gk = 4 - k ∧ x = .int .i64 k ∧ PB W w.heap.size (w.heap.size + 1) K ((vE (k - 1) : Nat) : Int) 0 ⟨#[]⟩ ∧ Below w.heap.size w W)
  case atStart =>
    refine ⟨1, by omega, by omega, rfl, rfl, ⟨?_, ?_⟩, ba (ba (br w) _) _⟩
    · exact blk_alloc (heap_alloc_new w _) _
    · have h0 : vE 0 = 0 := by have := HEH.out.1 0; omega
      rw [show 1 - 1 = 0 from rfl, h0]
      have := heap_alloc_new (w.alloc (.cells #[.int .i64 0, .int .i64 0, .int .i64 0, .string ⟨#[]⟩] 41)) (.cells #[.int .i64 K, .int .i64 0, .int .i64 0, .string ⟨#[]⟩] 41)
      simpa using this
  case round =>
    obtain ⟨k, hk1, hk4, rfl, rfl, hpb, hb⟩ := hrel
    have z1 := blk_cell hpb.at_ 1
    have f1 := blk_frozen hpb.at_ 1
    by_cases hlt : k < 4
    · have hx := hix.out k (by omega)
      have hxb := HB.out (k : Int)
      generalize hxe : rd M (k : Int) = x at hx hxb
      have hv := HEH.out.1 (k - 1)
      have hv2 : vE (k - 1) < 65536 := Nat.lt_of_lt_of_le hv (by have : 256 ^ (k - 1) ≤ 256 ^ 2 := Nat.pow_le_pow_right (by decide) (by omega); simpa using this)
      have hv3 := HEH.out.2 k hk1 hlt
      rw [hxe] at hv3
      have HV : Hid (((vE (k + 1 - 1) : Nat) : Int) = ((vE (k - 1) : Nat) : Int) * 256 + x) := by show _ = _; rw [Nat.add_sub_cancel]; omega
      have hs := hpb.drew.set hne
      generalize vE (k - 1) = V at hpb z1 hv2 HV hs
      clear hv hv3 hxe
      have ew1 : IntKind.i64.wrap x = x := IntWalk.i64_in _ (by omega)
      have ew2 : IntKind.i64.wrap ((V : Int) * 256) = (V : Int) * 256 := IntWalk.i64_in _ (by omega)
      have ew3 : IntKind.i64.wrap ((V : Int) * 256 + x) = (V : Int) * 256 + x := IntWalk.i64_in _ (by omega)
      go_upto_region 7 with fail
      go_still_tail 9, (by kernel_rfl)
      go_wp2
      go_roundg (4 - (k + 1))
      case measure => omega
      case rel => exact ⟨k + 1, by omega, by omega, rfl, by go_num, by rw [HV.out]; exact hs.1 _, (below_drew hb).setCell (p := ⟨w.heap.size + 1, 1, none⟩) (by simp) _⟩
    · obtain rfl : k = 4 := by omega
      clear hlt hk1 hk4
      have hpE : PB wr w.heap.size (w.heap.size + 1) K E 0 ⟨#[]⟩ := by rw [hE'.out]; exact hpb
      clear hpb z1 f1 HEH hE'
      go_wp2
      go_loopg [6] 3 (fun gk x W => ∃ k : Nat, 4 ≤ k ∧ k ≤ 7 ∧ gk = 7 - k ∧ x = .int .i64 k ∧ PB W w.heap.size (w.heap.size + 1) K E ((vN (k - 4) : Nat) : Int) ⟨#[]⟩ ∧ Below w.heap.size w W)
      case atStart =>
        refine ⟨4, by omega, by omega, rfl, rfl, ?_, hb⟩
        have h0 : vN 0 = 0 := by have := HNH.out.1 0; omega
        rw [show 4 - 4 = 0 from rfl, h0]
        exact hpE
      case round =>
        clear hpE hb
        obtain ⟨k, hk1, hk4, rfl, rfl, hpb, hb⟩ := hrel
        have z1 := blk_cell hpb.at_ 2
        have f1 := blk_frozen hpb.at_ 2
        by_cases hlt : k < 7
        · have hx := hix.out k (by omega)
          have hxb := HB.out (k : Int)
          generalize hxe : rd M (k : Int) = x at hx hxb
          have hv := HNH.out.1 (k - 4)
          have hv2 : vN (k - 4) < 65536 := Nat.lt_of_lt_of_le hv (by have : 256 ^ (k - 4) ≤ 256 ^ 2 := Nat.pow_le_pow_right (by decide) (by omega); simpa using this)
          have hv3 := HNH.out.2 k hk1 hlt
          rw [hxe] at hv3
          have HV : Hid (((vN (k + 1 - 4) : Nat) : Int) = ((vN (k - 4) : Nat) : Int) * 256 + x) := by show _ = _; rw [show k + 1 - 4 = k - 3 from by omega]; omega
          have hs := hpb.drew.set hne
          generalize vN (k - 4) = V at hpb z1 hv2 HV hs
          clear hv hv3 hxe
          have ew1 : IntKind.i64.wrap x = x := IntWalk.i64_in _ (by omega)
          have ew2 : IntKind.i64.wrap ((V : Int) * 256) = (V : Int) * 256 := IntWalk.i64_in _ (by omega)
          have ew3 : IntKind.i64.wrap ((V : Int) * 256 + x) = (V : Int) * 256 + x := IntWalk.i64_in _ (by omega)
          go_upto_region 8 with fail
          go_still_tail 9, (by kernel_rfl)
          go_wp2
          go_roundg (7 - (k + 1))
          case measure => omega
          case rel => exact ⟨k + 1, by omega, by omega, rfl, by go_num, by rw [HV.out]; exact hs.2.1 _, (below_drew hb).setCell (p := ⟨w.heap.size + 1, 2, none⟩) (by simp) _⟩
        · obtain rfl : k = 7 := by omega
          clear hlt hk1 hk4
          have hpN : PB wr w.heap.size (w.heap.size + 1) K E N ⟨#[]⟩ := by rw [hN'.out]; exact hpb
          clear hpb z1 f1 HNH hN'
          have g3 : IntKind.i64.wrap ((s.size : Int) - 3) = (s.size : Int) - 3 := IntWalk.i64_in _ (by omega)
          have f3 := blk_frozen hpN.at_ 3
          have hpP := (hpN.set hne).2.2 (strOfNums P)
          have z3 := blk_cell hpN.at_ 3
          have q0 := blk_cell hpP.at_ 0
          have q1 := blk_cell hpP.at_ 1
          have q2 := blk_cell hpP.at_ 2
          have q3 := blk_cell hpP.at_ 3
          have hb2 : Below w.heap.size w (wr.setCell ⟨w.heap.size + 1, 3, none⟩ (.string (strOfNums P))) := hb.setCell (p := ⟨w.heap.size + 1, 3, none⟩) (by simp) _
          generalize hX : wr.setCell ⟨w.heap.size + 1, 3, none⟩ (.string (strOfNums P)) = wx at hpP hb2
          have HX := Lib.hid hX
          clear hX hpN hb
          by_cases hM : May K E N P
          · have T := fun W => rbytes_yes K E N P W HPB.out.1 hM
            have hd := str_eq (Bytes.append (body_byte K E N P (by have := hM.1; omega) HPB.out.1) (tailL_byte 24 (sumN 24 5592405 1627 (bodyL K E N P) (8 * (bodyL K E N P).length)) 3)) HST.out.2
            rw [HST.out.1] at hd
            change ((strOfNums (sealL (bodyL K E N P))).toList == s.toList) = decide (sealL (bodyL K E N P) = M) at hd
            go_wp2_with fail
            rw [HX.out]
            refine (T _).mono ?_
            rintro e w2 ⟨rfl, hb3⟩
            have hp2 : PB w2 w.heap.size (w.heap.size + 1) K E N (strOfNums P) := ⟨(hb3.block _ (blk_lt hpP.zero)).trans hpP.zero, (hb3.block _ (blk_lt hpP.at_)).trans hpP.at_⟩
            have hbw := bt hb2 hb3
            have hx5 := hp2.zero
            have x0 := blk_cell hp2.zero 0
            have x1 := blk_cell hp2.zero 1
            have x2 := blk_cell hp2.zero 2
            have x3 := blk_cell hp2.zero 3
            have t0 := blk_frozen hp2.zero 0
            have t1 := blk_frozen hp2.zero 1
            have t2 := blk_frozen hp2.zero 2
            have t3 := blk_frozen hp2.zero 3
            have y0 := blk_cell hp2.at_ 0
            have y1 := blk_cell hp2.at_ 1
            have y2 := blk_cell hp2.at_ 2
            have y3 := blk_cell hp2.at_ 3
            clear hp2 hpP hb2 hb3 T q0 q1 q2 q3 z3 f3 HX
            by_cases heq : sealL (bodyL K E N P) = M
            · have HRR : Hid (R = .tuple #[.agg #[.int .i64 K, .int .i64 E, .int .i64 N, .string (strOfNums P)], .bool true]) := by show R = _; rw [HR.out, if_pos ⟨hM, heq⟩]
              rw [decide_eq_true heq] at hd
              generalize strOfNums (sealL (bodyL K E N P)) = S at hd
              generalize strOfNums P = sP at y3 HRR
              clear heq hM HR
              go_wp2
              exact bodyPost_ret (v := .tuple #[.agg #[.int .i64 K, .int .i64 E, .int .i64 N, .string sP], .bool true]) (results_ct Try.results27 _ _ w.heap.size _ _ _ _ rfl (set4 hx5 _ _ _ _) Try.underlying41 rfl (by kernel_rfl)) rfl ⟨by rw [HRR.out], below4 hbw (Nat.le_refl _) _ _ _ _⟩
            · have HRR : Hid (R = .tuple #[.agg #[.int .i64 0, .int .i64 0, .int .i64 0, .string ⟨#[]⟩], .bool false]) := by show R = _; rw [HR.out, if_neg (fun h => heq h.2)]
              rw [decide_eq_false heq] at hd
              generalize strOfNums (sealL (bodyL K E N P)) = S at hd
              clear heq hM HR
              go_wp2
              exact bodyPost_ret (v := .tuple #[.agg #[.int .i64 0, .int .i64 0, .int .i64 0, .string ⟨#[]⟩], .bool false]) (results_ct Try.results27 _ _ w.heap.size _ _ _ _ rfl (set4 hx5 _ _ _ _) Try.underlying41 rfl (by kernel_rfl)) rfl ⟨by rw [HRR.out], below4 hbw (Nat.le_refl _) _ _ _ _⟩
          · have HRR : Hid (R = .tuple #[.agg #[.int .i64 0, .int .i64 0, .int .i64 0, .string ⟨#[]⟩], .bool false]) := by show R = _; rw [HR.out, if_neg (fun h => hM h.1)]
            have T := fun W => rbytes_no K E N P W (by have := HPB.out.2; omega) hM
            go_wp2_with fail
            rw [HX.out]
            refine (T _).mono ?_
            rintro e w2 ⟨rfl, hb3⟩
            have hp2 : PB w2 w.heap.size (w.heap.size + 1) K E N (strOfNums P) := ⟨(hb3.block _ (blk_lt hpP.zero)).trans hpP.zero, (hb3.block _ (blk_lt hpP.at_)).trans hpP.at_⟩
            have hbw := bt hb2 hb3
            have hx5 := hp2.zero
            have x0 := blk_cell hp2.zero 0
            have x1 := blk_cell hp2.zero 1
            have x2 := blk_cell hp2.zero 2
            have x3 := blk_cell hp2.zero 3
            have t0 := blk_frozen hp2.zero 0
            have t1 := blk_frozen hp2.zero 1
            have t2 := blk_frozen hp2.zero 2
            have t3 := blk_frozen hp2.zero 3
            have y0 := blk_cell hp2.at_ 0
            have y1 := blk_cell hp2.at_ 1
            have y2 := blk_cell hp2.at_ 2
            have y3 := blk_cell hp2.at_ 3
            clear hp2 hpP hb2 hb3 T q0 q1 q2 q3 z3 f3 HX
            clear hM HR
            go_wp2
            exact bodyPost_ret (v := .tuple #[.agg #[.int .i64 0, .int .i64 0, .int .i64 0, .string ⟨#[]⟩], .bool false]) (results_ct Try.results27 _ _ w.heap.size _ _ _ _ rfl (set4 hx5 _ _ _ _) Try.underlying41 rfl (by kernel_rfl)) rfl ⟨by rw [HRR.out], below4 hbw (Nat.le_refl _) _ _ _ _⟩
end Go.Proofs.Ytcjnfdhdcoobgaa.Pdu
