/- The walk of the document's riff: Chunks. -/
import Derived.Test.YtcjnfdhdcoobgaaRiff13
set_option linter.unusedVariables false
set_option linter.unusedSimpArgs false
namespace Go.Proofs.Ytcjnfdhdcoobgaa.Rif
open Go.RowKit Go.Proofs.YtcjnfdhdcoobgaaW.PrintWords Go.Proofs.YtcjnfdhdcoobgaaW.PrintLast Go.Proofs.YtcjnfdhdcoobgaaW.PrintMore Go.Proofs.Ytcjnfdhdcoobgaa.Chk

/-- names and bytes in turns -/
def both (ps : List (List Int × List Int)) : List Value := ps.flatMap fun p => [.string (strOfNums p.1), .string (strOfNums p.2)]
theorem both_snoc (ps : List (List Int × List Int)) (p : List Int × List Int) : both (ps ++ [p]) = both ps ++ [.string (strOfNums p.1), .string (strOfNums p.2)] := by simp [both]
def RChunksOut (o : Option (List (List Int × List Int))) (w : World) (e : Ending) (w' : World) : Prop :=
  match o with
  | none => e = .returned (.tuple #[.slice none 0 0, .bool false]) ∧ Below w.heap.size w w'
  | some ps => ∃ v, e = .returned (.tuple #[v, .bool true]) ∧ w'.ownsRow w.heap.size 9 1 v (ps.length * 2) (both ps) ∧ Below w.heap.size w w'
theorem cutS (s : ByteArray) (a b : Int) (h0 : 0 ≤ a) (h : a ≤ b) (hb : b ≤ s.size) (W : World) : (Instr.slice 9 (.string s) (some (.int .i64 a)) (some (.int .i64 b)) none).run Try.prog W = .ok (.string (strOfNums (((bytesOf s).take b.toNat).drop a.toNat))) W := by
  have h1 := Pdu.str_cut s a.toNat b.toNat (by omega) (by omega) W
  rw [Int.toNat_of_nonneg h0, Int.toNat_of_nonneg (by omega)] at h1
  rw [h1, ← str_mid, str_bytesOf]
theorem cutS_to (s : ByteArray) (b : Nat) (hb : b ≤ s.size) (W : World) : (Instr.slice 9 (.string s) none (some (.int .i64 (b : Int))) none).run Try.prog W = .ok (.string (strOfNums ((bytesOf s).take b))) W := by
  have h1 : (0 : Int) ≤ (b : Int) ∧ (b : Int) ≤ (s.size : Int) := by omega
  have hA : ∀ (k : IntKind) (i : Int) (W : World), (asIntOf (.int k i)).run Try.prog W = .ok (k, i) W := fun _ _ _ => rfl
  have h3 : max (b : Int) 0 = b := by omega
  have h := str_take (bytesOf s) b
  rw [str_bytesOf] at h
  rw [← h]
  simp [Instr.slice, Instr.sliceBounds, Instr.sliceBound, Try.underlying9, hA, h3, hb, Result.andThen]
/-- how the loop stands -/
def StandsR (o : Option (List (List Int × List Int))) (ps : List (List Int × List Int)) (L : List Int) : Prop := o = (pcs L).map (ps ++ ·)
theorem StandsR.step {o : Option (List (List Int × List Int))} {ps : List (List Int × List Int)} {L : List Int} (h : StandsR o ps L) (hf : Fits L) : StandsR o (ps ++ [(L.take 4, (L.take (8 + szN L)).drop 8)]) (L.drop (8 + (szN L + szN L % 2))) := by
  unfold StandsR at h ⊢
  rw [h, pcs_more hf]
  cases pcs (L.drop (8 + (szN L + szN L % 2))) with
  | none => rfl
  | some t => simp
theorem StandsR.bad {o : Option (List (List Int × List Int))} {ps : List (List Int × List Int)} {L : List Int} (h : StandsR o ps L) (h0 : 0 < L.length) (hf : ¬ Fits L) : o = none := by unfold StandsR at h; rw [h, pcs_bad h0 hf]; rfl
theorem StandsR.done {o : Option (List (List Int × List Int))} {ps : List (List Int × List Int)} {L : List Int} (h : StandsR o ps L) (h0 : L.length = 0) : o = some ps := by
  obtain rfl := List.eq_nil_of_length_eq_zero h0
  unfold StandsR at h; rw [h, pcs_nil]; simp
theorem mid_drop (M : List Int) (i a b : Nat) : (M.take (i + b)).drop (i + a) = ((M.drop i).take b).drop a := by
  rw [List.drop_take, List.drop_take, List.drop_drop]
  congr 1
  omega
theorem rd_drop (M : List Int) (i k : Nat) : rd (M.drop i) ((k : Nat) : Int) = rd M ((i + k : Nat) : Int) := by
  unfold rd
  rw [Int.toNat_natCast, Int.toNat_natCast, List.getD_eq_getElem?_getD, List.getD_eq_getElem?_getD, List.getElem?_drop]

set_option maxRecDepth 100000 in
set_option maxHeartbeats 2000000 in
theorem rchunks_any (s : ByteArray) (w : World) (hs : s.size ≤ 4096) : Calls Try.prog 40 #[.string s] w (RChunksOut (filesP (bytesOf s)) w) := by
  have hB := bytesOf_byte s
  have hM := bytesOf_length s
  have HM := Lib.hid hM
  by_cases h12 : 12 ≤ s.size
  · have q1 : ∀ W : World, (Instr.slice 9 (.string s) none (some (.int .i64 4)) none).run Try.prog W = .ok (.string (strOfNums ((bytesOf s).take 4))) W := fun W => cutS_to s 4 (by omega) W
    have q2 : ∀ W : World, (Instr.slice 9 (.string s) (some (.int .i64 8)) (some (.int .i64 12)) none).run Try.prog W = .ok (.string (strOfNums (((bytesOf s).take 12).drop 8))) W := fun W => cutS s 8 12 (by omega) (by omega) (by omega) W
    have q3 : ∀ W : World, (Instr.slice 9 (.string s) (some (.int .i64 4)) (some (.int .i64 8)) none).run Try.prog W = .ok (.string (strOfNums (((bytesOf s).take 8).drop 4))) W := fun W => cutS s 4 8 (by omega) (by omega) (by omega) W
    have b1 := str4 (hB.take 4) [82, 73, 70, 70] (by intro x hx; simp at hx; omega) 82 73 70 70 rfl
    have b3 := str4 ((hB.take 12).drop 8) [87, 65, 86, 69] (by intro x hx; simp at hx; omega) 87 65 86 69 rfl
    have hn4 : (((bytesOf s).take 8).drop 4).length = 4 := by rw [List.length_drop, List.length_take]; omega
    have T := fun W => rnumber_any (strOfNums (((bytesOf s).take 8).drop 4)) (by rw [strOfNums_size]; omega) W
    simp only [bytesOf_str ((hB.take 8).drop 4)] at T
    change ∀ W, Calls Try.prog 71 #[.string (strOfNums (((bytesOf s).take 8).drop 4))] W (fun e w' => e = .returned (.int .i64 (szN (bytesOf s))) ∧ w' = W) at T
    have hsz := szN_lt hB
    generalize strOfNums (((bytesOf s).take 8).drop 4) = S4 at q3 T
    rcases Classical.em (¬ (bytesOf s).take 4 = [82, 73, 70, 70]) with h1 | h1
    · have HN : filesP (bytesOf s) = none := by unfold filesP; rw [if_neg (fun h => h1 h.2.1)]
      rw [HN]
      rw [decide_eq_false h1] at b1
      generalize strOfNums ((bytesOf s).take 4) = S1 at b1 q1
      clear HN hB h1 T
      go_enter Try.func40, Try.ntmps40
      go_wp2
      go_ret2
      exact ⟨rfl, br w⟩
    replace h1 := Classical.not_not.1 h1
    rw [decide_eq_true h1] at b1
    generalize strOfNums ((bytesOf s).take 4) = S1 at b1 q1
    rcases Classical.em (¬ ((bytesOf s).take 12).drop 8 = [87, 65, 86, 69]) with h3 | h3
    · have HN : filesP (bytesOf s) = none := by unfold filesP; rw [if_neg (fun h => h3 h.2.2.2)]
      rw [HN]
      rw [decide_eq_false h3] at b3
      generalize strOfNums (((bytesOf s).take 12).drop 8) = S3 at b3 q2
      clear HN hB h1 T h3
      go_enter Try.func40, Try.ntmps40
      go_wp2
      go_ret2
      exact ⟨rfl, br w⟩
    replace h3 := Classical.not_not.1 h3
    rw [decide_eq_true h3] at b3
    generalize strOfNums (((bytesOf s).take 12).drop 8) = S3 at b3 q2
    rcases Classical.em (¬ szN (bytesOf s) + 8 = s.size) with h2 | h2
    · have HN : filesP (bytesOf s) = none := by unfold filesP; rw [if_neg (fun h => h2 (by have := h.2.2.1; omega))]
      rw [HN]
      have hne : ((szN (bytesOf s) : Int) + 8 != (s.size : Int)) = true := bne_iff_ne.2 (by omega)
      generalize szN (bytesOf s) = V at T hsz hne h2
      clear HN hB h1 h3 h2
      go_enter Try.func40, Try.ntmps40
      go_wp2_with fail
      refine (T _).mono ?_
      rintro e w2 ⟨rfl, rfl⟩
      clear T
      go_wp2
      go_ret2
      exact ⟨rfl, br _⟩
    replace h2 := Classical.not_not.1 h2
    have HN : Hid (filesP (bytesOf s) = pcs ((bytesOf s).drop 12)) := by show _ = _; unfold filesP; rw [if_pos ⟨by omega, h1, by omega, h3⟩]
    have hne : ((szN (bytesOf s) : Int) + 8 != (s.size : Int)) = false := bne_eq_false_iff_eq.2 (by omega)
    generalize szN (bytesOf s) = V at T hsz hne h2
    clear h1 h2 h3
    obtain ⟨O, hO⟩ : ∃ O, O = filesP (bytesOf s) := ⟨_, rfl⟩
    rw [← hO] at HN ⊢
    clear hO
    have hL0 : StandsR O [] ((bytesOf s).drop 12) := by unfold StandsR; rw [HN.out]; cases pcs ((bytesOf s).drop 12) <;> simp
    have HL0 := Lib.hid hL0
    have HB := Lib.hid hB
    clear HN hL0 hB hn4
    go_enter Try.func40, Try.ntmps40
    go_wp2_with fail
    refine (T _).mono ?_
    rintro e w2 ⟨rfl, rfl⟩
    clear T hM
    go_wp2
    go_loopg [4, 5] (s.size - 12) (fun gk v x W => ∃ (at_ : Nat) (ps : List (List Int × List Int)), at_ ≤ s.size ∧ gk = s.size - at_ ∧ x = .int .i64 at_ ∧ ps.length * 8 ≤ at_ ∧ Hid (StandsR O ps ((bytesOf s).drop at_)) ∧ W.ownsRow w2.heap.size 9 1 v (ps.length * 2) (both ps) ∧ Below w2.heap.size w2 W)
    case atStart => exact ⟨12, [], h12, by omega, rfl, by simp, HL0.out, World.ownsRow_nil _ _ _ _, br _⟩
    case round =>
      clear HL0
      obtain ⟨i, ps, hi, rfl, rfl, hps, HS, hown, hb⟩ := hrel
      obtain ⟨A5, c5, rfl⟩ := own_slice hown
      have hdl : ((bytesOf s).drop i).length = s.size - i := by rw [List.length_drop, HM.out]
      have HDL := Lib.hid hdl
      have HX := Lib.hid (HB.out.drop i)
      have HMID := Lib.hid (fun a b => mid_drop (bytesOf s) i a b)
      have HRD := Lib.hid (fun k => rd_drop (bytesOf s) i k)
      rcases Nat.lt_or_ge i s.size with hlt | hge
      · rcases Nat.lt_or_ge s.size (i + 8) with h8 | h8
        · have HN : Hid (O = none) := HS.out.bad (by omega) (fun h => by have := h.1; omega)
          clear HS hdl
          go_wp2
          go_ret2
          rw [HN.out]
          exact ⟨rfl, hb⟩
        · have p1 : ∀ W : World, (Instr.slice 9 (.string s) (some (.int .i64 ((i : Int) + 4))) (some (.int .i64 ((i : Int) + 8))) none).run Try.prog W = .ok (.string (strOfNums ((((bytesOf s).drop i).take 8).drop 4))) W := fun W => by
            have h := cutS s ((i : Int) + 4) ((i : Int) + 8) (by omega) (by omega) (by omega) W
            rw [show ((i : Int) + 4).toNat = i + 4 from by omega, show ((i : Int) + 8).toNat = i + 8 from by omega, HMID.out] at h
            exact h
          have hn4 : ((((bytesOf s).drop i).take 8).drop 4).length = 4 := by rw [List.length_drop, List.length_take]; omega
          have T := fun W => rnumber_any (strOfNums ((((bytesOf s).drop i).take 8).drop 4)) (by rw [strOfNums_size]; omega) W
          simp only [bytesOf_str ((HX.out.take 8).drop 4)] at T
          change ∀ W, Calls Try.prog 71 #[.string (strOfNums ((((bytesOf s).drop i).take 8).drop 4))] W (fun e w' => e = .returned (.int .i64 (szN ((bytesOf s).drop i))) ∧ w' = W) at T
          have hsz := szN_lt HX.out
          generalize strOfNums ((((bytesOf s).drop i).take 8).drop 4) = S5 at p1 T
          obtain ⟨V, hV⟩ : ∃ V, V = szN ((bytesOf s).drop i) := ⟨_, rfl⟩
          rw [← hV] at T hsz
          have HV := Lib.hid hV
          clear hV hn4 hdl
          go_wp2_with fail
          refine (T _).mono ?_
          rintro e w3 ⟨rfl, rfl⟩
          clear T p1
          rcases Nat.lt_or_ge s.size (i + 8 + V) with hf | hf
          · have HN : Hid (O = none) := HS.out.bad (by have := HDL.out; omega) (fun h => by have h1 := h.2.1; rw [← HV.out, HDL.out] at h1; omega)
            clear HS
            go_wp2
            go_ret2
            rw [HN.out]
            exact ⟨rfl, hb⟩
          · have hLl : i + 8 + V ≤ s.size := hf
            have u1 : ∀ W : World, (Instr.slice 9 (.string s) (some (.int .i64 (i : Int))) (some (.int .i64 ((i : Int) + 4))) none).run Try.prog W = .ok (.string (strOfNums (((bytesOf s).drop i).take 4))) W := fun W => by
              have h := cutS s (i : Int) ((i : Int) + 4) (by omega) (by omega) (by omega) W
              rw [show ((i : Int) + 4).toNat = i + 4 from by omega, Int.toNat_natCast] at h
              have h2 := HMID.out 0 4
              rw [Nat.add_zero, List.drop_zero] at h2
              rw [h2] at h
              exact h
            have u2 : ∀ W : World, (Instr.slice 9 (.string s) (some (.int .i64 ((i : Int) + 8))) (some (.int .i64 ((i : Int) + 8 + (V : Int)))) none).run Try.prog W = .ok (.string (strOfNums ((((bytesOf s).drop i).take (8 + V)).drop 8))) W := fun W => by
              have h := cutS s ((i : Int) + 8) ((i : Int) + 8 + (V : Int)) (by omega) (by omega) (by omega) W
              rw [show ((i : Int) + 8 + (V : Int)).toNat = i + (8 + V) from by omega, show ((i : Int) + 8).toNat = i + 8 from by omega, HMID.out] at h
              exact h
            have HBO := Lib.hid (both_snoc ps (((bytesOf s).drop i).take 4, (((bytesOf s).drop i).take (8 + V)).drop 8))
            change Hid (_ = _ ++ [Value.string (strOfNums (((bytesOf s).drop i).take 4)), Value.string (strOfNums ((((bytesOf s).drop i).take (8 + V)).drop 8))]) at HBO
            generalize strOfNums (((bytesOf s).drop i).take 4) = NM at u1 HBO
            generalize strOfNums ((((bytesOf s).drop i).take (8 + V)).drop 8) = VL at u2 HBO
            have e4 : IntKind.i64.wrap ((i : Int) + 4) = (i : Int) + 4 := IntWalk.i64_in _ (by omega)
            have e8 : IntKind.i64.wrap ((i : Int) + 8) = (i : Int) + 8 := IntWalk.i64_in _ (by omega)
            have e8v : IntKind.i64.wrap ((i : Int) + 8 + (V : Int)) = (i : Int) + 8 + (V : Int) := IntWalk.i64_in _ (by omega)
            have HST : Hid (Fits ((bytesOf s).drop i) → StandsR O (ps ++ [(((bytesOf s).drop i).take 4, (((bytesOf s).drop i).take (8 + V)).drop 8)]) ((bytesOf s).drop (i + 8 + V + V % 2))) := fun hF => by
              have h := HS.out.step hF
              rw [← HV.out, List.drop_drop] at h
              rw [show i + 8 + V + V % 2 = i + (8 + (V + V % 2)) from by omega]
              exact h
            have HBAD : Hid (¬ Fits ((bytesOf s).drop i) → O = none) := fun hF => HS.out.bad (by have := HDL.out; omega) hF
            clear HS
            rcases Nat.mod_two_eq_zero_or_one V with hp | hp
            · have hv2 : (V : Int) % 2 = 0 := by omega
              have HF : Hid (Fits ((bytesOf s).drop i)) := ⟨by rw [HDL.out]; omega, by rw [← HV.out, HDL.out]; omega, fun h => by rw [← HV.out] at h; omega⟩
              go_upto_region 11 with fail
              go_region_law ((refine step_append_many (W := w3.drew) w2.heap.size rfl (.tmp 52) (.tmp 66) 69 9 (.string ⟨#[]⟩) 1 16 2 rfl Try.underlying69 infoS rfl (by decide) (by decide) _ (ps.length * 2) (both ps) [.string NM, .string VL] rfl rfl rfl (by intro u hu; simp only [List.mem_cons, List.not_mem_nil, or_false] at hu; rcases hu with rfl | rfl <;> rfl) (own_drew hown) (below_drew hb) hb.size (by omega) ?_); intro v6 w6 hown6 hb6 hg6 hat6)
              all_goals
                go_wp2
                go_roundg (s.size - (i + 8 + V))
                case measure => omega
                case rel =>
                  refine ⟨i + 8 + V, ps ++ [(((bytesOf s).drop i).take 4, (((bytesOf s).drop i).take (8 + V)).drop 8)], by omega, rfl, by congr 1, by simp only [List.length_append, List.length_cons, List.length_nil]; omega, ?_, ?_, hb6⟩
                  · have h := HST.out HF.out
                    rw [hp, Nat.add_zero] at h
                    exact h
                  · rw [HBO.out, List.length_append, Nat.add_mul]
                    exact hown6
            · have hv2 : (V : Int) % 2 = 1 := by omega
              rcases Nat.lt_or_ge (i + 8 + V) s.size with hg | hg
              · have hix : ∀ W : World, (Instr.index 9 (.string s) (.int .i64 ((i : Int) + 8 + (V : Int)))).run Try.prog W = .ok (.int .u8 (rd (bytesOf s) ((i + 8 + V : Nat) : Int))) W := fun W => by
                  have h := Pdu.str_index s (i + 8 + V) hg W
                  rw [show ((i + 8 + V : Nat) : Int) = (i : Int) + 8 + (V : Int) from by omega] at h ⊢
                  exact h
                have HR1 : Hid (rd ((bytesOf s).drop i) ((8 + szN ((bytesOf s).drop i) : Nat) : Int) = rd (bytesOf s) ((i + 8 + V : Nat) : Int)) := by
                  show _ = _
                  rw [← HV.out, HRD.out, show i + (8 + V) = i + 8 + V from by omega]
                generalize rd (bytesOf s) ((i + 8 + V : Nat) : Int) = x at hix HR1
                rcases Classical.em (x = 0) with hx | hx
                · subst hx
                  have HF : Hid (Fits ((bytesOf s).drop i)) := ⟨by rw [HDL.out]; omega, by rw [← HV.out, HDL.out]; omega, fun h => HR1.out⟩
                  go_upto_region 11 with fail
                  go_region_law ((refine step_append_many (W := w3.drew) w2.heap.size rfl (.tmp 52) (.tmp 66) 69 9 (.string ⟨#[]⟩) 1 16 2 rfl Try.underlying69 infoS rfl (by decide) (by decide) _ (ps.length * 2) (both ps) [.string NM, .string VL] rfl rfl rfl (by intro u hu; simp only [List.mem_cons, List.not_mem_nil, or_false] at hu; rcases hu with rfl | rfl <;> rfl) (own_drew hown) (below_drew hb) hb.size (by omega) ?_); intro v6 w6 hown6 hb6 hg6 hat6)
                  all_goals
                    go_wp2
                    go_roundg (s.size - (i + 8 + V + 1))
                    case measure => omega
                    case rel =>
                      refine ⟨i + 8 + V + 1, ps ++ [(((bytesOf s).drop i).take 4, (((bytesOf s).drop i).take (8 + V)).drop 8)], by omega, rfl, by congr 1, by simp only [List.length_append, List.length_cons, List.length_nil]; omega, ?_, ?_, hb6⟩
                      · have h := HST.out HF.out
                        rw [hp] at h
                        exact h
                      · rw [HBO.out, List.length_append, Nat.add_mul]
                        exact hown6
                · have HN : Hid (O = none) := HBAD.out (fun h => hx (by rw [← HR1.out]; exact h.2.2 (by rw [← HV.out]; exact hp)))
                  have hbx : (x != 0) = true := bne_iff_ne.2 hx
                  have hbx2 : (x == 0) = false := beq_eq_false_iff_ne.2 hx
                  clear hx
                  go_upto_region 11 with fail
                  go_region_law ((refine step_append_many (W := w3.drew) w2.heap.size rfl (.tmp 52) (.tmp 66) 69 9 (.string ⟨#[]⟩) 1 16 2 rfl Try.underlying69 infoS rfl (by decide) (by decide) _ (ps.length * 2) (both ps) [.string NM, .string VL] rfl rfl rfl (by intro u hu; simp only [List.mem_cons, List.not_mem_nil, or_false] at hu; rcases hu with rfl | rfl <;> rfl) (own_drew hown) (below_drew hb) hb.size (by omega) ?_); intro v6 w6 hown6 hb6 hg6 hat6)
                  all_goals
                    go_wp2
                    go_ret2
                    rw [HN.out]
                    exact ⟨rfl, hb6⟩
              · have HN : Hid (O = none) := HBAD.out (fun h => by have h1 := h.2.1; rw [← HV.out, HDL.out] at h1; omega)
                go_upto_region 11 with fail
                go_region_law ((refine step_append_many (W := w3.drew) w2.heap.size rfl (.tmp 52) (.tmp 66) 69 9 (.string ⟨#[]⟩) 1 16 2 rfl Try.underlying69 infoS rfl (by decide) (by decide) _ (ps.length * 2) (both ps) [.string NM, .string VL] rfl rfl rfl (by intro u hu; simp only [List.mem_cons, List.not_mem_nil, or_false] at hu; rcases hu with rfl | rfl <;> rfl) (own_drew hown) (below_drew hb) hb.size (by omega) ?_); intro v6 w6 hown6 hb6 hg6 hat6)
                all_goals
                  go_wp2
                  go_ret2
                  rw [HN.out]
                  exact ⟨rfl, hb6⟩
      · obtain rfl : i = s.size := by omega
        have HO := Lib.hid (HS.out.done (by omega))
        clear HS hdl
        go_wp2
        go_ret2
        rw [HO.out]
        exact ⟨_, rfl, hown, hb⟩
  · have HN : filesP (bytesOf s) = none := by unfold filesP; rw [if_neg (fun h => h12 (by have := h.1; omega))]
    rw [HN]
    clear HN hB hM
    go_enter Try.func40, Try.ntmps40
    go_wp2
    go_ret2
    exact ⟨rfl, br w⟩
end Go.Proofs.Ytcjnfdhdcoobgaa.Rif
