/- The walks of the document's NewCoder, End, Bytes (arith). -/
import Derived.Test.YtikjolinendfgaaAr22
set_option linter.unusedVariables false
set_option linter.unusedSimpArgs false
namespace Go.Proofs.Ytikjolinendfgaa.Ari
open Go.RowKit Go.Proofs.YtikjolinendfgaaW.PrintWords Go.Proofs.YtikjolinendfgaaW.PrintLast Go.Proofs.YtikjolinendfgaaW.PrintMore Go.Proofs.Ytikjolinendfgaa.Bit

theorem rnewCoder_any (w : World) : Calls Try.prog 15 #[] w fun e w' => e = .returned (.pointer (some ⟨w.heap.size, 0, none⟩)) ∧ RCo w' w.heap.size 0 65536 0 false [] (.slice none 0 0) ∧ Below w.heap.size w w' := by
  go_enter Try.func15, Try.ntmps15
  go_wp2
  go_ret
  exact ⟨rfl, ⟨heap_alloc_new w _, World.ownsRow_nil _ _ _ _⟩, ba (br w) _⟩
set_option maxRecDepth 100000 in
set_option maxHeartbeats 1000000 in
theorem rend_ended (m lo wd ow : Nat) (l : List Bool) (v : Value) (w : World) (h : RCo w m lo wd ow true l v) :
    Calls Try.prog 21 #[.pointer (some ⟨m, 0, none⟩)] w fun e w' => e = .returned (.int .i64 250) ∧ w' = w := by
  have c3 := h.c3
  clear h
  go_enter Try.func21, Try.ntmps21
  go_wp2
  go_ret
  exact ⟨rfl, rfl⟩
set_option maxRecDepth 100000 in
set_option maxHeartbeats 1000000 in
theorem rend_any (m lo wd ow : Nat) (l : List Bool) (v : Value) (w : World) (h : RCo w m lo wd ow false l v) (hn : l.length + ow + 65536 < 100000000) :
    Calls Try.prog 21 #[.pointer (some ⟨m, 0, none⟩)] w fun e w' => e = .returned (.int .i64 0) ∧ ∃ v', RCo w' m lo wd 0 true (fin ⟨lo, wd, ow, l⟩).bits v' ∧ Fr m v v' w w' := by
  have c3 := h.c3
  have c2 := h.c2
  have c0 := h.c0
  have f2 := h.fr 2
  have f3 := h.fr 3
  have h2 := (h.s3 true).s2 (ow + 1)
  rw [show ((ow + 1 : Nat) : Int) = (ow : Int) + 1 from by omega] at h2
  have H2 := Lib.hid h2
  have HF2 := Lib.hid (((Fr.refl m v w).set 3 (.bool true)).set 2 (.int .i64 ((ow : Int) + 1)))
  have hl2 : l.length + (ow + 1) < 100000000 := by omega
  clear h2 h
  by_cases hlo : lo < 16384
  · have e0 : (fin ⟨lo, wd, ow, l⟩).bits = l ++ false :: List.replicate (ow + 1) (!false) := by
      unfold fin tellB
      rw [show decide (16384 ≤ (St.mk lo wd ow l).lo) = false from decide_eq_false (by show ¬ 16384 ≤ lo; omega)]
    have hloI : (lo : Int) < 16384 := by omega
    have HE0 := Lib.hid e0
    clear e0
    go_enter Try.func21, Try.ntmps21
    go_wp2_with (go_at_call 46; refine (rtell_any m lo wd (ow + 1) true l v 0 1 false rfl rfl _ H2.out hl2).mono ?_; rintro e1 w1 ⟨rfl, v1, h1, hf1⟩; have HE := Lib.hid (And.intro h1 hf1); clear h1 hf1)
    go_ret
    exact ⟨rfl, v1, by rw [HE0.out]; exact HE.out.1, HF2.out.trans HE.out.2⟩
  · have e0 : (fin ⟨lo, wd, ow, l⟩).bits = l ++ true :: List.replicate (ow + 1) (!true) := by
      unfold fin tellB
      rw [show decide (16384 ≤ (St.mk lo wd ow l).lo) = true from decide_eq_true (by show 16384 ≤ lo; omega)]
    have hloI : ¬ (lo : Int) < 16384 := by omega
    have HE0 := Lib.hid e0
    clear e0
    go_enter Try.func21, Try.ntmps21
    go_wp2_with (go_at_call 46; refine (rtell_any m lo wd (ow + 1) true l v 1 0 true rfl rfl _ H2.out hl2).mono ?_; rintro e1 w1 ⟨rfl, v1, h1, hf1⟩; have HE := Lib.hid (And.intro h1 hf1); clear h1 hf1)
    go_ret
    exact ⟨rfl, v1, by rw [HE0.out]; exact HE.out.1, HF2.out.trans HE.out.2⟩
/-- bits, and zeros behind them -/
theorem bits_pad (l : List Bool) : bitsL (ofL l) (8 * rowN l.length) = bitsZ l ++ List.replicate (8 * rowN l.length - l.length) 0 := by
  have hr : l.length ≤ 8 * rowN l.length := by unfold rowN; omega
  apply List.ext_getElem
  · rw [bitsL_length, List.length_append, bitsZ_len, List.length_replicate]; omega
  · intro i h1 h2
    simp only [bitsL, List.getElem_map, List.getElem_range]
    rcases Nat.lt_or_ge i l.length with hi | hi
    · rw [List.getElem_append_left (by rw [bitsZ_len]; exact hi)]
      simp [bitsZ, ofL, List.getD_eq_getElem?_getD, List.getElem?_eq_getElem hi]
    · rw [List.getElem_append_right (by rw [bitsZ_len]; exact hi)]
      simp [ofL, List.getD_eq_getElem?_getD, List.getElem?_eq_none hi]
theorem own_emptyI (W : World) : (W.alloc (.cells #[] 3)).ownsRow W.heap.size 3 1 (.slice (some ⟨W.heap.size, 0, none⟩) 0 0) ([] : List Int).length (nums .i64 []) :=
  own_lit W W.heap.size 3 .i64 [] (Nat.le_refl _) (by decide)
theorem conv_own {W : World} {base n : Nat} {v : Value} {l : List Int} (h : W.ownsRow base 5 1 v n (nums .u8 l)) : (convert 41 9 v).run Try.prog W = .ok (.string (strOfNums l)) W :=
  own_string Try.underlying41 Try.underlying5 Try.underlying9 h
set_option maxRecDepth 100000 in
set_option maxHeartbeats 1000000 in
theorem rcbytes_any (m lo wd ow : Nat) (en : Bool) (l : List Bool) (v : Value) (w : World) (h : RCo w m lo wd ow en l v) (hn : l.length ≤ 100000) :
    Calls Try.prog 24 #[.pointer (some ⟨m, 0, none⟩)] w fun e w' => e = .returned (.string (strOfNums (bytesS l))) ∧ Below w.heap.size w w' := by
  have c4 := h.c4
  obtain ⟨A, c, rfl, hr⟩ := own_reads h.own
  have hN : (bitsZ l).length ≤ 100000 := by rw [bitsZ_len]; exact hn
  have HBL := Lib.hid (bitsZ_len l)
  have HP := Lib.hid (bits_pad l)
  have hrw : l.length ≤ 8 * rowN l.length ∧ 8 * rowN l.length < l.length + 8 := by unfold rowN; omega
  rw [← bitsZ_len l] at hrw HP
  rw [bitsZ_len l] at HP
  have HRR : Hid (rowN (bitsZ l).length = rowN l.length) := by show _ = _; rw [bitsZ_len]
  clear h hn
  obtain ⟨M, hM⟩ : ∃ M, M = rowN (bitsZ l).length := ⟨_, rfl⟩
  rw [← hM] at hrw HRR
  rw [← HRR.out] at HP
  have HM := Lib.hid hM
  clear hM
  generalize hL : bitsZ l = L at c4 hr hN HBL HP hrw HRR HM
  have x4 := fun o => pw_cell_below (ba (br w) o) c4
  go_enter Try.func24, Try.ntmps24
  go_wp2_with (at_builtin; go_loud (refine print_append_row w.heap.size rfl (.tmp 5) (.tmp 9) 29 3 .i64 8 rfl Try.underlying29 infoI (by decide) _ [] L _ _ _ rfl rfl (own_emptyI w) (hr.below (ba (br w) _)) (ba (br w) _) (ba (br w) _).size (by simp; omega) ?_); intro v1 w1 hown1 hB1 hg1 hat1)
  rw [List.nil_append] at hown1
  have hr1 := own_slice hown1
  obtain ⟨A1, c1, rfl⟩ := hr1
  clear x4 hr c4 hg1 hat1
  go_loopg [3] (8 * M - L.length) (fun gk x W => ∃ (q : Nat) (v2 : Value), L.length ≤ q ∧ q ≤ 8 * M ∧ gk = 8 * M - q ∧ x = v2 ∧ W.ownsRow w.heap.size 3 1 v2 q (nums .i64 (L ++ List.replicate (q - L.length) 0)) ∧ Below w.heap.size w W)
  case atStart => exact ⟨L.length, _, by omega, by omega, by omega, rfl, by simpa using hown1, hB1⟩
  case round =>
    obtain ⟨q, v2, hq0, hq, rfl, rfl, hown, hb⟩ := hrel
    obtain ⟨A2, c2, rfl⟩ := own_slice hown
    have hq1 : q ≤ 1000000 ∧ 8 * M < q + 8 := by omega
    by_cases hlt : q < 8 * M
    · have h8 : ((q : Int) % 8 == 0) = false := beq_eq_false_iff_ne.2 (by omega)
      have h8b : ((q : Int) % 8 != 0) = true := bne_iff_ne.2 (by omega)
      obtain ⟨K, hK⟩ : ∃ K, K = L ++ List.replicate (q - L.length) 0 := ⟨_, rfl⟩
      have hKl : K.length = q := by rw [hK, List.length_append, List.length_replicate]; omega
      have HKS : Hid (L ++ List.replicate (q + 1 - L.length) 0 = K ++ [0]) := by
        show _ = _
        rw [hK, show q + 1 - L.length = (q - L.length) + 1 from by omega, List.replicate_succ', List.append_assoc]
      rw [← hK] at hown
      have HKL := Lib.hid hKl
      have hown' : wr.ownsRow w.heap.size 3 1 (.slice A2 q c2) K.length (nums .i64 K) := by rw [hKl]; exact hown
      have HO := Lib.hid hown'
      have hKb : (K.length + 1) * 8 ≤ 140737488355328 := by omega
      have HKB := Lib.hid hKb
      clear hK hKl hown hown' hKb
      go_wp2_with (at_builtin; go_loud (refine print_append_num (w0 := w) w.heap.size rfl (.tmp 15) (.tmp 16) 29 3 .i64 8 rfl Try.underlying29 infoI (by decide) (.slice A2 q c2) K 0 rfl rfl HO.out hb hb.size HKB.out ?_); intro v6 w6 hown6 hb6 hg6 hat6; have HO6 := Lib.hid hown6; clear hown6 hg6 hat6)
      go_roundg (8 * M - (q + 1))
      case measure => omega
      case rel =>
        refine ⟨q + 1, _, by omega, by omega, rfl, rfl, ?_, hb6⟩
        have h6 := HO6.out
        rw [List.length_append, HKL.out] at h6
        rw [HKS.out]
        exact h6
    · obtain rfl : q = 8 * M := by omega
      have hq8 : (8 * (M : Int)) % 8 = 0 := by omega
      have HOB : Hid (wr.ownsRow w.heap.size 3 1 (.slice A2 (8 * M) c2) (8 * M) (nums .i64 (bitsL (ofL l) (8 * M)))) := by
        show World.ownsRow _ _ _ _ _ _ _
        rw [HP.out, ← HBL.out]
        exact hown
      clear hown
      have hb2 := ba hb (.cells #[.slice A2 (8 * M) c2, .int .i64 0, .int .i64 0] 59)
      have HB2 := Lib.hid hb2
      go_wp2_with fail
      refine (rbytes_any w.heap.size wr.heap.size M 0 0 (ofL l) (.slice A2 (8 * M) c2) _ ⟨heap_alloc_new wr _, pw_own_below HOB.out (ba (br wr) _), hb.size⟩ (by omega)).mono ?_
      rintro e w5 ⟨v5, rfl, hown5, hb5⟩
      have cv := conv_own hown5
      have HB5 := Lib.hid (bt HB2.out hb5)
      clear hown5 hb5
      go_wp2
      go_ret
      refine ⟨?_, HB5.out⟩
      rw [show bytesS l = bytesL (ofL l) M from by unfold bytesS; rw [← HRR.out]]
      rfl
end Go.Proofs.Ytikjolinendfgaa.Ari
