/- The walk of the statement RiffBack. -/
import Derived.Test.YtcjnfdhdcoobgaaRiff20
set_option linter.unusedVariables false
set_option linter.unusedSimpArgs false
namespace Go.Proofs.Ytcjnfdhdcoobgaa.Rif
open Go.RowKit Go.Proofs.YtcjnfdhdcoobgaaW.PrintWords Go.Proofs.YtcjnfdhdcoobgaaW.PrintLast Go.Proofs.YtcjnfdhdcoobgaaW.PrintMore Go.Proofs.Ytcjnfdhdcoobgaa.Chk

theorem byte4 (a b c d : Int) (h : (0 ≤ a ∧ a ≤ 255) ∧ (0 ≤ b ∧ b ≤ 255) ∧ (0 ≤ c ∧ c ≤ 255) ∧ (0 ≤ d ∧ d ≤ 255)) : Bytes [a, b, c, d] := fun x hx => by
  simp only [List.mem_cons, List.not_mem_nil, or_false] at hx
  rcases hx with rfl | rfl | rfl | rfl <;> omega
theorem pad_byte (n : Nat) : Bytes (if n % 2 = 1 then [0] else []) := by split <;> intro x hx <;> simp at hx <;> omega
theorem ck_byte {p : Pc} (h1 : Bytes p.1) (h2 : Bytes p.2) : Bytes (ck p) := Bytes.append (Bytes.append (Bytes.append h1 (le_byte _ _)) h2) (pad_byte _)
theorem flat_byte : ∀ {ps : List Pc}, (∀ p ∈ ps, Bytes p.1 ∧ Bytes p.2) → Bytes (ps.flatMap ck)
  | [], _ => fun x hx => by simp at hx
  | p :: t, h => by
    rw [List.flatMap_cons]
    exact Bytes.append (ck_byte (h p (by simp)).1 (h p (by simp)).2) (flat_byte fun q hq => h q (List.mem_cons_of_mem _ hq))
theorem fileOf_byte {ps : List Pc} (h : ∀ p ∈ ps, Bytes p.1 ∧ Bytes p.2) : Bytes (fileOf ps) :=
  Bytes.append (Bytes.append (byte4 82 73 70 70 (by decide)) (le_byte _ _)) (Bytes.append (byte4 87 65 86 69 (by decide)) (flat_byte h))
theorem three_byte (wh nm : Nat) (R C : Int) (xs ys : List Int) (hy : Bytes ys) : Bytes (fileOf (threeP wh (fP R C) (dP xs) (oddP nm ys))) := by
  refine fileOf_byte fun q hq => ?_
  have hf : q = fP R C ∨ q = dP xs ∨ q = oddP nm ys := by
    unfold threeP at hq
    split at hq
    · simp only [List.mem_cons, List.not_mem_nil, or_false] at hq; rcases hq with h | h | h <;> simp [h]
    · split at hq <;> simp only [List.mem_cons, List.not_mem_nil, or_false] at hq <;> rcases hq with h | h | h <;> simp [h]
  rcases hf with rfl | rfl | rfl
  · exact ⟨byte4 102 109 116 32 (by decide), formL_byte _ _⟩
  · exact ⟨byte4 100 97 116 97 (by decide), smpL_byte _ _⟩
  · exact ⟨byte4 _ _ _ _ (by omega), hy⟩
theorem three_length (wh : Nat) (f d p : Pc) : (threeP wh f d p).length = 3 := by unfold threeP; split <;> (try split) <;> rfl
theorem infoI : (Try.prog.info? 3).map (fun i => (i.zero, i.size, i.bytes)) = some (some (.int .i64 0), 1, 8) := by kernel_rfl

theorem put_one {W : World} {base g cap : Nat} {xs : List Int} (h : W.ownsRow base 5 1 (.slice (some ⟨g, 0, none⟩) xs.length cap) xs.length (nums .u8 xs)) (i : Nat) (x : Int) :
    (W.setCell ⟨g, i, none⟩ (.int .u8 x)).ownsRow base 5 1 (.slice (some ⟨g, 0, none⟩) (xs.set i x).length cap) (xs.set i x).length (nums .u8 (xs.set i x)) := by
  have h2 := own_put h (i : Int) x
  rw [Int.toNat_natCast] at h2
  rw [List.length_set] at h2 ⊢
  exact h2
theorem put_four {W : World} {base g cap : Nat} {xs : List Int} (h : W.ownsRow base 5 1 (.slice (some ⟨g, 0, none⟩) xs.length cap) xs.length (nums .u8 xs)) (a b c d : Int) (ys : List Int) (hy : (((xs.set 4 a).set 5 b).set 6 c).set 7 d = ys) :
    ((((W.setCell ⟨g, 4, none⟩ (.int .u8 a)).setCell ⟨g, 5, none⟩ (.int .u8 b)).setCell ⟨g, 6, none⟩ (.int .u8 c)).setCell ⟨g, 7, none⟩ (.int .u8 d)).ownsRow base 5 1 (.slice (some ⟨g, 0, none⟩) xs.length cap) xs.length (nums .u8 ys) := by
  have h2 := put_one (put_one (put_one (put_one h 4 a) 5 b) 6 c) 7 d
  rw [hy] at h2
  have hl : ys.length = xs.length := by rw [← hy]; simp
  rw [hl] at h2
  exact h2
theorem own_first {W : World} {base n : Nat} {v : Value} {xs : List Value} (h : W.ownsRow base 5 1 v n xs) (h0 : 0 < n) : ∃ g c, v = .slice (some ⟨g, 0, none⟩) n c ∧ base ≤ g := by
  rcases h.2 with ⟨h1, h2⟩ | ⟨g, cap, cur, h1, h2, -, -, -, -, -⟩
  · omega
  · exact ⟨g, cap, h1, h2⟩
set_option maxRecDepth 100000 in
set_option maxHeartbeats 800000 in
theorem back_walk (R C : Int) (A : Option Addr) (n c : Nat) (xs : List Int) (nm : Nat) (B : Option Addr) (m d : Nat) (ys : List Int) (wh : Nat) (w : World) (hn : n ≤ 9223372036854775807) (hr : ReadsInt w .i16 A n xs) (hx : ∀ x ∈ xs, -32768 ≤ x ∧ x ≤ 32767)
    (hnm : nm < 4294967296) (hry : ReadsInt w .u8 B m ys) (hyb : Bytes ys) (hwh : wh < 256) :
    Calls Try.prog 10 #[.agg #[.int .i64 R, .int .i64 C, .slice A n c], .int .u32 nm, .slice B m d, .int .u8 wh] w fun e w' => e = .returned (.bool true) ∧ Below w.heap.size w w' := by
  obtain rfl := hr.1
  obtain rfl := hry.1
  have HR := Lib.hid hr
  have HX := Lib.hid hx
  have HY := Lib.hid (And.intro hry hyb)
  have hyl := hry.2.1
  clear hr hx hry hyb
  go_enter Try.func10, Try.ntmps10
  go_wp2_with fail
  refine (alive _).mono ?_
  rintro e w1 ⟨rfl, hb1⟩
  have hx1 : w1.heap[w.heap.size]? = some (.cells #[.int .i64 R, .int .i64 C, .slice A xs.length c] 58 (0, 0)) := (hb1.block _ (by simp)).trans (heap_alloc_new w _)
  have hb1' : Below w.heap.size w w1 := bt (ba (br w) _) hb1
  have z0 := blk_cell hx1 0
  have z1 := blk_cell hx1 1
  have z2 := blk_cell hx1 2
  clear hb1
  rcases Nat.lt_or_ge 300 xs.length with hl | hl
  · go_wp2
    go_ret
    exact ⟨rfl, hb1'⟩
  rcases Nat.lt_or_ge 100 ys.length with hl2 | hl2
  · go_wp2
    go_ret
    exact ⟨rfl, hb1'⟩
  rcases Classical.em (¬ May R C xs.length) with hm | hm
  · have TB := fun W => bytes_no R C A xs.length c W hn hm
    clear hm
    go_wp2_with fail
    refine (TB _).mono ?_
    rintro e w2 ⟨rfl, hb2⟩
    have hb2' := bt hb1' hb2
    go_wp2
    go_ret
    exact ⟨rfl, hb2'⟩
  replace hm := Classical.not_not.1 hm
  have hLl : (riffL R C xs).length = 44 + 2 * xs.length := by
    unfold riffL
    rw [List.length_append, List.length_append, le_length, rest_length]
    simp only [List.length_cons, List.length_nil]
    omega
  have TB := bytes_yes R C A xs.length c xs w1 hm (HR.out.below hb1') HX.out
  have HP1 := Lib.hid (riff_parse R C xs hm HX.out)
  have HLB := Lib.hid (riff_byte R C xs)
  have HLF : Hid (∀ k : Nat, k + 8 = ((riffL R C xs).take (atN wh (riffL R C xs).length) ++ ck (oddP nm ys) ++ (riffL R C xs).drop (atN wh (riffL R C xs).length)).length → _) := fun k h => long_file wh nm R C xs ys hl2 hm.2.2.2.1 k h
  have HTP := Lib.hid (three_parse wh nm R C xs ys hl2 hm HX.out)
  have HTF := Lib.hid (three_files wh nm R C xs ys hl2 hm.2.2.2.1)
  have HTB := Lib.hid (three_byte wh nm R C xs ys HY.out.2)
  have HOC := Lib.hid (odd_ck nm ys (by omega))
  have HFL : Hid ((fileOf (threeP wh (fP R C) (dP xs) (oddP nm ys))).length ≤ 2000) := by
    show _ ≤ _
    rw [← long_file wh nm R C xs ys hl2 hm.2.2.2.1 _ (Nat.sub_add_cancel (show 8 ≤ _ from by rw [List.length_append, List.length_append, List.length_take, List.length_drop, ck_length _ rfl]; omega))]
    simp only [List.length_set, List.length_append, List.length_take, List.length_drop]
    rw [ck_length _ rfl]
    show min _ _ + (8 + (ys.length + ys.length % 2)) + _ ≤ _
    omega
  generalize hLd : riffL R C xs = L at TB HP1 HLB HLF hLl
  have HH := Lib.hid hm
  have HLL := Lib.hid hLl
  have hLu : L.length ≤ 644 := by omega
  have hLd2 : 44 ≤ L.length := by omega
  clear hm hLd hLl
  go_wp2_with fail
  refine TB.mono ?_
  rintro e w2 ⟨v2, rfl, hown2, hb2⟩
  obtain ⟨A2, c2, rfl, hcl, hr2⟩ := own_reads_le hown2
  have hb2' := bt hb1' hb2
  have hx2 := (hb2.block _ (blk_lt hx1)).trans hx1
  clear TB z0 z1 z2 hx1 hown2 hb2
  have TP := parse_one A2 L.length c2 L w2 (by omega) hcl HLB.out hr2 R C xs true (.inr ⟨HP1.out, rfl⟩)
  simp only [if_true] at TP
  have HR2 := Lib.hid (And.intro hr2 hcl)
  clear hr2 hcl
  go_wp2_with fail
  refine TP.mono ?_
  rintro e w3 ⟨A3, c3, rfl, hr3, hb3⟩
  have hb3' := bt hb2' hb3
  have hx3 := blk_alloc ((hb3.block _ (blk_lt hx2)).trans hx2) (.cells #[.int .i64 R, .int .i64 C, .slice A3 xs.length c3] 60)
  have hy3 := heap_alloc_new w3 (.cells #[.int .i64 R, .int .i64 C, .slice A3 xs.length c3] 60)
  have hb4 := ba hb3' (.cells #[.int .i64 R, .int .i64 C, .slice A3 xs.length c3] 60)
  have hr4 := hr3.below (ba (br w3) (.cells #[.int .i64 R, .int .i64 C, .slice A3 xs.length c3] 60))
  have q0 := blk_cell hx3 0
  have q1 := blk_cell hx3 1
  have q2 := blk_cell hx3 2
  have TS := same_yes R C A3 A xs.length c3 c xs _ hr4 (HR.out.below hb4)
  have HR4 : Hid (ReadsInt (w3.alloc (.cells #[.int .i64 R, .int .i64 C, .slice A3 xs.length c3] 60)) .u8 A2 L.length L) := HR2.out.1.below (ba hb3 _)
  clear TP hx2 hr3 hb3 hb3' hr4
  go_wp2_with fail
  refine TS.mono ?_
  rintro e w5 ⟨rfl, hb5⟩
  have hb5' := bt hb4 hb5
  have hx5 := (hb5.block _ (blk_lt hx3)).trans hx3
  have hr5 := HR4.out.below hb5
  clear TS q0 q1 q2 hx3 hy3 hb4 hb5 HR4
  have hlit : (w5.alloc (.cells #[.int .u8 ((nm : Int) % 256), .int .u8 ((nm : Int) / 256 % 256), .int .u8 ((nm : Int) / 65536 % 256), .int .u8 33, .int .u8 (ys.length : Int), .int .u8 0, .int .u8 0, .int .u8 0] 5)).ownsRow w5.heap.size 5 1 (.slice (some ⟨w5.heap.size, 0, none⟩) 8 8) (nameL nm ++ [(ys.length : Int), 0, 0, 0]).length (nums .u8 (nameL nm ++ [(ys.length : Int), 0, 0, 0])) := own_lit w5 w5.heap.size 5 .u8 (nameL nm ++ [(ys.length : Int), 0, 0, 0]) (Nat.le_refl _) (by simp [nameL])
  have hry : ReadsInt (w5.alloc (.cells #[.int .u8 ((nm : Int) % 256), .int .u8 ((nm : Int) / 256 % 256), .int .u8 ((nm : Int) / 65536 % 256), .int .u8 33, .int .u8 (ys.length : Int), .int .u8 0, .int .u8 0, .int .u8 0] 5)) .u8 B ys.length ys := HY.out.1.below (ba hb5' _)
  have hbl : Below w5.heap.size w5 (w5.alloc (.cells #[.int .u8 ((nm : Int) % 256), .int .u8 ((nm : Int) / 256 % 256), .int .u8 ((nm : Int) / 65536 % 256), .int .u8 33, .int .u8 (ys.length : Int), .int .u8 0, .int .u8 0, .int .u8 0] 5)) := ba (br w5) _
  have hnl : (nameL nm ++ [(ys.length : Int), 0, 0, 0]).length ≤ 8 := by simp [nameL]
  go_upto_if 73 with (at_builtin; go_loud (refine print_append_row w5.heap.size rfl (.tmp 67) (.tmp 68) 37 5 .u8 1 rfl Try.underlying37 info8 (by decide) _ (nameL nm ++ [(ys.length : Int), 0, 0, 0]) ys B ys.length d rfl rfl hlit hry hbl hbl.size (by omega) ?_); intro v6 w6 hown6 hb6 hg6 hat6; clear hlit hry hbl)
  obtain ⟨K, hK⟩ : ∃ K, K = ck (oddP nm ys) := ⟨_, rfl⟩
  have HK : Hid (K = nameL nm ++ [(ys.length : Int), 0, 0, 0] ++ ys ++ (if ys.length % 2 = 1 then [0] else [])) := by show _ = _; rw [hK, HOC.out]
  have hKl : K.length = 8 + (ys.length + ys.length % 2) := by rw [hK]; exact ck_length _ rfl
  rw [← hK] at HLF
  have HKL := Lib.hid hKl
  have hKu : K.length ≤ 110 := by omega
  clear hK hKl
  have hln : (nameL nm ++ [(ys.length : Int), 0, 0, 0] ++ ys).length ≤ 108 := by rw [List.length_append]; omega
  have HLN := Lib.hid hln
  clear hg6 hat6
  go_cut [13] (fun x W => ∃ A7 c7, x = .slice A7 K.length c7 ∧ W.ownsRow w5.heap.size 5 1 (.slice A7 K.length c7) K.length (nums .u8 K) ∧ Below w5.heap.size w5 W)
  case first =>
    obtain ⟨A6, c6, rfl⟩ := own_slice hown6
    rcases Nat.mod_two_eq_zero_or_one ys.length with hp | hp
    · have hv : (ys.length : Int) % 2 = 0 := by omega
      have HK0 : Hid (K = nameL nm ++ [(ys.length : Int), 0, 0, 0] ++ ys) := by show _ = _; rw [HK.out, if_neg (by omega), List.append_nil]
      clear hp
      go_wp2
      go_meet
      rw [← HK0.out] at hown6
      exact ⟨A6, c6, by rw [← HK0.out], hown6, hb6⟩
    · have hv : (ys.length : Int) % 2 = 1 := by omega
      have HK0 : Hid (K = nameL nm ++ [(ys.length : Int), 0, 0, 0] ++ ys ++ [0]) := by show _ = _; rw [HK.out, if_pos hp]
      clear hp
      have hsz6 := hb6.size
      go_wp2_with (at_builtin; go_loud (refine print_append_num w5.heap.size rfl (.tmp 74) (.tmp 75) 37 5 .u8 1 rfl Try.underlying37 info8 (by decide) _ (nameL nm ++ [(ys.length : Int), 0, 0, 0] ++ ys) 0 rfl rfl hown6 hb6 hsz6 (by omega) ?_); intro v7 w7 hown7 hb7 hg7 hat7)
      go_meet
      rw [← HK0.out] at hown7
      obtain ⟨A7, c7, rfl⟩ := own_slice hown7
      exact ⟨A7, c7, rfl, hown7, hb7⟩
  case rest =>
    obtain ⟨A7, c7, rfl, hown7, hb7⟩ := hcut
    clear hown6 hb6 hln hnl
    go_upto_region 15 with fail
    go_cut [14] (fun x W => x = .int .i64 (atN wh L.length) ∧ W.ownsRow w5.heap.size 5 1 (.slice A7 K.length c7) K.length (nums .u8 K) ∧ Below w5.heap.size w5 W)
    case first =>
      have hbx := ba hb7 (.cells #[.int .i64 12, .int .i64 36, .int .i64 (L.length : Int)] 3)
      have hox := own_alloc hown7 (.cells #[.int .i64 12, .int .i64 36, .int .i64 (L.length : Int)] 3)
      have hwn : wh % 3 = 0 ∨ wh % 3 = 1 ∨ wh % 3 = 2 := by omega
      rcases hwn with h | h | h
      · have hv : (wh : Int) % 3 = 0 := by omega
        have HA : Hid (atN wh L.length = 12) := by show _ = _; unfold atN; rw [if_pos h]
        clear h
        go_wp2
        go_meet
        exact ⟨by rw [HA.out]; rfl, hox, hbx⟩
      · have hv : (wh : Int) % 3 = 1 := by omega
        have HA : Hid (atN wh L.length = 36) := by show _ = _; unfold atN; rw [if_neg (by omega), if_pos h]
        clear h
        go_wp2
        go_meet
        exact ⟨by rw [HA.out]; rfl, hox, hbx⟩
      · have hv : (wh : Int) % 3 = 2 := by omega
        have HA : Hid (atN wh L.length = L.length) := by show _ = _; unfold atN; rw [if_neg (by omega), if_neg (by omega)]
        clear h
        go_wp2
        go_meet
        exact ⟨by rw [HA.out], hox, hbx⟩
    case rest =>
      obtain ⟨rfl, hown8, hb8⟩ := hcut
      have hb9 : Below w.heap.size w wc := bt hb5' hb8
      have hx9 := (hb8.block _ (blk_lt hx5)).trans hx5
      have ha : atN wh L.length ≤ L.length := by unfold atN; split <;> (try split) <;> omega
      obtain ⟨a, had⟩ : ∃ a, a = atN wh L.length := ⟨_, rfl⟩
      rw [← had] at ha HLF ⊢
      obtain ⟨G, hG⟩ : ∃ G, G = L.take a ++ K ++ L.drop a := ⟨_, rfl⟩
      have hGl : G.length = L.length + K.length := by rw [hG, List.length_append, List.length_append, List.length_take, List.length_drop]; omega
      rw [← hG] at HLF
      have HG := Lib.hid hG
      have hGu : G.length ≤ 1000 := by omega
      have hGd : 8 ≤ G.length := by omega
      obtain ⟨q1, q2⟩ := cut8_to A2 c2 L (a : Int) (by omega) (by omega) HR2.out.2
      obtain ⟨A9, q3, q4, q5⟩ := cut8_from A2 c2 L (a : Int) (by omega) (by omega) HR2.out.2
      rw [Int.toNat_natCast] at q1 q2 q3 q4 q5
      have HRT : Hid (∀ W, Below wc.heap.size wc W → ReadsInt W .u8 A2 a (L.take a)) := fun W h => q2 W ((hr5.below hb8).below h)
      have HRD : Hid (∀ W, Below wc.heap.size wc W → ReadsInt W .u8 A9 (L.drop a).length (L.drop a)) := fun W h => q4 W ((hr5.below hb8).below h)
      have HRK : Hid (∀ W, Below wc.heap.size wc W → ReadsInt W .u8 A7 K.length K) := fun W h => own_reads' (pw_own_below hown8 h)
      have HDL : Hid ((L.drop a).length ≤ 644) := by show _ ≤ _; rw [List.length_drop]; omega
      have HTL : Hid ((L.take a).length = a) := by show _ = _; rw [List.length_take]; omega
      generalize hdL : (L.drop a).length = dl at q3
      have HDE := Lib.hid hdL
      clear q2 q4 q5 hG hGl had hr5 hown7 hb7 hb8 hown8 hx5 hb5' hdL
      have hemp : (wc.drew.alloc (.cells #[] 5)).ownsRow wc.heap.size 5 1 (.slice (some ⟨wc.heap.size, 0, none⟩) 0 0) ([] : List Int).length (nums .u8 []) := own_lit wc.drew wc.heap.size 5 .u8 [] (Nat.le_refl _) (by decide)
      have hbe : Below wc.heap.size wc (wc.drew.alloc (.cells #[] 5)) := ba (bd (br wc)) _
      go_upto_region 16 with fail
      go_region_law (first
        | ((refine step_append_row (w0 := wc) (W := wc.drew.alloc (.cells #[] 5)) wc.heap.size rfl (.tmp 85) (.tmp 88) 37 5 .u8 1 rfl Try.underlying37 info8 (by decide) _ [] (L.take a) A2 a c2 rfl rfl hemp (HRT.out _ hbe) hbe hbe.size (by simp; omega) ?_); intro v1 w1_ hown1 hb1_ hg1)
        | ((refine step_append_row (w0 := wc) wc.heap.size rfl (.tmp 89) (.tmp 90) 37 5 .u8 1 rfl Try.underlying37 info8 (by decide) _ ([] ++ L.take a) K A7 K.length c7 rfl rfl hown1 (HRK.out _ hb1_) hb1_ hb1_.size (by rw [List.nil_append, HTL.out]; omega) ?_); intro v2 w2_ hown2 hb2_ hg2)
        | ((refine step_append_row (w0 := wc) wc.heap.size rfl (.tmp 91) (.tmp 94) 37 5 .u8 1 rfl Try.underlying37 info8 (by decide) _ ([] ++ L.take a ++ K) (L.drop a) A9 dl (c2 - a) rfl rfl hown2 (by rw [← HDE.out]; exact HRD.out _ hb2_) hb2_ hb2_.size (by rw [← HDE.out, List.nil_append, List.length_append, HTL.out]; have := HDL.out; omega) ?_); intro v3 w3_ hown3 hb3_ hg3; rw [List.nil_append, ← HG.out] at hown3))
      all_goals
        obtain ⟨g, cg, rfl, hgb⟩ := own_first hown3 (by omega)
        have a4 := own_at hown3 4 (by omega) (by omega)
        have a5 := own_at hown3 5 (by omega) (by omega)
        have a6 := own_at hown3 6 (by omega) (by omega)
        have a7 := own_at hown3 7 (by omega) (by omega)
        obtain ⟨c4, f4⟩ := a4
        obtain ⟨c5, f5⟩ := a5
        obtain ⟨c6, f6⟩ := a6
        obtain ⟨c7', f7⟩ := a7
        change w3_.cell? ⟨g, 4, none⟩ = _ at c4
        change w3_.cell? ⟨g, 5, none⟩ = _ at c5
        change w3_.cell? ⟨g, 6, none⟩ = _ at c6
        change w3_.cell? ⟨g, 7, none⟩ = _ at c7'
        change w3_.frozen? ⟨g, 4, none⟩ = _ at f4
        change w3_.frozen? ⟨g, 5, none⟩ = _ at f5
        change w3_.frozen? ⟨g, 6, none⟩ = _ at f6
        change w3_.frozen? ⟨g, 7, none⟩ = _ at f7
        obtain ⟨N, hN⟩ : ∃ N, N = G.length - 8 := ⟨_, rfl⟩
        have hn8 : (G.length : Int) - 8 = (N : Int) := by omega
        have HF := Lib.hid (HLF.out N (by omega))
        have hf4 : (((G.set 4 ((N : Int) % 256)).set 5 ((N : Int) / 256 % 256)).set 6 ((N : Int) / 65536 % 256)).set 7 0 = fileOf (threeP wh (fP R C) (dP xs) (oddP nm ys)) := by
          have h := HF.out
          simp only [Int.natCast_emod, Int.natCast_ediv] at h
          exact h
        rw [show (N : Int) / 256 % 256 = (N : Int) / 256 from by omega, show (N : Int) / 65536 % 256 = (N : Int) / 65536 from by omega] at hf4
        have HO := Lib.hid (put_four hown3 ((N : Int) % 256) ((N : Int) / 256) ((N : Int) / 65536) 0 _ hf4)
        clear hf4
        have hNu : N ≤ 1000 := by omega
        have hbG : Below w.heap.size w w3_ := hb9.trans (hb3_.mono (by have := hb9.size; omega))
        have hxG := (hb3_.block _ (blk_lt hx9)).trans hx9
        have i4 : (4 : Int) < (G.length : Int) := by omega
        have i5 : (5 : Int) < (G.length : Int) := by omega
        have i6 : (6 : Int) < (G.length : Int) := by omega
        have i7 : (7 : Int) < (G.length : Int) := by omega
        clear hN hown1 hown2 hb1_ hb2_ hg1 hg2 hg3 q1 q3 hemp hbe
        have hgw : w.heap.size < g := by have := blk_lt hx9; omega
        have hbz : Below w.heap.size w ((((w3_.setCell ⟨g, 4, none⟩ (.int .u8 ((N : Int) % 256))).setCell ⟨g, 5, none⟩ (.int .u8 ((N : Int) / 256))).setCell ⟨g, 6, none⟩ (.int .u8 ((N : Int) / 65536))).setCell ⟨g, 7, none⟩ (.int .u8 0)) := (((hbG.setCell (p := ⟨g, 4, none⟩) (Nat.le_of_lt hgw) _).setCell (p := ⟨g, 5, none⟩) (Nat.le_of_lt hgw) _).setCell (p := ⟨g, 6, none⟩) (Nat.le_of_lt hgw) _).setCell (p := ⟨g, 7, none⟩) (Nat.le_of_lt hgw) _
        have hxz : ((((w3_.setCell ⟨g, 4, none⟩ (.int .u8 ((N : Int) % 256))).setCell ⟨g, 5, none⟩ (.int .u8 ((N : Int) / 256))).setCell ⟨g, 6, none⟩ (.int .u8 ((N : Int) / 65536))).setCell ⟨g, 7, none⟩ (.int .u8 0)).heap[w.heap.size]? = some (.cells #[.int .i64 R, .int .i64 C, .slice A xs.length c] 58 (0, 0)) :=
          (Below.heap_setCell _ ⟨g, 7, none⟩ _ _ (Nat.ne_of_lt hgw)).trans ((Below.heap_setCell _ ⟨g, 6, none⟩ _ _ (Nat.ne_of_lt hgw)).trans ((Below.heap_setCell _ ⟨g, 5, none⟩ _ _ (Nat.ne_of_lt hgw)).trans ((Below.heap_setCell _ ⟨g, 4, none⟩ _ _ (Nat.ne_of_lt hgw)).trans hxG)))
        obtain ⟨wz, hwz⟩ : ∃ wz : World, wz = ((((w3_.setCell ⟨g, 4, none⟩ (.int .u8 ((N : Int) % 256))).setCell ⟨g, 5, none⟩ (.int .u8 ((N : Int) / 256))).setCell ⟨g, 6, none⟩ (.int .u8 ((N : Int) / 65536))).setCell ⟨g, 7, none⟩ (.int .u8 0)) := ⟨_, rfl⟩
        have hoz := HO.out
        rw [← hwz] at hoz hbz hxz
        have HWZ := Lib.hid hwz
        have hFl : (fileOf (threeP wh (fP R C) (dP xs) (oddP nm ys))).length = G.length := by rw [← HF.out]; simp
        have hcap := own_cap hoz
        have TQ := parse_one (some ⟨g, 0, none⟩) G.length cg (fileOf (threeP wh (fP R C) (dP xs) (oddP nm ys))) wz (by omega) (by omega) HTB.out (own_reads' hoz) R C xs true (.inr ⟨HTP.out, rfl⟩)
        simp only [if_true] at TQ
        have HRZ := Lib.hid (And.intro (own_reads' hoz) (And.intro hFl hcap))
        clear hwz hoz HO hFl hcap
        go_wp2_with fail
        rw [← HWZ.out]
        refine TQ.mono ?_
        rintro e w7 ⟨A8, c8, rfl, hr8, hb10⟩
        have hb10' := bt hbz hb10
        have hxs := heap_alloc_new w7 (.cells #[.int .i64 R, .int .i64 C, .slice A8 xs.length c8] 60)
        have hxo := blk_alloc ((hb10.block _ (blk_lt hxz)).trans hxz) (.cells #[.int .i64 R, .int .i64 C, .slice A8 xs.length c8] 60)
        have hb11 := ba hb10' (.cells #[.int .i64 R, .int .i64 C, .slice A8 xs.length c8] 60)
        have hr9 := hr8.below (ba (br w7) (.cells #[.int .i64 R, .int .i64 C, .slice A8 xs.length c8] 60))
        have TK := chunks_one (some ⟨g, 0, none⟩) G.length cg (fileOf (threeP wh (fP R C) (dP xs) (oddP nm ys))) (w7.alloc (.cells #[.int .i64 R, .int .i64 C, .slice A8 xs.length c8] 60)) (by have := HRZ.out.2.1; omega) (by have := HRZ.out.2; omega) HTB.out (HRZ.out.1.below (ba hb10 _)) _ true (.inr ⟨HTF.out, rfl⟩)
        simp only [if_true, three_length] at TK
        clear TQ hr8 hb10 hb10' hxz hbz c4 c5 c6 c7' f4 f5 f6 f7 hown3
        go_wp2_with fail
        refine TK.mono ?_
        rintro e w8 ⟨v8, rfl, hown8, hb12⟩
        obtain ⟨A10, c10, rfl⟩ := own_slice hown8
        have hxs2 := (hb12.block _ (blk_lt hxs)).trans hxs
        have hxo2 := (hb12.block _ (blk_lt hxo)).trans hxo
        have r0 := blk_cell hxs2 0
        have r1 := blk_cell hxs2 1
        have r2 := blk_cell hxs2 2
        have s0 := blk_cell hxo2 0
        have s1 := blk_cell hxo2 1
        have s2 := blk_cell hxo2 2
        have hb13 := bt hb11 hb12
        have TZ := same_yes R C A8 A xs.length c8 c xs w8 (hr9.below hb12) (HR.out.below hb13)
        clear TK hxs hxo hxs2 hxo2 hown8
        go_wp2_with fail
        refine TZ.mono ?_
        rintro e w9 ⟨rfl, hb14⟩
        have hb15 := bt hb13 hb14
        clear r0 r1 r2 s0 s1 s2 TZ
        go_wp2
        go_ret
        exact ⟨rfl, hb15⟩
theorem back_all (R C : Int) (A : Option Addr) (n c : Nat) (xs : List Int) (nm : Int) (B : Option Addr) (m d : Nat) (wh : Int) (w : World) (hn : n ≤ 9223372036854775807) (hr : ReadsInt w .i16 A n xs) (hx : ∀ x ∈ xs, -32768 ≤ x ∧ x ≤ 32767)
    (hnm : (Lit.int .u32 nm).wf = true) (hry : ∃ l : List Int, l.length = m ∧ ReadsInt w .u8 B m l ∧ (∀ x ∈ l, 0 ≤ x ∧ x ≤ 255) ∧ m ≤ d) (hwh : (Lit.int .u8 wh).wf = true) :
    Calls Try.prog 10 #[.agg #[.int .i64 R, .int .i64 C, .slice A n c], .int .u32 nm, .slice B m d, .int .u8 wh] w fun e w' => e = .returned (.bool true) ∧ Below w.heap.size w w' := by
  have h1 : IntKind.u32.min ≤ nm ∧ nm ≤ IntKind.u32.max := by simpa [Lit.wf] using hnm
  have h2 : IntKind.u8.min ≤ wh ∧ wh ≤ IntKind.u8.max := by simpa [Lit.wf] using hwh
  change 0 ≤ nm ∧ nm ≤ 4294967295 at h1
  change 0 ≤ wh ∧ wh ≤ 255 at h2
  obtain ⟨k, rfl⟩ := Int.eq_ofNat_of_zero_le h1.1
  obtain ⟨q, rfl⟩ := Int.eq_ofNat_of_zero_le h2.1
  obtain ⟨ys, -, hr2, hb, -⟩ := hry
  exact back_walk R C A n c xs k B m d ys q w hn hr hx (by omega) hr2 hb (by omega)
end Go.Proofs.Ytcjnfdhdcoobgaa.Rif
