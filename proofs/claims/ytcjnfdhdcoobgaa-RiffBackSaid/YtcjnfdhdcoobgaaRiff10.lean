/- The walk of the package riff: song. -/
import Derived.Test.YtcjnfdhdcoobgaaRiff9
import Derived.Test.YtcjnfdhdcoobgaaStep
set_option linter.unusedVariables false
set_option linter.unusedSimpArgs false
namespace Go.Proofs.Ytcjnfdhdcoobgaa.Rif
open Go.RowKit Go.Proofs.YtcjnfdhdcoobgaaW.PrintWords Go.Proofs.YtcjnfdhdcoobgaaW.PrintLast Go.Proofs.YtcjnfdhdcoobgaaW.PrintMore Go.Proofs.Ytcjnfdhdcoobgaa.Chk

def i16 (v : Nat) : Int := if 32767 < v then (v : Int) - 65536 else v
/-- the first k samples of bytes -/
def smpD (d : List Int) (k : Nat) : List Int := (List.range k).map fun i => i16 (leV ((d.take (2 * i + 2)).drop (2 * i)))
theorem smpD_length (d : List Int) (k : Nat) : (smpD d k).length = k := by simp [smpD]
theorem smpD_succ (d : List Int) (k : Nat) : smpD d (k + 1) = smpD d k ++ [i16 (leV ((d.take (2 * k + 2)).drop (2 * k)))] := by unfold smpD; rw [List.range_succ, List.map_append]; rfl
def songR (f : List Int) : Int := rateOf (leV ((f.take 8).drop 4))
def songC (f : List Int) : Int := leV ((f.take 4).drop 2)
def songS (d : List Int) : List Int := smpD d (d.length / 2)
/-- the song of a form and samples -/
def songP (f d : List Int) : Option (Int × Int × List Int) := if f.length = 16 ∧ d.length % 2 = 0 ∧ May (songR f) (songC f) (songS d).length ∧ formL (songR f) (songC f) = f then some (songR f, songC f, songS d) else none
def SongOut (o : Option (Int × Int × List Int)) (w : World) (e : Ending) (w' : World) : Prop :=
  match o with
  | none => e = .returned (.tuple #[.agg #[.int .i64 0, .int .i64 0, .slice none 0 0], .bool false]) ∧ Below w.heap.size w w'
  | some (R, C, xs) => ∃ A c, e = .returned (.tuple #[.agg #[.int .i64 R, .int .i64 C, .slice A xs.length c], .bool true]) ∧ w'.ownsRow w.heap.size 109 1 (.slice A xs.length c) xs.length (nums .i16 xs) ∧ Below w.heap.size w w'

theorem set3 {w : World} {g : Nat} {t : TypeId} {a b c : Value} (h : w.heap[g]? = some (.cells #[a, b, c] t (0, 0))) (a' b' c' : Value) :
    (((w.setCell ⟨g, 0, none⟩ a').setCell ⟨g, 1, none⟩ b').setCell ⟨g, 2, none⟩ c').heap[g]? = some (.cells #[a', b', c'] t (0, 0)) :=
  (blk_set (blk_set (blk_set h 0 a') 1 b') 2 c').trans rfl
theorem below3 {B : Nat} {w w1 : World} {g : Nat} (h : Below B w w1) (hg : B ≤ g) (a' b' c' : Value) :
    Below B w (((w1.setCell ⟨g, 0, none⟩ a').setCell ⟨g, 1, none⟩ b').setCell ⟨g, 2, none⟩ c') :=
  ((h.setCell (p := ⟨g, 0, none⟩) hg _).setCell (p := ⟨g, 1, none⟩) hg _).setCell (p := ⟨g, 2, none⟩) hg _

theorem two_new (w : World) (z1 z2 : Obj) : ((w.alloc z1).alloc z2).heap[w.heap.size + 1]? = some z2 := by
  have h := heap_alloc_new (w.alloc z1) z2
  simpa using h
theorem info16 : (Try.prog.info? 109).map (fun i => (i.zero, i.size, i.bytes)) = some (some (.int .i16 0), 1, 2) := by kernel_rfl
theorem wrap16 (v : Nat) (h : v < 65536) : IntKind.i16.wrap (v : Int) = i16 v := by
  have e : IntKind.i16.wrap (v : Int) = if 32768 ≤ (v : Int) % 65536 then (v : Int) % 65536 - 65536 else (v : Int) % 65536 := by simp [IntKind.wrap, IntKind.signed, IntKind.bits]
  rw [e]
  unfold i16
  split <;> split <;> omega
set_option maxRecDepth 100000 in
set_option maxHeartbeats 2000000 in
theorem song_any (A B : Option Addr) (n m c d : Nat) (f s : List Int) (w : World) (hc : f.length ≤ c) (hd : s.length ≤ d) (hsl : s.length ≤ 20000) (hBf : Bytes f) (hBs : Bytes s) (hf : ReadsInt w .u8 A n f) (hs : ReadsInt w .u8 B m s) :
    Calls Try.prog 72 #[.slice A n c, .slice B m d] w (SongOut (songP f s) w) := by
  obtain rfl := hf.1
  obtain rfl := hs.1
  have hfl := hf.2.1
  have hz0 := heap_alloc_new w (.cells #[.int .i64 0, .int .i64 0, .slice none 0 0] 60)
  have x0 := blk_cell hz0 0
  have x1 := blk_cell hz0 1
  have x2 := blk_cell hz0 2
  have t0 := blk_frozen hz0 0
  have t1 := blk_frozen hz0 1
  have t2 := blk_frozen hz0 2
  rcases Classical.em (¬ f.length = 16) with h16 | h16
  · have HN : songP f s = none := by unfold songP; rw [if_neg (fun h => h16 h.1)]
    rw [HN]
    have b0 : ((f.length : Int) != 16) = true := bne_iff_ne.2 (by omega)
    clear h16 HN hBf hBs
    go_enter Try.func72, Try.ntmps72
    go_wp2
    exact bodyPost_ret (v := .tuple #[.agg #[.int .i64 0, .int .i64 0, .slice none 0 0], .bool false]) (results_ct Try.results72 _ _ w.heap.size _ _ _ _ rfl hz0 Try.underlying60 rfl (by kernel_rfl)) rfl ⟨rfl, ba (br w) _⟩
  replace h16 := Classical.not_not.1 h16
  rcases Nat.mod_two_eq_zero_or_one s.length with h2 | h2
  · obtain ⟨A48, u3, u4⟩ := cut8 A c f 4 8 (by omega) (by omega) (by omega) hc
    obtain ⟨A24, v3, v4⟩ := cut8 A c f 2 4 (by omega) (by omega) (by omega) hc
    have e48 : (8 : Int).toNat - (4 : Int).toNat = 4 := rfl
    have e24 : (4 : Int).toNat - (2 : Int).toNat = 2 := rfl
    rw [e48] at u3 u4
    rw [e24] at v3 v4
    generalize c - (4 : Int).toNat = c4 at u3
    generalize c - (2 : Int).toNat = c2 at v3
    have T48 : Hid (∀ W, Below w.heap.size w W → Calls Try.prog 81 #[.slice A48 4 c4] W fun e w' => e = .returned (.int .i64 (leV ((f.take 8).drop 4))) ∧ w' = W) := fun W h => get_any A48 4 _ _ W (by decide) ((hBf.take 8).drop 4) (u4 W (hf.below h))
    have T24 : Hid (∀ W, Below w.heap.size w W → Calls Try.prog 81 #[.slice A24 2 c2] W fun e w' => e = .returned (.int .i64 (leV ((f.take 4).drop 2))) ∧ w' = W) := fun W h => get_any A24 2 _ _ W (by decide) ((hBf.take 4).drop 2) (v4 W (hf.below h))
    have hC0 : Hid (songC f < 65536) := by
      have h1 := leV_lt ((hBf.take 4).drop 2)
      have h2 : ((f.take 4).drop 2).length = 2 := by rw [List.length_drop, List.length_take]; omega
      rw [h2] at h1
      show songC f < 65536
      unfold songC
      omega
    have HX := Lib.hid hz0
    have HFS := Lib.hid (And.intro hf hs)
    have HBB := Lib.hid (And.intro hBf hBs)
    have H16 := Lib.hid (And.intro h16 h2)
    have b0 : ((f.length : Int) != 16) = false := bne_eq_false_iff_eq.2 (by omega)
    have b1 : (s.length : Int) % 2 = 0 := by omega
    clear u4 v4 hf hs hBf hBs h16 h2 x0 x1 x2 t0 t1 t2 hz0
    go_enter Try.func72, Try.ntmps72
    go_upto_region 3 with fail
    go_cut [6] (fun x W => ∃ b, x = .pointer (some ⟨b, 0, none⟩) ∧ w.heap.size < b ∧ W.heap[b]? = some (.cells #[.int .i64 (songR f), .int .i64 (songC f), .slice none 0 0] 60 (0, 0)) ∧ W.heap[w.heap.size]? = some (.cells #[.int .i64 0, .int .i64 0, .slice none 0 0] 60 (0, 0)) ∧ Below w.heap.size w W)
    case first =>
      go_region_with
        (first
          | (go_at_call 80; refine (rates_any _).mono ?_; rintro e w2 ⟨g, rfl, hy, hb2⟩; try (have q := (hb2.block (w.heap.size + 1) (by simp)).trans (two_new w _ _); have q0 := blk_cell q 0; have q1 := blk_cell q 1; have q2 := blk_cell q 2; have s0 := blk_frozen q 0; have s1 := blk_frozen q 1; have s2 := blk_frozen q 2))
          | (go_at_call_of 81 (Value.slice A48 4 c4); refine (T48.out _ ?_).mono ?_; (first | exact bt (bd (ba (br _) _)) hb2 | exact ba (bt (bd (ba (br _) _)) hb2) _ | exact bt (ba (bd (ba (br _) _)) _) hb2); rintro e w3 ⟨rfl, rfl⟩)
          | (go_at_call_of 81 (Value.slice A24 2 c2); refine (T24.out _ ?_).mono ?_; (first | exact bt (bd (ba (br _) _)) hb2 | exact ba (bt (bd (ba (br _) _)) hb2) _ | exact bt (ba (bd (ba (br _) _)) _) hb2); rintro e w4 ⟨rfl, rfl⟩)
          | (go_at_call 82; refine (index_any g _ _ ?_).mono ?_; (first | exact hy | exact fun R h0 h3 => pw_cell_below (ba (br _) _) (hy R h0 h3)); rintro e w5 ⟨rfl, rfl⟩)
          | fail)
      all_goals
        go_wp2
        go_meet
        first
          | exact ⟨_, rfl, by have := hb2.size; simp at this; omega, heap_alloc_new _ _, blk_alloc ((hb2.block _ (by simp)).trans HX.out) _, ba (bt (bd (ba (br w) _)) hb2) _⟩
          | exact ⟨_, rfl, Nat.lt_succ_self _, set3 q _ _ _, (Below.block (below3 (Below.refl (w.heap.size + 1) _) (Nat.le_refl _) _ _ _) w.heap.size (Nat.lt_succ_self _)).trans ((hb2.block _ (by simp; omega)).trans (blk_alloc (w := (w.alloc _)) HX.out _)), below3 (bt (bd (ba (ba (br w) _) _)) hb2) (Nat.le_succ _) _ _ _⟩
    case rest =>
      obtain ⟨b, rfl, hwb, hxb, hxw, hbw⟩ := hcut
      clear u3 v3 T48 T24 b0
      go_wp2
      go_loopg [7] (s.length / 2) (fun gk x W => ∃ (k : Nat) (A' : Option Addr) (c' : Nat), 2 * k ≤ s.length ∧ gk = s.length / 2 - k ∧ x = .int .i64 (2 * (k : Int)) ∧ W.heap[b]? = some (.cells #[.int .i64 (songR f), .int .i64 (songC f), .slice A' k c'] 60 (0, 0)) ∧ W.ownsRow w.heap.size 109 1 (.slice A' k c') k (nums .i16 (smpD s k)) ∧ W.heap[w.heap.size]? = some (.cells #[.int .i64 0, .int .i64 0, .slice none 0 0] 60 (0, 0)) ∧ Below w.heap.size w W)
      case atStart => exact ⟨0, none, 0, by omega, by omega, rfl, hxb, World.ownsRow_nil _ _ _ _, hxw, hbw⟩
      case round =>
        clear hxb hxw hbw
        obtain ⟨k, A', c', hk, rfl, rfl, hxb, hown, hxw, hb⟩ := hrel
        have c0 := blk_cell hxb 0
        have c1 := blk_cell hxb 1
        have c2 := blk_cell hxb 2
        by_cases hlt : 2 * k < s.length
        · obtain ⟨A2, u3, u4⟩ := cut8 B d s (2 * (k : Int)) (2 * (k : Int) + 2) (by omega) (by omega) (by omega) hd
          rw [show (2 * (k : Int) + 2).toNat = 2 * k + 2 from by omega, show (2 * (k : Int)).toNat = 2 * k from by omega, Nat.add_sub_cancel_left] at u3 u4
          generalize d - 2 * k = d2 at u3
          have TG : ∀ W, Below wr.heap.size wr W → Calls Try.prog 81 #[.slice A2 2 d2] W fun e w' => e = .returned (.int .i64 (leV ((s.take (2 * k + 2)).drop (2 * k)))) ∧ w' = W := fun W h => get_any A2 2 _ _ W (by decide) ((HBB.out.2.take _).drop _) (u4 W ((HFS.out.2.below hb).below h))
          have hV0 := leV_lt ((HBB.out.2.take (2 * k + 2)).drop (2 * k))
          rw [show ((s.take (2 * k + 2)).drop (2 * k)).length = 2 from by rw [List.length_drop, List.length_take]; omega] at hV0
          have HSS := Lib.hid (smpD_succ s k)
          have hsl := smpD_length s k
          generalize leV ((s.take (2 * k + 2)).drop (2 * k)) = V at TG hV0 HSS
          have hV : V < 65536 := hV0
          have e16 := wrap16 V hV
          generalize i16 V = X at e16 HSS
          have HTG := Lib.hid TG
          have e2 : IntKind.i64.wrap (2 * (k : Int) + 2) = 2 * (k : Int) + 2 := IntWalk.i64_in _ (by omega)
          have d1 : decide (2 * (k : Int) < (s.length : Int)) = true := decide_eq_true (by omega)
          have HNE := Lib.hid (own_ne hown hxb (by decide))
          have HNW := Lib.hid (own_ne hown hxw (by decide))
          generalize smpD s k = L at hown HSS hsl
          have x0 := fun o => pw_cell_below (ba (br wr) o) c2
          clear u4 TG hV0 hsl
          go_upto_region 7 with fail
          go_region_law (first
            | (refine step_quiet rfl 81 (.tmp 39) #[37] rfl Try.call81 (.slice A2 2 d2) rfl (.int .i64 V) (HTG.out wr.drew (bd (br _))) ?_)
            | ((refine step_append_cells (W := wr.drew) w.heap.size rfl (.tmp 34) (.tmp 42) 56 109 (.int .i16 0) 1 2 rfl Try.underlying56 info16 rfl (by decide) (by decide) _ k (nums .i16 L) [.int .i16 X] rfl rfl rfl (by intro u hu; simp only [List.mem_singleton] at hu; subst hu; rfl) (own_drew hown) (below_drew hb) hb.size (by omega) ?_); intro v1 w3 hown3 hB3 hg3 hat3; have k2 := (blk_grown (w := wr.drew) hxb hg3 HNE.out); have kw := (blk_grown (w := wr.drew) hxw hg3 HNW.out); have kc := blk_cell k2 2; have k3 := blk_frozen k2 2; obtain ⟨A3, c3, rfl⟩ := own_slice hown3))
          all_goals
            go_wp2
            go_roundg (s.length / 2 - (k + 1))
            case measure => omega
            case rel =>
              refine ⟨k + 1, A3, c3, by omega, rfl, by congr 1, (blk_set k2 2 _).trans rfl, ?_, (Below.heap_setCell w3 ⟨b, 2, none⟩ _ _ (by show w.heap.size ≠ b; omega)).trans kw, hB3.setCell (p := ⟨b, 2, none⟩) (by show w.heap.size ≤ b; omega) _⟩
              rw [HSS.out, nums_append]
              exact own_setCell hown3 (own_ne hown3 k2 (by decide)) _
        · have hkk : s.length / 2 = k := by omega
          have HKK := Lib.hid hkk
          have d1 : decide (2 * (k : Int) < (s.length : Int)) = false := decide_eq_false (by omega)
          have hxl : (songS s).length = k := by unfold songS; rw [smpD_length, hkk]
          have hxs : smpD s k = songS s := by unfold songS; rw [hkk]
          rw [hxs] at hown
          have HP : Hid (songP f s = if May (songR f) (songC f) k ∧ formL (songR f) (songC f) = f then some (songR f, songC f, songS s) else none) := by
            show _ = _
            unfold songP
            rw [hxl]
            by_cases hm : May (songR f) (songC f) k ∧ formL (songR f) (songC f) = f
            · rw [if_pos hm, if_pos ⟨H16.out.1, H16.out.2, hm⟩]
            · rw [if_neg hm, if_neg (fun h => hm h.2.2)]
          have HXL := Lib.hid hxl
          clear hkk hxl hxs
          generalize songS s = xs at hown HP HXL
          generalize songR f = R at hxb c0 HP
          generalize songC f = C at hxb c1 HP hC0
          have T := check_any R C A' k c' wr (by omega)
          rcases Classical.em (¬ May R C k) with hm | hm
          · have HN : Hid (songP f s = none) := by show _ = _; rw [HP.out, if_neg (fun h => hm h.1)]
            rw [decide_eq_false hm] at T
            simp only [Bool.false_eq_true, if_false] at T
            clear hm HP hC0
            go_wp2_with fail
            refine T.mono ?_
            rintro e w4 ⟨rfl, hb4⟩
            have hz4 := (hb4.block _ (blk_lt hxw)).trans hxw
            have x0 := blk_cell hz4 0
            have x1 := blk_cell hz4 1
            have x2 := blk_cell hz4 2
            have t0 := blk_frozen hz4 0
            have t1 := blk_frozen hz4 1
            have t2 := blk_frozen hz4 2
            have hbw4 := bt hb hb4
            clear T c0 c1 c2
            go_wp2
            exact bodyPost_ret (v := .tuple #[.agg #[.int .i64 0, .int .i64 0, .slice none 0 0], .bool false]) (results_ct Try.results72 _ _ w.heap.size _ _ _ _ rfl (set3 hz4 _ _ _) Try.underlying60 rfl (by kernel_rfl)) rfl (by rw [HN.out]; exact ⟨rfl, below3 hbw4 (Nat.le_refl _) _ _ _⟩)
          · replace hm := Classical.not_not.1 hm
            rw [decide_eq_true hm] at T
            simp only [if_true] at T
            have HM := Lib.hid hm
            clear hm
            go_wp2_with fail
            refine T.mono ?_
            rintro e w4 ⟨rfl, hb4⟩
            have hz4 := (hb4.block _ (blk_lt hxw)).trans hxw
            have hs4 := (hb4.block _ (blk_lt hxb)).trans hxb
            have y0 := blk_cell hs4 0
            have y1 := blk_cell hs4 1
            have y2 := blk_cell hs4 2
            have hbw4 := bt hb hb4
            have hown4 := pw_own_below hown hb4
            clear T c0 c1 c2 hxw hxb hown
            have TF := form_any R C A' k c' w4 ⟨HM.out.2.1, HM.out.2.2.1⟩ (by have := HM.out.1; omega)
            go_wp2_with fail
            refine TF.mono ?_
            rintro e w5 ⟨v5, rfl, hown5, hb5⟩
            obtain ⟨A5, c5, rfl, hr5⟩ := own_reads hown5
            rw [formL_length] at hr5 hown5
            have TE := equal_any A5 A _ f.length c5 c (formL R C) f w5 hr5 (HFS.out.1.below (bt hbw4 hb5))
            have hz5 := (hb5.block _ (blk_lt hz4)).trans hz4
            have hs5 := (hb5.block _ (blk_lt hs4)).trans hs4
            have hbw5 := bt hbw4 hb5
            have hown6 := pw_own_below hown4 hb5
            have HH := Lib.hid (And.intro hz5 (And.intro hs5 (And.intro hbw5 hown6)))
            rw [formL_length]
            clear hown4 hz5 hs5 hbw5 hown6 hown5 hr5 TF hz4 hs4 hbw4
            rcases Classical.em (¬ formL R C = f) with he | he
            · have HN : Hid (songP f s = none) := by show _ = _; rw [HP.out, if_neg (fun h => he h.2)]
              rw [decide_eq_false he] at TE
              clear he HP
              go_wp2_with fail
              refine TE.mono ?_
              rintro e w6 ⟨rfl, hb6⟩
              obtain ⟨hz5, hs5, hbw5, hown6⟩ := HH.out
              have hz6 := (hb6.block _ (blk_lt hz5)).trans hz5
              have x0 := blk_cell hz6 0
              have x1 := blk_cell hz6 1
              have x2 := blk_cell hz6 2
              have t0 := blk_frozen hz6 0
              have t1 := blk_frozen hz6 1
              have t2 := blk_frozen hz6 2
              have hbw6 := bt hbw5 hb6
              clear TE hz5 hs5 hbw5 hown6 y0 y1 y2
              go_wp2
              exact bodyPost_ret (v := .tuple #[.agg #[.int .i64 0, .int .i64 0, .slice none 0 0], .bool false]) (results_ct Try.results72 _ _ w.heap.size _ _ _ _ rfl (set3 hz6 _ _ _) Try.underlying60 rfl (by kernel_rfl)) rfl (by rw [HN.out]; exact ⟨rfl, below3 hbw6 (Nat.le_refl _) _ _ _⟩)
            · replace he := Classical.not_not.1 he
              have HN : Hid (songP f s = some (R, C, xs)) := by show _ = _; rw [HP.out, if_pos ⟨HM.out, he⟩]
              rw [decide_eq_true he] at TE
              clear he HP
              go_wp2_with fail
              refine TE.mono ?_
              rintro e w6 ⟨rfl, hb6⟩
              obtain ⟨hz5, hs5, hbw5, hown6⟩ := HH.out
              have hz6 := (hb6.block _ (blk_lt hz5)).trans hz5
              have hs6 := (hb6.block _ (blk_lt hs5)).trans hs5
              have hown7 := pw_own_below hown6 hb6
              have x0 := blk_cell hz6 0
              have x1 := blk_cell hz6 1
              have x2 := blk_cell hz6 2
              have t0 := blk_frozen hz6 0
              have t1 := blk_frozen hz6 1
              have t2 := blk_frozen hz6 2
              have q0 := blk_cell hs6 0
              have q1 := blk_cell hs6 1
              have q2 := blk_cell hs6 2
              have hbw6 := bt hbw5 hb6
              have HNW := Lib.hid (own_ne hown7 hz6 (by decide))
              clear TE hz5 hs5 hbw5 hown6 y0 y1 y2 hs6
              go_wp2
              exact bodyPost_ret (v := .tuple #[.agg #[.int .i64 R, .int .i64 C, .slice A' k c'], .bool true]) (results_ct Try.results72 _ _ w.heap.size _ _ _ _ rfl (set3 hz6 _ _ _) Try.underlying60 rfl (by kernel_rfl)) rfl (by
                rw [HN.out]
                refine ⟨A', c', by rw [HXL.out], ?_, below3 hbw6 (Nat.le_refl _) _ _ _⟩
                rw [HXL.out]
                exact own_setCell (own_setCell (own_setCell hown7 HNW.out _) HNW.out _) HNW.out _)
  · have HN : songP f s = none := by unfold songP; rw [if_neg (fun h => by have := h.2.1; omega)]
    rw [HN]
    have b0 : ((f.length : Int) != 16) = false := bne_eq_false_iff_eq.2 (by omega)
    have b1 : (s.length : Int) % 2 = 1 := by omega
    clear h16 HN hBf hBs h2
    go_enter Try.func72, Try.ntmps72
    go_wp2
    exact bodyPost_ret (v := .tuple #[.agg #[.int .i64 0, .int .i64 0, .slice none 0 0], .bool false]) (results_ct Try.results72 _ _ w.heap.size _ _ _ _ rfl hz0 Try.underlying60 rfl (by kernel_rfl)) rfl ⟨rfl, ba (br w) _⟩
end Go.Proofs.Ytcjnfdhdcoobgaa.Rif
