/- The walk of the statement BitsRead. -/
import Derived.Test.YtcjnfdhdcoobgaaBits5b
set_option linter.unusedVariables false
set_option linter.unusedSimpArgs false
namespace Go.Proofs.Ytcjnfdhdcoobgaa.Bit
open Go.RowKit Go.Proofs.YtcjnfdhdcoobgaaW.PrintWords Go.Proofs.YtcjnfdhdcoobgaaW.PrintLast Go.Proofs.YtcjnfdhdcoobgaaW.PrintMore Go.Proofs.Ytcjnfdhdcoobgaa.Byt

/-- what the document's Get answers at a pad, and how the pad is then -/
def GetC (B0 m n F B : Nat) (O : Nat → Bool) (u : Value) (k : Int) (fr : Bool) (V : Nat) (err : Int) (F' B' : Nat) : Prop :=
  ∀ W : World, RefAt W B0 m (8 * n) F B O u → Calls Try.prog 45 #[.pointer (some ⟨m, 0, none⟩), .int .i64 k, .bool fr] W
    fun e w' => e = .returned (.tuple #[.int .u32 V, .int .i64 err]) ∧ RefAt w' B0 m (8 * n) F' B' O u ∧ RB B0 m u W w'
theorem getC_no {B0 m n F B : Nat} {O : Nat → Bool} {u : Value} {k : Int} {fr : Bool} (hn : n ≤ 100000) (hB : F + B ≤ 8 * n) (he : mayE (8 * n - F - B) k ≠ 0) :
    GetC B0 m n F B O u k fr 0 (mayE (8 * n - F - B) k) F B := fun W h =>
  (rget_no B0 m (8 * n) F B O u k fr W h (by omega) hB he).mono fun e w' ⟨h1, k1, h2⟩ => ⟨h1, by rw [h2]; exact h.drew k1, by rw [h2]; exact (RB.refl _ _ _ _).drew k1⟩
theorem getC_front {B0 m n F B : Nat} {O : Nat → Bool} {u : Value} {k : Nat} (hn : n ≤ 100000) (hB : F + B ≤ 8 * n) (he : mayE (8 * n - F - B) k = 0) :
    GetC B0 m n F B O u k true (readF O F k) 0 (F + k) B := fun W h => rget_front B0 m (8 * n) F B O u k W h (by omega) hB he
theorem getC_back {B0 m n F B : Nat} {O : Nat → Bool} {u : Value} {k : Nat} (hn : n ≤ 100000) (hB : F + B ≤ 8 * n) (he : mayE (8 * n - F - B) k = 0) :
    GetC B0 m n F B O u k false (readB O (8 * n) B k) 0 F (B + k) := fun W h => rget_back B0 m n (8 * n) F B O u k W rfl h (by omega) hB he

theorem RefAt.only {W W' : World} {B0 m N F B b : Nat} {O : Nat → Bool} {u : Value} (h : RefAt W B0 m N F B O u) (k : OnlyB b W W') (hlt : b < B0) : RefAt W' B0 m N F B O u :=
  ⟨(k.block m (blk_lt h.at_) (by have := h.le; intro e; injection e; omega)).trans h.at_, own_move h.own fun i hi => k.block i (own_lt h.own i hi) (by have := own_base h.own i hi; intro e; injection e; omega), h.le⟩
theorem EyeAt.ref {W W' : World} {b n F B B0 c : Nat} {O : Nat → Bool} {A : Option Addr} (h : EyeAt W b n F B O A c) (k : Below B0 W W') (hlt : b < B0) (hA : ∀ ad, A = some ad → 0 < n → ad.block < B0) : EyeAt W' b n F B O A c := by
  refine ⟨(k.block b hlt).trans h.at_, ⟨h.rd.1, h.rd.2.1, fun h0 => ?_⟩, h.ne⟩
  obtain ⟨ad, e, hc⟩ := h.rd.2.2 h0
  refine ⟨ad, e, fun j hj => ?_⟩
  rw [← hc j hj]
  exact World.cell?_of_block (k.block _ (by rw [add_block]; exact hA ad e h0))
theorem EyeAt.in_ {W : World} {b n F B c : Nat} {O : Nat → Bool} {A : Option Addr} (h : EyeAt W b n F B O A c) : ∀ ad, A = some ad → 0 < n → ad.block < W.heap.size := by
  intro ad e h0
  obtain ⟨ad', e', hc⟩ := h.rd.2.2 h0
  rw [e] at e'
  injection e' with e'
  subst e'
  have := World.block_lt_of_cell? W _ (hc 0 h0)
  rwa [add_block] at this
theorem bonly {B b : Nat} {w w1 w2 : World} (h : Below B w w1) (k : OnlyB b w1 w2) (hb : B ≤ b) (hB : B ≤ w1.heap.size) : Below B w w2 := h.grown k hB (fun i e => by cases e; exact hb)

theorem EyeAt.below {W W' : World} {b n F B c : Nat} {O : Nat → Bool} {A : Option Addr} (h : EyeAt W b n F B O A c) (k : Below W.heap.size W W') : EyeAt W' b n F B O A c := h.ref k (blk_lt h.at_) h.in_
set_option maxRecDepth 100000 in
set_option maxHeartbeats 4000000 in
theorem read_walk (Ab : Option Addr) (cb : Nat) (l : List Int) (hlb : Bytes l) (acts : List ActV) (A : Option Addr) (c : Nat) (at_ : Int) (w : World) (hl48 : l.length ≤ 140737488351232) (hat : at_ ≤ 9223372036854775807) (hb : ReadsInt w .u8 Ab l.length l) (hr : ActsAt w A acts) (hc : acts.length ≤ c) :
    Calls Try.prog 11 #[.slice Ab l.length cb, .slice A acts.length c, .int .i64 at_] w fun e w' => e = .returned (.bool true) ∧ Below w.heap.size w w' := by
  have HR := Lib.hid hr
  obtain ⟨O, hO⟩ := bytes_bits l hlb
  obtain ⟨n, hn⟩ : ∃ n, n = l.length := ⟨_, rfl⟩
  rw [← hn] at hb hl48 hO ⊢
  rw [← hO] at hb
  have HB := Lib.hid hb
  clear hr hb hn hO hlb
  go_enter Try.func11, Try.ntmps11
  go_wp2_with fail
  refine (alive _).mono ?_
  rintro e w1 ⟨rfl, hb1⟩
  by_cases hl : acts.length ≤ 100
  · by_cases h2000 : n ≤ 2000
    · by_cases h512 : n ≤ 512
      · go_wp2_with fail
        refine (open_yes Ab n cb O _ h512 (HB.out.below hb1)).mono ?_
        rintro e w2 ⟨eb, A', c', rfl, he2, hb2, heb⟩
        have hb2' := bt hb1 hb2
        go_wp2_with fail
        refine (rof_any Ab n cb O _ (by omega) (HB.out.below hb2')).mono ?_
        rintro e w3 ⟨u, rfl, hr3, hb3⟩
        have hebl := blk_lt he2.at_
        have HA := Lib.hid he2.in_
        have he3 : EyeAt w3 eb n 0 0 O A' c' := he2.ref hb3 hebl he2.in_
        have hb3' := bt hb2' hb3
        have hb1w := hb1.size
        clear he2 hb3 hb2'
        obtain ⟨Au, cu, hu⟩ := hr3.sl
        have r0 := hr3.c0
        rw [hu] at r0
        obtain ⟨bi, hbi⟩ : ∃ bi, bi = bitI O n at_ := ⟨_, rfl⟩
        have HBI := Lib.hid hbi
        have hcase : (∃ p : Nat, at_ = p ∧ p < 8 * n ∧ bi = ((O p).toNat : Int)) ∨ (0 ≤ at_ ∧ decide (at_ < 8 * (n : Int)) = false ∧ bi = 0) ∨ (at_ < 0 ∧ bi = 0) := by
          by_cases g0 : 0 ≤ at_
          · by_cases g1 : at_ < 8 * (n : Int)
            · exact .inl ⟨at_.toNat, by omega, by omega, by rw [hbi]; exact if_pos ⟨g0, g1⟩⟩
            · exact .inr (.inl ⟨g0, decide_eq_false g1, by rw [hbi]; exact if_neg (by omega)⟩)
          · exact .inr (.inr ⟨by omega, by rw [hbi]; exact if_neg (by omega)⟩)
        clear hbi
        have hform : 0 < n → ∃ g, Au = some ⟨g, 0, none⟩ ∧ ∀ p, p < 8 * n → w3.cell? ⟨g, p, none⟩ = some (.int .i64 ((O p).toNat : Int)) := fun h0 => by
          subst hu
          obtain ⟨gu, cap, e2, -, -, -⟩ := hr3.form (by omega)
          simp only [Value.slice.injEq] at e2
          obtain ⟨rfl, -, rfl⟩ := e2
          exact ⟨gu, rfl, fun p hp => (hr3.bit p hp).1⟩
        have HFORM := Lib.hid hform
        clear hform hu
        rcases hcase with ⟨p, hp, hpn, hbv⟩ | ⟨g0, g1, hbv⟩ | ⟨g0, hbv⟩
        case' inl =>
          subst hp
          obtain ⟨gu, rfl, hcell⟩ := HFORM.out (by omega)
          have y1 := hcell p hpn
          rw [← hbv] at y1
          replace hbv : Hid (bi = ((O p).toNat : Int)) := hbv
          have g1 : decide ((p : Int) < 8 * (n : Int)) = true := decide_eq_true (by omega)
          have g2 : decide (p < 8 * n) = true := decide_eq_true hpn
          have g3 : decide ((0 : Int) ≤ p) = true := decide_eq_true (by omega)
          clear hcell
        case' inr.inl => subst hbv
        case' inr.inr => subst hbv
        all_goals
          go_wp2
          clear r0
          have heb2 : w.heap.size ≤ eb := by omega
          have hb2w := hb2.size
          have hw2w : w.heap.size ≤ w2.heap.size := by omega
          go_loopg [11] acts.length (fun gk x W => ∃ i F B : Nat, i ≤ acts.length ∧ gk = acts.length - i ∧ x = .int .i64 i ∧ EyeAt W eb n F B O A' c' ∧ RefAt W w2.heap.size w2.heap.size (8 * n) F B O u ∧ F + B ≤ 8 * n ∧ Below w.heap.size w W)
          case atStart => exact ⟨0, 0, 0, by omega, by omega, rfl, he3, hr3, by omega, hb3'⟩
          case round =>
            obtain ⟨i, F, B, hi, rfl, rfl, hE, hR, hs, hbw⟩ := hrel
            by_cases hlt : i < acts.length
            · obtain ⟨hv, ad, rfl, x0, x1, x2⟩ := HR.out i hlt
              generalize acts[i] = act at hv x0 x1 x2
              obtain ⟨back, v, k⟩ := act
              simp only at hv x0 x1 x2
              have y0 := pw_cell_below hbw x0
              have y1 := pw_cell_below hbw x1
              have y2 := pw_cell_below hbw x2
              have hn512 : n ≤ 100000 := by omega
              obtain ⟨wx, hwx⟩ : ∃ wx : World, wx = wr.alloc (.cells #[.bool back, .int .u32 v, .int .i64 k] 33) := ⟨_, rfl⟩
              have hex : EyeAt wx eb n F B O A' c' := by rw [hwx]; exact hE.below (ba (br _) _)
              have hrx : RefAt wx w2.heap.size w2.heap.size (8 * n) F B O u := by rw [hwx]; exact hR.below (ba (br _) _)
              have hbx : Below w.heap.size w wx := by rw [hwx]; exact ba hbw _
              have hox : wx.heap[wr.heap.size]? = some (.cells #[.bool back, .int .u32 v, .int .i64 k] 33 (0, 0)) := by rw [hwx]; exact heap_alloc_new _ _
              have hU : Hid (wr.heap.size ≠ eb) := by have := blk_lt hE.at_; show wr.heap.size ≠ eb; omega
              have HWX := Lib.hid hwx
              clear hwx
              go_upto_if 80 with fail
              go_cut [13, 14] (fun x y wx => ∃ (V : Nat) (err : Int) (F' B' : Nat), x = .int .u32 V ∧ y = .int .i64 err ∧ Hid (GetC w2.heap.size w2.heap.size n F B O u k (!back) V err F' B') ∧ EyeAt wx eb n F' B' O A' c' ∧ F' + B' ≤ 8 * n ∧
                RefAt wx w2.heap.size w2.heap.size (8 * n) F B O u ∧ wx.heap[wr.heap.size]? = some (.cells #[.bool back, .int .u32 v, .int .i64 k] 33 (0, 0)) ∧ Below w.heap.size w wx)
              case first =>
                by_cases he : mayE (8 * n - F - B) k = 0
                · obtain ⟨hk0, hk32, hkL⟩ := mayE_ok he
                  obtain ⟨q, rfl⟩ := Int.eq_ofNat_of_zero_le hk0
                  cases back with
                  | true =>
                    have HP := Lib.hid (getC_back (B0 := w2.heap.size) (m := w2.heap.size) (O := O) (u := u) hn512 hs he)
                    have T := eback_any eb n F B O A' c' q wx hex hn512 hs he
                    clear he
                    go_wp2_with fail
                    rw [← HWX.out]
                    refine T.mono ?_
                    rintro e w4 ⟨rfl, he4, h4⟩
                    have hr4 := hrx.only h4 hebl
                    have ho4 := (h4.block _ (blk_lt hox) (by have := hU.out; intro e; injection e; omega)).trans hox
                    have hb4 := bonly hbx h4 heb2 hbx.size
                    clear T
                    go_wp2
                    go_meet
                    exact ⟨_, 0, F, B + q, rfl, rfl, HP, he4, by omega, hr4, ho4, hb4⟩
                  | false =>
                    have HP := Lib.hid (getC_front (B0 := w2.heap.size) (m := w2.heap.size) (O := O) (u := u) hn512 hs he)
                    have T := efront_any eb n F B O A' c' q wx hex hn512 hs he
                    clear he
                    go_wp2_with fail
                    rw [← HWX.out]
                    refine T.mono ?_
                    rintro e w4 ⟨rfl, he4, h4⟩
                    have hr4 := hrx.only h4 hebl
                    have ho4 := (h4.block _ (blk_lt hox) (by have := hU.out; intro e; injection e; omega)).trans hox
                    have hb4 := bonly hbx h4 heb2 hbx.size
                    clear T
                    go_wp2
                    go_meet
                    exact ⟨_, 0, F + q, B, rfl, rfl, HP, he4, by omega, hr4, ho4, hb4⟩
                · have HP := Lib.hid (getC_no (B0 := w2.heap.size) (m := w2.heap.size) (O := O) (u := u) (fr := !back) (k := k) hn512 hs he)
                  cases back with
                  | true =>
                    go_wp2_with fail
                    rw [← HWX.out]
                    refine (eback_no eb n F B O A' c' k _ hex hn512 hs he).mono ?_
                    rintro e w4 ⟨rfl, k4, rfl⟩
                    go_wp2
                    go_meet
                    exact ⟨0, _, F, B, rfl, rfl, HP, hex.drew _, hs, hrx.drew _, hox, bdn hbx _⟩
                  | false =>
                    go_wp2_with fail
                    rw [← HWX.out]
                    refine (efront_no eb n F B O A' c' k _ hex hn512 hs he).mono ?_
                    rintro e w4 ⟨rfl, k4, rfl⟩
                    go_wp2
                    go_meet
                    exact ⟨0, _, F, B, rfl, rfl, HP, hex.drew _, hs, hrx.drew _, hox, bdn hbx _⟩
              case rest =>
                obtain ⟨V, err, F', B', rfl, rfl, HP, he4, hs4, hr4, ho4, hb4⟩ := hcut
                obtain ⟨z0, z1, z2⟩ := Box.cells ho4
                go_wp2_with fail
                refine (HP.out _ hr4).mono ?_
                rintro e w5 ⟨rfl, hr5, hk5⟩
                have he5 : EyeAt w5 eb n F' B' O A' c' := he4.ref hk5.below hebl HA.out
                have hb5 := blow hk5.below hb4 hw2w
                have d1 := hr5.c1
                have d2 := hr5.c2
                go_wp2_with fail
                refine (used_any eb n F' B' O A' c' _ he5).mono ?_
                rintro e w6 ⟨rfl, k6, rfl⟩
                go_wp2_with fail
                refine (eleft_any eb n F' B' O A' c' _ (he5.drew _) hn512 hs4).mono ?_
                rintro e w7 ⟨rfl, k7, rfl⟩
                go_wp2_with fail
                refine (rleft_any _ _ (8 * n) F' B' O u _ (hr5.drew _) (by omega) hs4).mono ?_
                rintro e w8 ⟨rfl, k8, rfl⟩
                have TB := fun k => bit_any eb n F' B' O A' c' _ (w5.drewN k) (he5.drew k) hn512 hat
                rw [← HBI.out] at TB
                go_wp2_with fail
                refine (TB _).mono ?_
                rintro e w9 ⟨rfl, k9, rfl⟩
                clear TB
                go_wp2
                go_roundg (acts.length - (i + 1))
                case measure => omega
                case rel => exact ⟨i + 1, F', B', by omega, rfl, by go_num, he5.drew _, hr5.drew _, hs4, bdn hb5 _⟩
            · go_wp2
              go_ret
              exact ⟨rfl, hbw⟩
      · go_wp2_with fail
        refine (open_long Ab n cb _ (by omega) (by omega)).mono ?_
        rintro e w2 ⟨rfl, rfl⟩
        go_wp2
        go_ret
        exact ⟨rfl, hb1⟩
    · go_wp2
      go_ret
      exact ⟨rfl, hb1⟩
  · go_wp2
    go_ret
    exact ⟨rfl, hb1⟩

theorem read_of (Ab : Option Addr) (n cb : Nat) (acts : List ActV) (A : Option Addr) (c : Nat) (at_ : Int) (w : World) (hex : ∃ l : List Int, l.length = n ∧ ReadsInt w .u8 Ab n l ∧ (∀ x ∈ l, 0 ≤ x ∧ x ≤ 255) ∧ n ≤ cb) (hl48 : n * 1 ≤ 140737488351232) (hat : at_ ≤ 9223372036854775807) (hr : ActsAt w A acts) (hc : acts.length ≤ c) :
    Calls Try.prog 11 #[.slice Ab n cb, .slice A acts.length c, .int .i64 at_] w fun e w' => e = .returned (.bool true) ∧ Below w.heap.size w w' := by
  obtain ⟨l, rfl, h1, h2, -⟩ := hex
  exact read_walk Ab cb l h2 acts A c at_ w (by omega) hat h1 hr hc
end Go.Proofs.Ytcjnfdhdcoobgaa.Bit
