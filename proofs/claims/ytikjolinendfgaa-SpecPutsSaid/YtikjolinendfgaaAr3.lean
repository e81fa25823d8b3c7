/- A coder in memory; the walks of the package arith: NewCoder, add, tell, step. -/
import Derived.Test.YtikjolinendfgaaAr2
set_option linter.unusedVariables false
set_option linter.unusedSimpArgs false
namespace Go.Proofs.Ytikjolinendfgaa.Ari
open Go.RowKit Go.Proofs.YtikjolinendfgaaW.PrintWords Go.Proofs.YtikjolinendfgaaW.PrintLast Go.Proofs.YtikjolinendfgaaW.PrintMore Go.Proofs.Ytikjolinendfgaa.Bit

theorem info8 : (Try.prog.info? 5).map (fun i => (i.zero, i.size, i.bytes)) = some (some (.int .u8 0), 1, 1) := by kernel_rfl
def rowN (n : Nat) : Nat := (n + 7) / 8
/-- a coder at block g, v its row of bytes -/
structure CoAt (W : World) (g : Nat) (lo hi : Int) (ow : Nat) (en : Bool) (n : Nat) (O : Nat → Bool) (v : Value) : Prop where
  at_ : W.heap[g]? = some (.cells #[.int .i64 lo, .int .i64 hi, .int .i64 ow, .bool en, .int .i64 n, v] 78 (0, 0))
  own : W.ownsRow (g + 1) 5 1 v (rowN n) (nums .u8 (bytesL O (rowN n)))
  free : ∀ i, n ≤ i → O i = false
/-- what a call on the coder may change: its block, its row, what is new -/
structure Fr (g : Nat) (v v' : Value) (W W' : World) : Prop where
  below : Below g W W'
  keep : KeepBut W W' g v.ownBlock
  at_ : v'.ownBlock = v.ownBlock ∨ ∃ b, v'.ownBlock = some b ∧ W.heap.size ≤ b
theorem Fr.refl (g : Nat) (v : Value) (W : World) : Fr g v v W W := ⟨Below.refl _ _, KeepBut.refl _ _ _, .inl rfl⟩
theorem Fr.trans {g : Nat} {v v1 v2 : Value} {W W1 W2 : World} (h : Fr g v v1 W W1) (k : Fr g v1 v2 W1 W2) : Fr g v v2 W W2 :=
  ⟨h.below.trans k.below, h.keep.trans k.keep h.at_, by
    rcases k.at_ with e | ⟨b, e, hb⟩
    · rw [e]; exact h.at_
    · exact .inr ⟨b, e, Nat.le_trans h.keep.1 hb⟩⟩
theorem Fr.drewN {g : Nat} {v v1 : Value} {W W1 : World} (h : Fr g v v1 W W1) (k : Nat) : Fr g v v1 W (W1.drewN k) := ⟨pw_below_drewN h.below k, h.keep, h.at_⟩
theorem Fr.set {g : Nat} {v v1 : Value} {W W1 : World} (h : Fr g v v1 W W1) (o : Nat) (u : Value) : Fr g v v1 W (W1.setCell ⟨g, o, none⟩ u) := ⟨h.below.setCell (p := ⟨g, o, none⟩) (Nat.le_refl _) u, h.keep.set_ o u, h.at_⟩
theorem Fr.row {g q : Nat} {v v1 : Value} {W W1 : World} (h : Fr g v v1 W W1) (hq : v1.ownBlock = some q) (o : Nat) (u : Value) (hg : g ≤ q) : Fr g v v1 W (W1.setCell ⟨q, o, none⟩ u) :=
  ⟨h.below.setCell (p := ⟨q, o, none⟩) hg u, ⟨by simpa using h.keep.1, fun i hi h1 h2 => (Below.heap_setCell W1 ⟨q, o, none⟩ u i (fun e => by
    subst e
    rcases h.at_ with e | ⟨b, e, hb⟩
    · exact h2 (by rw [← e, hq])
    · rw [hq] at e; injection e with e; omega)).trans (h.keep.2 i hi h1 h2)⟩, h.at_⟩
section
variable {W : World} {g : Nat} {lo hi : Int} {ow : Nat} {en : Bool} {n : Nat} {O : Nat → Bool} {v : Value}
theorem CoAt.c0 (h : CoAt W g lo hi ow en n O v) : W.cell? ⟨g, 0, none⟩ = some (.int .i64 lo) := (blk_cell h.at_ 0).trans rfl
theorem CoAt.c1 (h : CoAt W g lo hi ow en n O v) : W.cell? ⟨g, 1, none⟩ = some (.int .i64 hi) := (blk_cell h.at_ 1).trans rfl
theorem CoAt.c2 (h : CoAt W g lo hi ow en n O v) : W.cell? ⟨g, 2, none⟩ = some (.int .i64 ow) := (blk_cell h.at_ 2).trans rfl
theorem CoAt.c3 (h : CoAt W g lo hi ow en n O v) : W.cell? ⟨g, 3, none⟩ = some (.bool en) := (blk_cell h.at_ 3).trans rfl
theorem CoAt.c4 (h : CoAt W g lo hi ow en n O v) : W.cell? ⟨g, 4, none⟩ = some (.int .i64 n) := (blk_cell h.at_ 4).trans rfl
theorem CoAt.c5 (h : CoAt W g lo hi ow en n O v) : W.cell? ⟨g, 5, none⟩ = some v := (blk_cell h.at_ 5).trans rfl
theorem CoAt.fr (h : CoAt W g lo hi ow en n O v) (o : Nat) : W.frozen? ⟨g, o, none⟩ = false := blk_frozen h.at_ o
theorem CoAt.ne (h : CoAt W g lo hi ow en n O v) : some g ≠ v.ownBlock := own_ne h.own h.at_ (by decide)
theorem CoAt.drewN (h : CoAt W g lo hi ow en n O v) (k : Nat) : CoAt (W.drewN k) g lo hi ow en n O v := ⟨h.at_, own_move h.own fun _ _ => rfl, h.free⟩
theorem CoAt.drew (h : CoAt W g lo hi ow en n O v) : CoAt W.drew g lo hi ow en n O v := ⟨h.at_, own_move h.own fun _ _ => rfl, h.free⟩
theorem CoAt.s0 (h : CoAt W g lo hi ow en n O v) (x : Int) : CoAt (W.setCell ⟨g, 0, none⟩ (.int .i64 x)) g x hi ow en n O v := ⟨(blk_set h.at_ _ _).trans rfl, own_setCell h.own h.ne _, h.free⟩
theorem CoAt.s1 (h : CoAt W g lo hi ow en n O v) (x : Int) : CoAt (W.setCell ⟨g, 1, none⟩ (.int .i64 x)) g lo x ow en n O v := ⟨(blk_set h.at_ _ _).trans rfl, own_setCell h.own h.ne _, h.free⟩
theorem CoAt.s2 (h : CoAt W g lo hi ow en n O v) (x : Nat) : CoAt (W.setCell ⟨g, 2, none⟩ (.int .i64 (x : Int))) g lo hi x en n O v := ⟨(blk_set h.at_ _ _).trans rfl, own_setCell h.own h.ne _, h.free⟩
theorem CoAt.s3 (h : CoAt W g lo hi ow en n O v) (x : Bool) : CoAt (W.setCell ⟨g, 3, none⟩ (.bool x)) g lo hi ow x n O v := ⟨(blk_set h.at_ _ _).trans rfl, own_setCell h.own h.ne _, h.free⟩
theorem CoAt.span (h : CoAt W g lo hi ow en n O v) (l wd : Nat) (h1 : lo = l) (h2 : hi = (l : Int) + wd - 1) : SpanAt W g l wd := ⟨by rw [h.c0, h1], by rw [h.c1, h2], h.fr 0, h.fr 1⟩
end
theorem newCoder_any (w : World) : Calls Try.prog 14 #[] w fun e w' => e = .returned (.pointer (some ⟨w.heap.size, 0, none⟩)) ∧ CoAt w' w.heap.size 0 65535 0 false 0 (fun _ => false) (.slice none 0 0) ∧ Below w.heap.size w w' := by
  go_enter Try.func14, Try.ntmps14
  go_wp2
  go_ret
  exact ⟨rfl, ⟨heap_alloc_new w _, World.ownsRow_nil _ _ _ _, fun _ _ => rfl⟩, ba (br w) _⟩
theorem bits_or8 (a b : Nat) (ha : a < 256) (hb : b < 256) : bits .or .u8 (a : Int) (b : Int) = ((a ||| b : Nat) : Int) := by
  have ha' : a % 2 ^ IntKind.u8.bits = a := Nat.mod_eq_of_lt ha
  have hb' : b % 2 ^ IntKind.u8.bits = b := Nat.mod_eq_of_lt hb
  have hx : a ||| b < 2 ^ 8 := Nat.or_lt_two_pow ha hb
  simp only [bits, BitVec.ofInt_natCast, BitVec.toNat_or, BitVec.toNat_ofNat, ha', hb']
  rw [IntKind.wrap_u8]; omega
/-- one more byte -/
theorem row_grow (O : Nat → Bool) (n : Nat) (hf : ∀ i, n ≤ i → O i = false) (h8 : n % 8 = 0) : bytesL O (rowN (n + 1)) = bytesL O (rowN n) ++ [0] := by
  have e1 : rowN (n + 1) = rowN n + 1 := by unfold rowN; omega
  have e2 : byteN O (rowN n) = 0 := by
    unfold byteN rowN
    have h0 : O (8 * ((n + 7) / 8)) = false := hf _ (by omega)
    have h1 : ∀ k, O (8 * ((n + 7) / 8) + k) = false := fun k => hf _ (by omega)
    simp [h0, h1]
  unfold bytesL
  rw [e1, List.range_succ, List.map_append]
  simp [e2]
theorem row_same (n : Nat) (h8 : n % 8 ≠ 0) : rowN (n + 1) = rowN n := by unfold rowN; omega
theorem put_row {W : World} {base g m cap : Nat} {xs : List Int} (h : W.ownsRow base 5 1 (.slice (some ⟨g, 0, none⟩) m cap) m (nums .u8 xs)) (i : Nat) (x : Int) :
    (W.setCell ⟨g, i, none⟩ (.int .u8 x)).ownsRow base 5 1 (.slice (some ⟨g, 0, none⟩) m cap) m (nums .u8 (xs.set i x)) := by
  have hl : xs.length = m := by have := h.1; rw [nums_length] at this; omega
  subst hl
  have h2 := own_put h (i : Int) x
  rw [Int.toNat_natCast, List.length_set] at h2
  exact h2
set_option maxRecDepth 100000 in
set_option maxHeartbeats 2000000 in
theorem add_any (g : Nat) (lo hi : Int) (ow : Nat) (en : Bool) (n : Nat) (O : Nat → Bool) (v : Value) (bit : Bool) (w : World) (h : CoAt w g lo hi ow en n O v) (hn : n ≤ 100000000) :
    Calls Try.prog 63 #[.pointer (some ⟨g, 0, none⟩), .int .i64 (bit.toNat : Int)] w fun e w' => e = .returned (.tuple #[]) ∧ ∃ v', CoAt w' g lo hi ow en (n + 1) (setb O n bit) v' ∧ Fr g v v' w w' := by
  have hgw := blk_lt h.at_
  have hfree := Lib.hid h.free
  go_enter Try.func63, Try.ntmps63
  have c4 := h.c4
  have c5 := h.c5
  have f5 := h.fr 5
  have HH := Lib.hid h
  clear h
  go_upto_if 9 with fail
  go_cut [] (fun W => ∃ v2, W.heap[g]? = some (.cells #[.int .i64 lo, .int .i64 hi, .int .i64 ow, .bool en, .int .i64 n, v2] 78 (0, 0)) ∧ W.ownsRow (g + 1) 5 1 v2 (rowN (n + 1)) (nums .u8 (bytesL O (rowN (n + 1)))) ∧ Fr g v v2 w W)
  case first =>
    rcases Classical.em (n % 8 = 0) with h8 | h8
    · have hv : (n : Int) % 8 = 0 := by omega
      have HG := Lib.hid (row_grow O n hfree.out h8)
      have hrl : rowN n ≤ 100000000 := by unfold rowN; omega
      have hr1 : rowN (n + 1) = rowN n + 1 := by unfold rowN; omega
      have HR1 := Lib.hid hr1
      have hown := HH.out.own
      have hgs : g + 1 ≤ w.heap.size := hgw
      obtain ⟨A5, c6, rfl⟩ := own_slice hown
      clear hr1 h8
      go_wp2_with (at_builtin; go_loud (refine print_append_cells (w0 := w) (g + 1) rfl (.tmp 14) (.tmp 15) 41 5 (.int .u8 0) 1 1 rfl Try.underlying41 info8 rfl (by decide) (by decide) _ (rowN n) (nums .u8 (bytesL O (rowN n))) [.int .u8 0] rfl rfl rfl (by intro u hu; simp only [List.mem_singleton] at hu; subst hu; rfl) hown (Below.refl _ _) hgs (by omega) ?_); intro v6 w6 hown6 hb6 hg6 hat6; have k2 := blk_grown HH.out.at_ hg6 HH.out.ne; have kc := blk_cell k2 5; have kf := blk_frozen k2 5; obtain ⟨A6, c7, rfl⟩ := own_slice hown6)
      go_meet
      refine ⟨_, (blk_set k2 5 _).trans rfl, ?_, ⟨(hb6.mono (Nat.le_succ g)).setCell (p := ⟨g, 5, none⟩) (Nat.le_refl _) _, (KeepBut.of_grown hg6 g).set_ 5 _, hat6⟩⟩
      rw [HG.out, HR1.out, nums_append]
      exact own_setCell hown6 (own_ne hown6 k2 (by decide)) _
    · have hv : ((n : Int) % 8 == 0) = false := beq_eq_false_iff_ne.2 (by omega)
      have HR1 := Lib.hid (row_same n h8)
      clear h8
      go_wp2
      go_meet
      exact ⟨v, HH.out.at_, by rw [HR1.out]; exact HH.out.own, Fr.refl _ _ _⟩
  case rest =>
    obtain ⟨v2, hat, hown, hfr⟩ := hcut
    have hr1 : 0 < rowN (n + 1) := by unfold rowN; omega
    have hnr : n / 8 < rowN (n + 1) := by unfold rowN; omega
    obtain ⟨q, cq, rfl, hqg⟩ : ∃ q cq, v2 = .slice (some ⟨q, 0, none⟩) (rowN (n + 1)) cq ∧ g + 1 ≤ q := by
      rcases hown.2 with ⟨h1, h2⟩ | ⟨g', cap, cur, h1, h2, -, -, -, -, -⟩
      · omega
      · exact ⟨g', cap, h1, h2⟩
    obtain ⟨y1, y2⟩ := own_at hown ((n / 8 : Nat) : Int) (by omega) (by omega)
    rw [Int.toNat_natCast] at y1 y2
    have hrd : rd (bytesL O (rowN (n + 1))) ((n / 8 : Nat) : Int) = (byteN O (n / 8) : Int) := by
      unfold rd
      rw [Int.toNat_natCast]
      exact bytesL_at O _ _ hnr
    rw [hrd] at y1
    have c4' := blk_cell hat 4
    have c5' := blk_cell hat 5
    have f4 := blk_frozen hat 4
    have hby := byteN_lt O (n / 8)
    have hset : Hid ((bytesL O (rowN (n + 1))).set (n / 8) ((byteN O (n / 8) ||| 2 ^ (7 - n % 8) : Nat) : Int) = bytesL (setb O n true) (rowN (n + 1))) := bytesL_set O _ n (by unfold rowN; omega)
    obtain ⟨j, hj⟩ : ∃ j, j = n / 8 := ⟨_, rfl⟩
    obtain ⟨r, hr⟩ : ∃ r, r = 7 - n % 8 := ⟨_, rfl⟩
    rw [← hj, ← hr] at hset
    rw [← hj] at y1 y2 hnr hby
    have e1 : IntKind.i64.wrap ((n : Int).tdiv 8) = (j : Int) := by rw [hj]; exact div_i64 n 8 (by decide) (by omega)
    have e2 : IntKind.i64.wrap (7 - (n : Int).tmod 8) = (r : Int) := by rw [Int.tmod_eq_emod_of_nonneg (by omega), show 7 - (n : Int) % 8 = (r : Int) from by omega]; exact IntWalk.i64_in _ (by omega)
    have e1' : IntKind.i64.wrap ((n : Int) / 8) = (j : Int) := by rw [show (n : Int) / 8 = (j : Int) from by omega]; exact IntWalk.i64_in _ (by omega)
    have e2' : IntKind.i64.wrap (7 - (n : Int) % 8) = (r : Int) := by rw [show 7 - (n : Int) % 8 = (r : Int) from by omega]; exact IntWalk.i64_in _ (by omega)
    have hr8 : r < 8 := by omega
    have hr0 : (0 : Int) ≤ (r : Int) := by omega
    have hjr : (j : Int) < ((rowN (n + 1) : Nat) : Int) := by omega
    clear hj hr hrd c4 c5 f5
    obtain ⟨m, hm⟩ : ∃ m, m = bit.toNat * 2 ^ r := ⟨_, rfl⟩
    have hm8 : m < 256 := by
      have h1 := toNat_le bit
      have h2 : 2 ^ r ≤ 2 ^ 7 := Nat.pow_le_pow_right (by decide) (by omega)
      have h3 : bit.toNat * 2 ^ r ≤ 1 * 2 ^ 7 := Nat.mul_le_mul h1 h2
      omega
    have e3 : IntKind.i64.wrap ((bit.toNat : Int) * 2 ^ r) = (m : Int) := by
      rw [show (bit.toNat : Int) * 2 ^ r = (m : Int) from by rw [hm]; push_cast; rfl]
      exact IntWalk.i64_in _ (by omega)
    have e4 : IntKind.u8.wrap (m : Int) = (m : Int) := by rw [IntKind.wrap_u8]; omega
    have e5 := bits_or8 (byteN O j) m hby hm8
    have HOR : Hid ((bytesL O (rowN (n + 1))).set j ((byteN O j ||| m : Nat) : Int) = bytesL (setb O n bit) (rowN (n + 1))) := by
      show _ = _
      cases bit with
      | true =>
        have hm1 : m = 2 ^ r := by rw [hm]; simp
        rw [hm1]; exact hset.out
      | false =>
        have hm0 : m = 0 := by rw [hm]; simp
        rw [hm0, Nat.or_zero, setb_same _ _ _ (hfree.out n (Nat.le_refl _))]
        apply List.ext_getElem (by simp)
        intro k h1 h2
        rw [List.getElem_set]
        split
        · rename_i hk
          subst hk
          have := bytesL_at O (rowN (n + 1)) j hnr
          rw [List.getD_eq_getElem?_getD, List.getElem?_eq_getElem h2] at this
          exact this.symm
        · rfl
    have HNEW := Lib.hid (put_row hown j ((byteN O j ||| m : Nat) : Int))
    have HFF := Lib.hid hfr
    have HAT := Lib.hid hat
    generalize byteN O j ||| m = z at e5 HOR HNEW
    clear hm hset hown hat hfr
    go_upto_region 2 with fail
    go_still_tail 22, (by kernel_rfl)
    go_wp2
    go_end0
    have hqg2 : g ≠ q := by omega
    refine ⟨rfl, .slice (some ⟨q, 0, none⟩) (rowN (n + 1)) cq, ⟨?_, ?_, fun i hi => ?_⟩, ?_⟩
    · exact (blk_set (w := wc.setCell ⟨q, j, none⟩ (.int .u8 z)) ((Below.heap_setCell wc ⟨q, j, none⟩ _ _ hqg2).trans HAT.out) 4 _).trans rfl
    · have h := HNEW.out
      rw [HOR.out] at h
      exact own_setCell h (fun e => hqg2 (Option.some.inj e)) _
    · show (if i = n then bit else O i) = false
      rw [if_neg (by omega)]
      exact hfree.out i (by omega)
    · have h := ((HFF.out.row rfl j (.int .u8 z) (show g ≤ q by omega)).set 4 (.int .i64 ((n : Int) + 1))).drewN 1
      exact h
end Go.Proofs.Ytikjolinendfgaa.Ari
