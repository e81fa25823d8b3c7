/- The document's coder in memory; the walk of its tell (arith). -/
import Derived.Test.YtikjolinendfgaaAr6
import Derived.Test.YtikjolinendfgaaPadC
set_option linter.unusedVariables false
set_option linter.unusedSimpArgs false
namespace Go.Proofs.Ytikjolinendfgaa.Ari
open Go.RowKit Go.Proofs.YtikjolinendfgaaW.PrintWords Go.Proofs.YtikjolinendfgaaW.PrintLast Go.Proofs.YtikjolinendfgaaW.PrintMore Go.Proofs.Ytikjolinendfgaa.Bit

/-- bits as numbers -/
def bitsZ (l : List Bool) : List Int := l.map fun b => (b.toNat : Int)
theorem bitsZ_len (l : List Bool) : (bitsZ l).length = l.length := by simp [bitsZ]
theorem bitsZ_snoc (l : List Bool) (b : Bool) : bitsZ (l ++ [b]) = bitsZ l ++ [(b.toNat : Int)] := by simp [bitsZ]
/-- the document's coder at block m, v its bits -/
structure RCo (W : World) (m : Nat) (lo wd ow : Nat) (en : Bool) (l : List Bool) (v : Value) : Prop where
  at_ : W.heap[m]? = some (.cells #[.int .i64 lo, .int .i64 wd, .int .i64 ow, .bool en, v] 40 (0, 0))
  own : W.ownsRow (m + 1) 3 1 v (bitsZ l).length (nums .i64 (bitsZ l))
section
variable {W : World} {m lo wd ow : Nat} {en : Bool} {l : List Bool} {v : Value}
theorem RCo.c0 (h : RCo W m lo wd ow en l v) : W.cell? ⟨m, 0, none⟩ = some (.int .i64 lo) := (blk_cell h.at_ 0).trans rfl
theorem RCo.c1 (h : RCo W m lo wd ow en l v) : W.cell? ⟨m, 1, none⟩ = some (.int .i64 wd) := (blk_cell h.at_ 1).trans rfl
theorem RCo.c2 (h : RCo W m lo wd ow en l v) : W.cell? ⟨m, 2, none⟩ = some (.int .i64 ow) := (blk_cell h.at_ 2).trans rfl
theorem RCo.c3 (h : RCo W m lo wd ow en l v) : W.cell? ⟨m, 3, none⟩ = some (.bool en) := (blk_cell h.at_ 3).trans rfl
theorem RCo.c4 (h : RCo W m lo wd ow en l v) : W.cell? ⟨m, 4, none⟩ = some v := (blk_cell h.at_ 4).trans rfl
theorem RCo.fr (h : RCo W m lo wd ow en l v) (o : Nat) : W.frozen? ⟨m, o, none⟩ = false := blk_frozen h.at_ o
theorem RCo.ne (h : RCo W m lo wd ow en l v) : some m ≠ v.ownBlock := own_ne h.own h.at_ (by decide)
theorem RCo.drewN (h : RCo W m lo wd ow en l v) (k : Nat) : RCo (W.drewN k) m lo wd ow en l v := ⟨h.at_, own_move h.own fun _ _ => rfl⟩
theorem RCo.drew (h : RCo W m lo wd ow en l v) : RCo W.drew m lo wd ow en l v := ⟨h.at_, own_move h.own fun _ _ => rfl⟩
theorem RCo.s0 (h : RCo W m lo wd ow en l v) (x : Nat) : RCo (W.setCell ⟨m, 0, none⟩ (.int .i64 (x : Int))) m x wd ow en l v := ⟨(blk_set h.at_ _ _).trans rfl, own_setCell h.own h.ne _⟩
theorem RCo.s1 (h : RCo W m lo wd ow en l v) (x : Nat) : RCo (W.setCell ⟨m, 1, none⟩ (.int .i64 (x : Int))) m lo x ow en l v := ⟨(blk_set h.at_ _ _).trans rfl, own_setCell h.own h.ne _⟩
theorem RCo.s2 (h : RCo W m lo wd ow en l v) (x : Nat) : RCo (W.setCell ⟨m, 2, none⟩ (.int .i64 (x : Int))) m lo wd x en l v := ⟨(blk_set h.at_ _ _).trans rfl, own_setCell h.own h.ne _⟩
theorem RCo.s3 (h : RCo W m lo wd ow en l v) (x : Bool) : RCo (W.setCell ⟨m, 3, none⟩ (.bool x)) m lo wd ow x l v := ⟨(blk_set h.at_ _ _).trans rfl, own_setCell h.own h.ne _⟩
/-- one more bit -/
theorem RCo.snoc {w6 : World} {v6 : Value} {x : Int} {bit : Bool} (h : RCo W m lo wd ow en l v) (hx : x = (bit.toNat : Int)) (hown : w6.ownsRow (m + 1) 3 1 v6 (bitsZ l ++ [x]).length (nums .i64 (bitsZ l ++ [x]))) (hb : Below (m + 1) W w6) (hg : W.grownBy w6 v.ownBlock)
    (hat : v6.ownBlock = v.ownBlock ∨ ∃ b, v6.ownBlock = some b ∧ W.heap.size ≤ b) : RCo (w6.setCell ⟨m, 4, none⟩ v6) m lo wd ow en (l ++ [bit]) v6 ∧ Fr m v v6 W (w6.setCell ⟨m, 4, none⟩ v6) := by
  have k2 := blk_grown h.at_ hg h.ne
  refine ⟨⟨(blk_set k2 4 _).trans rfl, ?_⟩, ⟨(hb.mono (Nat.le_succ m)).setCell (p := ⟨m, 4, none⟩) (Nat.le_refl _) _, (KeepBut.of_grown hg m).set_ 4 _, hat⟩⟩
  rw [bitsZ_snoc, ← hx]
  exact own_setCell hown (own_ne hown k2 (by decide)) _
end
set_option maxRecDepth 100000 in
set_option maxHeartbeats 1000000 in
theorem rtell_any (m lo wd ow : Nat) (en : Bool) (l : List Bool) (v : Value) (x y : Int) (bit : Bool) (hx : x = (bit.toNat : Int)) (hy : y = 1 - x) (w : World) (h : RCo w m lo wd ow en l v) (hn : l.length + ow < 100000000) :
    Calls Try.prog 46 #[.pointer (some ⟨m, 0, none⟩), .int .i64 x] w fun e w' => e = .returned (.tuple #[]) ∧ ∃ v', RCo w' m lo wd 0 en (l ++ bit :: List.replicate ow (!bit)) v' ∧ Fr m v v' w w' := by
  have hyb : y = ((!bit).toNat : Int) := by rw [hy, hx]; cases bit <;> rfl
  have e1 : IntKind.i64.wrap (1 - x) = y := by rw [← hy]; exact IntWalk.i64_in _ (by cases bit <;> simp at hyb <;> omega)
  have HY := Lib.hid hyb
  have HX := Lib.hid hx
  have hn1 : (bitsZ l).length + ow < 100000000 := by rw [bitsZ_len]; exact hn
  have HN := Lib.hid hn
  clear hn
  have hown := h.own
  obtain ⟨A5, c5, rfl⟩ := own_slice hown
  have c4 := h.c4
  have f4 := h.fr 4
  have hms : m + 1 ≤ w.heap.size := blk_lt h.at_
  have H := Lib.hid h
  clear hy hyb hx h
  go_enter Try.func46, Try.ntmps46
  go_wp2_with (at_builtin; go_loud (refine print_append_num (w0 := w) (m + 1) rfl (.tmp 8) (.tmp 10) 29 3 .i64 8 rfl Try.underlying29 infoI (by decide) (.slice A5 (bitsZ l).length c5) (bitsZ l) x rfl rfl hown (Below.refl _ _) hms (by omega) ?_); intro v6 w6 hown6 hb6 hg6 hat6; have k2 := blk_grown H.out.at_ hg6 H.out.ne; have kc := blk_cell k2 4; have kf := blk_frozen k2 4; have HS := Lib.hid (H.out.snoc HX.out hown6 hb6 hg6 hat6); rw [show (bitsZ l ++ [x]).length = (bitsZ l).length + 1 from by simp] at hown6; obtain ⟨A6, c6, rfl⟩ := own_slice hown6; clear hown6 hb6 hg6 hat6 k2)
  generalize hw7 : w6.setCell ⟨m, 4, none⟩ (.slice A6 ((bitsZ l).length + 1) c6) = w7 at HS ⊢
  clear hw7 kf kc c4 f4 hown hms
  go_loopg [] ow (fun gk W => ∃ (i : Nat) (v2 : Value), i ≤ ow ∧ gk = ow - i ∧ Hid (RCo W m lo wd (ow - i : Nat) en (l ++ bit :: List.replicate i (!bit)) v2) ∧ Hid (Fr m (.slice A5 (bitsZ l).length c5) v2 w W))
  case atStart => exact ⟨0, _, by omega, rfl, HS.out.1, HS.out.2⟩
  case round =>
    obtain ⟨i, v2, hil, rfl, hC, hF⟩ := hrel
    clear HS
    have c2 := hC.out.c2
    by_cases hlt : i < ow
    · have hown2 := hC.out.own
      obtain ⟨A7, c7, rfl⟩ := own_slice hown2
      have c4 := hC.out.c4
      have f4 := hC.out.fr 4
      have hms2 : m + 1 ≤ wr.heap.size := blk_lt hC.out.at_
      have hbl : (bitsZ (l ++ bit :: List.replicate i (!bit))).length < 100000000 := by rw [bitsZ_len]; have := HN.out; simp; omega
      have HL2 : Hid (l ++ bit :: List.replicate (i + 1) (!bit) = (l ++ bit :: List.replicate i (!bit)) ++ [!bit]) := by show _ = _; simp [List.replicate_succ']
      have hpos : (0 : Int) < ((ow - i : Nat) : Int) := by omega
      generalize l ++ bit :: List.replicate i (!bit) = L at hC hF hown2 c4 hbl HL2
      go_wp2_with (at_builtin; go_loud (refine print_append_num (w0 := wr) (m + 1) rfl (.tmp 23) (.tmp 26) 29 3 .i64 8 rfl Try.underlying29 infoI (by decide) (.slice A7 (bitsZ L).length c7) (bitsZ L) y rfl rfl hown2 (Below.refl _ _) hms2 (by omega) ?_); intro v6 w8 hown6 hb6 hg6 hat6; have k2 := blk_grown hC.out.at_ hg6 hC.out.ne; have kc := blk_cell k2 4; have kf := blk_frozen k2 4; have HS := Lib.hid (hC.out.snoc HY.out hown6 hb6 hg6 hat6); rw [show (bitsZ L ++ [y]).length = (bitsZ L).length + 1 from by simp] at hown6; obtain ⟨A8, c8, rfl⟩ := own_slice hown6; have g2 := HS.out.1.c2; have gf := HS.out.1.fr 2; clear hown6 hb6 hg6 hat6 k2)
      go_roundg (ow - (i + 1))
      case measure => omega
      case rel =>
        refine ⟨i + 1, _, by omega, rfl, ?_, (hF.out.trans HS.out.2).set 2 _⟩
        rw [HL2.out, show ((ow - i : Nat) : Int) - 1 = ((ow - (i + 1) : Nat) : Int) from by omega]
        exact HS.out.1.s2 (ow - (i + 1))
    · obtain rfl : i = ow := by omega
      have hz : ((i - i : Nat) : Int) = 0 := by omega
      rw [hz] at c2
      go_wp2
      go_end0
      refine ⟨rfl, v2, ?_, hF.out⟩
      have := hC.out
      rwa [Nat.sub_self] at this
end Go.Proofs.Ytikjolinendfgaa.Ari
