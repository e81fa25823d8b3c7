/- The walks of the package arith: tell, step of a coder. -/
import Derived.Test.YtikjolinendfgaaAr3
set_option linter.unusedVariables false
set_option linter.unusedSimpArgs false
namespace Go.Proofs.Ytikjolinendfgaa.Ari
open Go.RowKit Go.Proofs.YtikjolinendfgaaW.PrintWords Go.Proofs.YtikjolinendfgaaW.PrintLast Go.Proofs.YtikjolinendfgaaW.PrintMore Go.Proofs.Ytikjolinendfgaa.Bit

def ofL (l : List Bool) (i : Nat) : Bool := l.getD i false
theorem ofL_snoc (l : List Bool) (b : Bool) : setb (ofL l) l.length b = ofL (l ++ [b]) := by
  funext i
  show (if i = l.length then b else l.getD i false) = (l ++ [b]).getD i false
  split
  · rename_i h; subst h; simp
  · rename_i h
    rcases Nat.lt_or_ge i l.length with h1 | h1
    · simp [List.getD_eq_getElem?_getD, List.getElem?_append_left h1]
    · rw [List.getD_eq_getElem?_getD, List.getD_eq_getElem?_getD, List.getElem?_eq_none h1, List.getElem?_eq_none (by simp; omega)]
/-- a coder that told these bits -/
def CL (W : World) (g : Nat) (lo hi : Int) (ow : Nat) (en : Bool) (l : List Bool) (v : Value) : Prop := CoAt W g lo hi ow en l.length (ofL l) v
theorem addL (g : Nat) (lo hi : Int) (ow : Nat) (en : Bool) (l : List Bool) (v : Value) (x : Int) (bit : Bool) (hx : x = (bit.toNat : Int)) (w : World) (h : CL w g lo hi ow en l v) (hn : l.length ≤ 100000000) :
    Calls Try.prog 63 #[.pointer (some ⟨g, 0, none⟩), .int .i64 x] w fun e w' => e = .returned (.tuple #[]) ∧ ∃ v', CL w' g lo hi ow en (l ++ [bit]) v' ∧ Fr g v v' w w' := by
  subst hx
  refine (add_any g lo hi ow en _ _ v bit w h hn).mono ?_
  rintro e w' ⟨he, v', h1, h2⟩
  refine ⟨he, v', ?_, h2⟩
  unfold CL
  rw [← ofL_snoc, List.length_append]
  exact h1
set_option maxRecDepth 100000 in
set_option maxHeartbeats 1000000 in
theorem tell_any (g : Nat) (lo hi : Int) (ow : Nat) (en : Bool) (l : List Bool) (v : Value) (x y : Int) (bit : Bool) (hx : x = (bit.toNat : Int)) (hy : y = 1 - x) (w : World) (h : CL w g lo hi ow en l v) (hn : l.length + ow < 100000000) :
    Calls Try.prog 47 #[.pointer (some ⟨g, 0, none⟩), .int .i64 x] w fun e w' => e = .returned (.tuple #[]) ∧ ∃ v', CL w' g lo hi 0 en (l ++ bit :: List.replicate ow (!bit)) v' ∧ Fr g v v' w w' := by
  have hyb : y = ((!bit).toNat : Int) := by rw [hy, hx]; cases bit <;> rfl
  have e1 : IntKind.i64.wrap (1 - x) = y := by rw [← hy]; exact IntWalk.i64_in _ (by cases bit <;> simp at hyb <;> omega)
  have HY := Lib.hid hyb
  have HX := Lib.hid hx
  clear hy hyb hx
  go_enter Try.func47, Try.ntmps47
  have H := Lib.hid h
  clear h
  go_wp2_with (go_at_call 63; refine (addL g lo hi ow en l v x bit HX.out _ H.out (by omega)).mono ?_; rintro e1 w1 ⟨rfl, v1, h1, hf1⟩)
  have HL := Lib.hid h1
  have HF := Lib.hid hf1
  clear h1 hf1
  go_loopg [] ow (fun gk W => ∃ (i : Nat) (v2 : Value), i ≤ ow ∧ gk = ow - i ∧ Hid (CL W g lo hi (ow - i : Nat) en (l ++ bit :: List.replicate i (!bit)) v2) ∧ Hid (Fr g v v2 w W))
  case atStart => exact ⟨0, v1, by omega, rfl, HL, HF⟩
  case round =>
    obtain ⟨i, v2, hil, rfl, hC, hF⟩ := hrel
    have c2 := CoAt.c2 hC.out
    by_cases hlt : i < ow
    · have hll : (l ++ bit :: List.replicate i (!bit)).length ≤ 100000000 := by simp; omega
      have hpos : (0 : Int) < ((ow - i : Nat) : Int) := by omega
      go_wp2_with (go_at_call 63; refine (addL g lo hi _ en _ v2 y (!bit) HY.out _ hC.out hll).mono ?_; rintro e3 w3 ⟨rfl, v3, h3, hf3⟩; have c3 := CoAt.c2 h3; have f3 := CoAt.fr h3 2)
      go_roundg (ow - (i + 1))
      case measure => omega
      case rel =>
        refine ⟨i + 1, v3, by omega, rfl, ?_, (hF.out.trans hf3).set 2 _⟩
        have h4 := CoAt.s2 h3 (ow - (i + 1))
        show CL _ _ _ _ _ _ _ _
        rw [show l ++ bit :: List.replicate (i + 1) (!bit) = (l ++ bit :: List.replicate i (!bit)) ++ [!bit] from by simp [List.replicate_succ']]
        rw [show ((ow - i : Nat) : Int) - 1 = ((ow - (i + 1) : Nat) : Int) from by omega]
        exact h4
    · obtain rfl : i = ow := by omega
      have hz : ((i - i : Nat) : Int) = 0 := by omega
      rw [hz] at c2
      go_wp2
      go_end0
      refine ⟨rfl, v2, ?_, hF.out⟩
      have := hC.out
      rwa [Nat.sub_self] at this
end Go.Proofs.Ytikjolinendfgaa.Ari
