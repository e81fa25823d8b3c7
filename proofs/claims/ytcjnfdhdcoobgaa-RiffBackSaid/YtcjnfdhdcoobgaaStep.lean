/- A call of a function as one step of a region that draws its order, for go_region_law. -/
import Derived.Test.YtcjnfdhdcoobgaaMore
set_option linter.unusedVariables false
namespace Go.Proofs.Ytcjnfdhdcoobgaa
open Go.RowKit
section
variable {P : Program} {ops : Array Oper} {o : Oper} {a : Act} {Q : Exit → Act → World → Prop} {K : Act → World → Prop} {W : World}
theorem step_call (hw : Region.wanted o (yielded ops a.tmps) = true) (f : FuncId) (xs : Array Operand) (tys : Array TypeId)
    (ho : o.op = .call { callee := .value (.func f), args := xs, argTypes := tys }) (hc : ∀ args w, (callFunc f args).run P w = .ok (.enter f args) w) (vs : Array Value) (hx : xs.map a.eval = vs) (R : Ending → World → Prop)
    (h : Calls P f vs W R) (hk : ∀ e w', R e w' → ∃ v, e = .returned v ∧ K (a.put o.dst v) w') :
    if Region.wanted o (yielded ops a.tmps) = true then Oper.wp P o a W K Q else K (a.put o.dst undef) W := by
  rw [if_pos hw]
  have e : execOp a.eval o = callFunc f (#[] ++ xs.map a.eval ++ #[]) := by
    unfold execOp
    rw [ho]
    rfl
  unfold Oper.wp
  rw [e, hc, Oper.upon_enter]
  subst hx
  rw [Array.empty_append, Array.append_empty]
  refine Calls.mono h fun e w' he => ?_
  obtain ⟨v, rfl, hv⟩ := hk e w' he
  exact hv
/-- a call of one argument; the world as it was -/
theorem step_quiet (hw : Region.wanted o (yielded ops a.tmps) = true) (f : FuncId) (x : Operand) (tys : Array TypeId)
    (ho : o.op = .call { callee := .value (.func f), args := #[x], argTypes := tys }) (hc : ∀ args w, (callFunc f args).run P w = .ok (.enter f args) w) (y : Value) (hx : a.eval x = y) (v : Value)
    (h : Calls P f #[y] W fun e w' => e = .returned v ∧ w' = W) (hk : K (a.put o.dst v) W) :
    if Region.wanted o (yielded ops a.tmps) = true then Oper.wp P o a W K Q else K (a.put o.dst undef) W :=
  step_call hw f #[x] tys ho hc #[y] (by rw [← hx]; simp) _ h fun e w' ⟨he, hw'⟩ => ⟨v, he, by rw [hw']; exact hk⟩
/-- a call of one argument -/
theorem step_call1 (hw : Region.wanted o (yielded ops a.tmps) = true) (f : FuncId) (x : Operand) (tys : Array TypeId)
    (ho : o.op = .call { callee := .value (.func f), args := #[x], argTypes := tys }) (hc : ∀ args w, (callFunc f args).run P w = .ok (.enter f args) w) (y : Value) (hx : a.eval x = y) (R : Ending → World → Prop)
    (h : Calls P f #[y] W R) (hk : ∀ e w', R e w' → ∃ v, e = .returned v ∧ K (a.put o.dst v) w') :
    if Region.wanted o (yielded ops a.tmps) = true then Oper.wp P o a W K Q else K (a.put o.dst undef) W :=
  step_call hw f #[x] tys ho hc #[y] (by rw [← hx]; simp) R h hk
/-- a call of two arguments -/
theorem step_call2 (hw : Region.wanted o (yielded ops a.tmps) = true) (f : FuncId) (x x2 : Operand) (tys : Array TypeId)
    (ho : o.op = .call { callee := .value (.func f), args := #[x, x2], argTypes := tys }) (hc : ∀ args w, (callFunc f args).run P w = .ok (.enter f args) w) (y y2 : Value) (hx : a.eval x = y) (hx2 : a.eval x2 = y2) (R : Ending → World → Prop)
    (h : Calls P f #[y, y2] W R) (hk : ∀ e w', R e w' → ∃ v, e = .returned v ∧ K (a.put o.dst v) w') :
    if Region.wanted o (yielded ops a.tmps) = true then Oper.wp P o a W K Q else K (a.put o.dst undef) W :=
  step_call hw f #[x, x2] tys ho hc #[y, y2] (by rw [← hx, ← hx2]; simp) R h hk
open Go.Proofs.YtcjnfdhdcoobgaaW.PrintWords in
/-- append(v, x, y ..): m elements at once -/
theorem step_append_many {w0 : World} (base : Nat) (hw : Region.wanted o (yielded ops a.tmps) = true) (s x : Operand) (t e : TypeId) (z : Value) (size bytes m : Nat)
    (ho : o.op = .call { callee := .builtin .append, args := #[s, x], argTypes := #[t, t] })
    (ht : P.underlying t = some (.slice e)) (hinfo : (P.info? e).map (fun i => (i.zero, i.size, i.bytes)) = some (some z, size, bytes)) (hz : z.cells.size = size) (hs0 : 0 < size) (hb0 : 0 < bytes)
    (v : Value) (n : Nat) (xs ys : List Value) (hs : a.eval s = v) (hx : a.eval x = .slice (some ⟨W.heap.size, 0, none⟩) m m) (hys : ys.length = m * size) (h1 : ∀ u ∈ ys, u.oneCell' = true)
    (HO : W.ownsRow base e size v n xs) (HB : Below base w0 W) (hbase : base ≤ W.heap.size) (hl : (n + m) * bytes ≤ 140737488355328)
    (h : ∀ v1 w1, w1.ownsRow base e size v1 (n + m) (xs ++ ys) → Below base w0 w1 → W.grownBy w1 v.ownBlock → (v1.ownBlock = v.ownBlock ∨ ∃ b, v1.ownBlock = some b ∧ W.heap.size ≤ b) → K (a.put o.dst v1) w1) :
    if Region.wanted o (yielded ops a.tmps) = true then Oper.wp P o a (W.alloc (.cells ys.toArray e)) K Q else K (a.put o.dst undef) (W.alloc (.cells ys.toArray e)) := by
  obtain ⟨i0, hi, hzz⟩ := Option.map_eq_some_iff.1 hinfo
  simp only [Prod.mk.injEq] at hzz
  obtain ⟨hz0, hz1, hz2⟩ := hzz
  have hlen : n + m ≤ 140737488355328 := Nat.le_trans (Nat.le_mul_of_pos_right _ hb0) hl
  rw [if_pos hw]
  obtain ⟨v1, w1, hr, hown, hg, _, hat⟩ := run_append_own_at (P := P) (W.alloc (.cells ys.toArray e)) base t o.type e i0 z size bytes ht hi hz0 hz1 hz2 hz hs0 v n xs (HO.alloc _) ⟨W.heap.size, 0, none⟩ m m ys hys
    (by simpa using World.news_of_block (cs := ys.toArray) (t := e) (fr := (0, 0)) (heap_alloc_new W (.cells ys.toArray e))) h1 (by simp only [maxLen]; omega) hl (by simp; omega)
  unfold Oper.wp execOp
  simp only [ho, resolve, invoke, builtin, Sem.run_bind, Sem.run_pure, Result.andThen_ok, List.map_toArray, List.map_cons, List.map_nil, hs, hx, hr]
  refine h v1 w1 hown ((HB.alloc hbase _).grown hg (by simp; omega) (own_base HO)) (World.grownBy.trans (World.grownBy_alloc W _ _) hg) ?_
  rcases hat with hat | hat
  · exact .inl hat
  · exact .inr ⟨_, hat, by simp⟩
end
end Go.Proofs.Ytcjnfdhdcoobgaa
