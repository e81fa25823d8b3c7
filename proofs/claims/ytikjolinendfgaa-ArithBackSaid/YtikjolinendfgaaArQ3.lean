/- The bits that are read agree with those that were told, whatever stands behind: plain (arith). -/
import Derived.Test.YtikjolinendfgaaAr26
set_option linter.unusedVariables false
set_option linter.unusedSimpArgs false
namespace Go.Proofs.Ytikjolinendfgaa.Ari.Q
open Go.RowKit Go.Proofs.YtikjolinendfgaaW.PrintWords Go.Proofs.YtikjolinendfgaaW.PrintLast Go.Proofs.YtikjolinendfgaaW.PrintMore Go.Proofs.Ytikjolinendfgaa.Bit

theorem or_bit (a y j : Nat) (h : y < 2 ^ j) : (a ||| y) / 2 ^ j % 2 = a / 2 ^ j % 2 := by
  rw [← Nat.shiftRight_eq_div_pow, Nat.shiftRight_or_distrib, Nat.shiftRight_eq_div_pow, Nat.shiftRight_eq_div_pow, Nat.div_eq_of_lt h]
  simp
/-- bytes that say these bits -/
def Says (E : List Bool) (F : List Int) : Prop := rowN E.length ≤ F.length ∧ ∀ j, j < rowN E.length → ∃ x : Nat, F.getD j 0 = (x : Int) ∧ ∀ k, k < 8 → 8 * j + k < E.length → x / 2 ^ (7 - k) % 2 = (E.getD (8 * j + k) false).toNat
theorem bytesS_len (E : List Bool) : (bytesS E).length = rowN E.length := by unfold bytesS; rw [bytesL_len]
theorem bytes_in (O : Nat → Bool) (n : Nat) : ∀ x ∈ bytesL O n, 0 ≤ x ∧ x ≤ 255 := by
  intro x hx
  unfold bytesL at hx
  obtain ⟨i, -, rfl⟩ := List.mem_map.1 hx
  have := byteN_lt O i
  omega
theorem says_own (E : List Bool) : Says E (bytesS E) := by
  refine ⟨by rw [bytesS_len]; exact Nat.le_refl _, fun j hj => ⟨byteN (ofL E) j, ?_, fun k hk h => ?_⟩⟩
  · unfold bytesS
    exact bytesL_at _ _ _ hj
  · rw [byteN_div _ _ _ hk]
    rfl
theorem Says.append {E : List Bool} {F : List Int} (h : Says E F) (G : List Int) : Says E (F ++ G) := by
  refine ⟨by rw [List.length_append]; have := h.1; omega, fun j hj => ?_⟩
  obtain ⟨x, h1, h2⟩ := h.2 j hj
  refine ⟨x, ?_, h2⟩
  rw [List.getD_eq_getElem?_getD, List.getElem?_append_left (by have := h.1; omega), ← List.getD_eq_getElem?_getD]
  exact h1
theorem says_or {E : List Bool} {p r y : Nat} (hp : p + 1 = rowN E.length) (hr : r = E.length % 8) (hr0 : r ≠ 0) (hy : y < 2 ^ (8 - r)) :
    Says E ((bytesS E).set p ((byteN (ofL E) p ||| y : Nat) : Int)) := by
  have hR : 8 * p + r = E.length := by unfold rowN at hp; omega
  refine ⟨by rw [List.length_set, bytesS_len]; exact Nat.le_refl _, fun j hj => ?_⟩
  by_cases e : j = p
  · subst e
    refine ⟨byteN (ofL E) j ||| y, ?_, fun k hk h => ?_⟩
    · rw [List.getD_eq_getElem?_getD, List.getElem?_set_self (by rw [bytesS_len]; exact hj)]
      rfl
    · rw [or_bit _ _ _ (Nat.lt_of_lt_of_le hy (Nat.pow_le_pow_right (by decide) (by omega))), byteN_div _ _ _ hk]
      rfl
  · obtain ⟨x, h1, h2⟩ := (says_own E).2 j hj
    refine ⟨x, ?_, h2⟩
    rw [List.getD_eq_getElem?_getD, List.getElem?_set_ne (fun h => e h.symm), ← List.getD_eq_getElem?_getD]
    exact h1
theorem agree {E : List Bool} {F : List Int} {O : Nat → Bool} (h : Says E F) (hO : bytesL O F.length = F) (i : Nat) (hi : i < E.length) : (bitI O F.length (i : Int)).toNat = (E.getD i false).toNat := by
  have hj : i / 8 < rowN E.length := by unfold rowN; omega
  obtain ⟨x, h1, h2⟩ := h.2 (i / 8) hj
  have hjF : i / 8 < F.length := by have := h.1; omega
  have e1 : byteN O (i / 8) = x := by
    have e2 := bytesL_at O F.length (i / 8) hjF
    rw [hO, h1] at e2
    omega
  have e3 := byteN_div O (i / 8) (i % 8) (by omega)
  rw [e1, show 8 * (i / 8) + i % 8 = i from by omega, h2 (i % 8) (by omega) (by omega), show 8 * (i / 8) + i % 8 = i from by omega] at e3
  unfold bitI
  rw [if_pos (by have := h.1; unfold rowN at *; omega), Int.toNat_natCast, e3]
  rfl
theorem dec0 (B : Nat → Nat) : Dec B s0 ⟨0, 65536, vN B 0 16, 16⟩ := by
  have e : XX s0 = 32768 := by simp [XX, s0, vB]
  have e2 : steps s0 + 16 = 16 := rfl
  have e3 : s0.lo = 0 := rfl
  have e4 : s0.wd = 65536 := rfl
  refine ⟨e3.symm, e4.symm, e2.symm, ?_⟩
  rw [e, e2, e3, Nat.add_zero]
end Go.Proofs.Ytikjolinendfgaa.Ari.Q
namespace Go.Proofs.Ytikjolinendfgaa.Ari
open Go.RowKit Go.Proofs.YtikjolinendfgaaW.PrintWords Go.Proofs.YtikjolinendfgaaW.PrintLast Go.Proofs.YtikjolinendfgaaW.PrintMore Go.Proofs.Ytikjolinendfgaa.Bit
theorem fin_len2 (s : St) : (fin s).bits.length = Q.steps s + 2 := by unfold fin tellB Q.steps; simp; omega
/-- the coder is ended -/
structure Be (w0 : World) (g : Nat) (E : List Bool) (s' : St) (v vd : Value) (dn : List Sy) (W : World) : Prop where
  base : Below w0.heap.size w0 W
  c : CS W g s' true v
  own : W.ownsRow w0.heap.size 31 2 vd dn.length (syC dn)
  bits : s'.bits = E
section
variable {w0 : World} {g : Nat} {s s' : St} {v v' vd vd' : Value} {dn : List Sy} {W W' : World} {E : List Bool}
theorem Bk.endB (h : Bk w0 g s v vd dn W) (hn : Q.steps s ≤ 10000) (hE : (fin s).bits = E) :
    Calls Try.prog 20 #[.pointer (some ⟨g, 0, none⟩)] W fun e w' => e = .returned (.int .i64 0) ∧ ∃ v', Be w0 g E (fin s) v' vd dn w' :=
  (end_any g s v W h.c (by unfold Q.steps at hn; omega)).mono fun e w' ⟨h1, v', h2, h4⟩ => ⟨h1, v', h.base.trans (h4.below.mono h.hg), h2, own_move h.own fun j hj => h4.keep.2 j (own_lt h.own j hj) (fun e => h.a1 (by rw [hj, e])) (fun e => h.a3 j e.symm hj), hE⟩
theorem Be.drewN (h : Be w0 g E s' v vd dn W) (k : Nat) : Be w0 g E s' v vd dn (W.drewN k) := ⟨pw_below_drewN h.base k, CoAt.drewN h.c k, own_move h.own fun _ _ => rfl, h.bits⟩
theorem Be.drew (h : Be w0 g E s' v vd dn W) : Be w0 g E s' v vd dn W.drew := ⟨⟨h.base.os, h.base.tape, h.base.output, h.base.size, h.base.block⟩, CoAt.drew h.c, own_move h.own fun _ _ => rfl, h.bits⟩
theorem Be.kept (h : Be w0 g E s' v vd dn W) (hb : Below W.heap.size W W') : Be w0 g E s' v vd dn W' :=
  ⟨bt h.base hb, ⟨(hb.block _ (blk_lt h.c.at_)).trans h.c.at_, pw_own_below h.c.own hb, h.c.free⟩, pw_own_below h.own hb, h.bits⟩
theorem Be.lenB (h : Be w0 g E s' v vd dn W) : Calls Try.prog 22 #[.pointer (some ⟨g, 0, none⟩)] W fun e w' => e = .returned (.int .i64 E.length) ∧ w' = W := by
  have h1 := len_any g s' true v W h.c
  rw [h.bits] at h1
  exact h1
theorem Be.bitsB (h : Be w0 g E s' v vd dn W) (hn : E.length < 100000000) : Calls Try.prog 23 #[.pointer (some ⟨g, 0, none⟩)] W fun e w' => ∃ v', e = .returned v' ∧ w'.ownsRow W.heap.size 5 1 v' (bytesS E).length (nums .u8 (bytesS E)) ∧ Below W.heap.size W w' := by
  have h1 := bits_any g s' true v W h.c (by rw [h.bits]; exact hn)
  rw [h.bits] at h1
  rw [Q.bytesS_len]
  exact h1
end
/-- a row's cells -/
theorem own_cell2 {w : World} {base n size : Nat} {e : TypeId} {g cap : Nat} {xs : List Value} (h : w.ownsRow base e size (.slice (some ⟨g, 0, none⟩) n cap) n xs) (i : Nat) (x : Value) (hx : xs[i]? = some x) : w.cell? ⟨g, i, none⟩ = some x := by
  rcases h.2 with ⟨h1, -⟩ | ⟨g', cap', cur, h1, -, h3, -, -, -, h7⟩
  · cases h1
  · injection h1 with h1
    injection h1 with h1
    injection h1 with h1
    subst h1
    have hi : i < xs.length := by
      rcases Nat.lt_or_ge i xs.length with h | h
      · exact h
      · rw [List.getElem?_eq_none h] at hx; cases hx
    rw [← h7, List.getElem?_take] at hx
    split at hx
    · unfold World.cell?
      rw [h3]
      simp
      rw [← Array.getElem?_toList]
      exact hx
    · cases hx
end Go.Proofs.Ytikjolinendfgaa.Ari
