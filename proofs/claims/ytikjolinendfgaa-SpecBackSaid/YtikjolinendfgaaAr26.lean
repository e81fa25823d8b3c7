/- What ArithBack holds while it puts: a coder, and the symbols that were put. -/
import Derived.Test.YtikjolinendfgaaArQ2
import Derived.Test.YtikjolinendfgaaAr11
import Derived.Test.YtikjolinendfgaaArM
set_option linter.unusedVariables false
set_option linter.unusedSimpArgs false
namespace Go.Proofs.Ytikjolinendfgaa.Ari
open Go.RowKit Go.Proofs.YtikjolinendfgaaW.PrintWords Go.Proofs.YtikjolinendfgaaW.PrintLast Go.Proofs.YtikjolinendfgaaW.PrintMore Go.Proofs.Ytikjolinendfgaa.Bit

theorem infoOne : (Try.prog.info? 31).map (fun i => (i.zero, i.size, i.bytes)) = some (some (.agg #[.slice none 0 0, .int .i64 0]), 2, 32) := by kernel_rfl
/-- symbols' cells -/
def syC (l : List Sy) : List Value := l.flatMap fun y => [.slice y.ad y.tb.length y.cap, .int .i64 y.s]
theorem syC_snoc (l : List Sy) (y : Sy) : syC (l ++ [y]) = syC l ++ [.slice y.ad y.tb.length y.cap, .int .i64 y.s] := by simp [syC]
theorem syC_len : ∀ l : List Sy, (syC l).length = l.length * 2
  | [] => rfl
  | y :: r => by
    have h := syC_len r
    simp only [syC, List.flatMap_cons, List.length_append, List.length_cons, List.length_nil] at h ⊢
    omega
theorem syC_at : ∀ (l : List Sy) (i : Nat) (h : i < l.length), (syC l)[i * 2]? = some (.slice l[i].ad l[i].tb.length l[i].cap) ∧ (syC l)[i * 2 + 1]? = some (.int .i64 l[i].s)
  | [], i, h => absurd h (by simp)
  | y :: r, 0, h => ⟨rfl, rfl⟩
  | y :: r, i + 1, h => by
    have e : ∀ j, (syC (y :: r))[j + 2]? = (syC r)[j]? := fun j => rfl
    have h2 := syC_at r i (by simpa using h)
    rw [show (i + 1) * 2 = i * 2 + 2 from by omega, e, show i * 2 + 2 + 1 = i * 2 + 1 + 2 from by omega, e]
    exact h2
/-- a symbol that can be put, its table in the memory that came in -/
def PutOk (w0 : World) (y : Sy) : Prop := okS y.tb y.s ∧ ReadsInt w0 .i64 y.ad y.tb.length y.tb ∧ y.tb.length ≤ y.cap ∧ ∀ x ∈ y.tb, -9223372036854775808 ≤ x ∧ x ≤ 9223372036854775807
def tis (l : List Sy) : List (List Int × Nat) := l.map fun y => (y.tb, y.s.toNat)
/-- a coder at block g, and the symbols that were put -/
structure Bk (w0 : World) (g : Nat) (s : St) (v vd : Value) (dn : List Sy) (W : World) : Prop where
  base : Below w0.heap.size w0 W
  hg : w0.heap.size ≤ g
  c : CS W g s false v
  own : W.ownsRow w0.heap.size 31 2 vd dn.length (syC dn)
  a1 : vd.ownBlock ≠ some g
  a3 : ∀ b, v.ownBlock = some b → vd.ownBlock ≠ some b
  ok : ∀ y ∈ dn, PutOk w0 y
  enc : Q.Enc (tis dn) s0 s
  rest : Rest s
  off : offOf s = none
  len : Q.steps s ≤ 14 * dn.length
section
variable {w0 : World} {g : Nat} {s s' : St} {v v' vd vd' : Value} {dn : List Sy} {W W' : World}
theorem Bk.drew (h : Bk w0 g s v vd dn W) : Bk w0 g s v vd dn W.drew := ⟨⟨h.base.os, h.base.tape, h.base.output, h.base.size, h.base.block⟩, h.hg, CoAt.drew h.c, own_move h.own fun _ _ => rfl, h.a1, h.a3, h.ok, h.enc, h.rest, h.off, h.len⟩
theorem Bk.drewN (h : Bk w0 g s v vd dn W) (k : Nat) : Bk w0 g s v vd dn (W.drewN k) := ⟨pw_below_drewN h.base k, h.hg, CoAt.drewN h.c k, own_move h.own fun _ _ => rfl, h.a1, h.a3, h.ok, h.enc, h.rest, h.off, h.len⟩
/-- a symbol is put: the coder's part -/
structure Bh (w0 : World) (g : Nat) (s s' : St) (k : Nat) (y : Sy) (v vd : Value) (dn : List Sy) (W : World) : Prop where
  base : Below w0.heap.size w0 W
  hg : w0.heap.size ≤ g
  c : CS W g s' false v
  own : W.ownsRow w0.heap.size 31 2 vd dn.length (syC dn)
  a1 : vd.ownBlock ≠ some g
  a3 : ∀ b, v.ownBlock = some b → vd.ownBlock ≠ some b
  ok : ∀ y ∈ dn, PutOk w0 y
  enc : Q.Enc (tis dn) s0 s
  rest : Rest s
  len : Q.steps s ≤ 14 * dn.length
  wid : Wid k (cut y.tb y.s.toNat s) s'
theorem Bk.far {y : Sy} (h : Bk w0 g s v vd dn W) (ht : 0 < y.tb.length) (hy : ReadsInt w0 .i64 y.ad y.tb.length y.tb) : ∀ ad, y.ad = some ad → ad.block ≠ g := fun ad e => by
  have h1 := M.reads_lt hy ht ad e
  have h2 := h.hg
  omega
theorem Bk.put {y : Sy} (h : Bk w0 g s v vd dn W) (hy : PutOk w0 y) (hn : Q.steps s ≤ 10000) :
    Calls Try.prog 18 #[.pointer (some ⟨g, 0, none⟩), .slice y.ad y.tb.length y.cap, .int .i64 y.s] W fun e w' => e = .returned (.int .i64 0) ∧ ∃ k s' v', Bh w0 g s s' k y v' vd dn w' := by
  obtain ⟨⟨hg, hx0, hx1⟩, hr, hc, hb⟩ := hy
  obtain ⟨i, hi⟩ := Int.eq_ofNat_of_zero_le hx0
  have hil : i < y.tb.length := by omega
  rw [hi]
  refine (put_ok g s v y.ad y.tb.length y.cap y.tb i W h.c (hr.below h.base) hc hb hg hil h.rest (by unfold Q.steps at hn; omega) (h.far (by omega) hr)).mono fun e w' ⟨h1, k, s', v', h2, h3, h4⟩ => ⟨h1, k, s', v', ?_⟩
  refine ⟨h.base.trans (h4.below.mono h.hg), h.hg, h3, own_move h.own fun j hj => h4.keep.2 j (own_lt h.own j hj) (fun e => h.a1 (by rw [hj, e])) (fun e => h.a3 j e.symm hj), h.a1, ?_, h.ok, h.enc, h.rest, h.len, by rw [hi, Int.toNat_natCast]; exact h2⟩
  intro b hb
  rcases h4.at_ with e | ⟨b', e, hb'⟩
  · rw [e] at hb; exact h.a3 b hb
  · rw [e] at hb
    injection hb with hb
    subst hb
    intro e2
    have := own_lt h.own _ e2
    omega
/-- the symbol is noted -/
theorem Bh.note {k : Nat} {y : Sy} (h : Bh w0 g s s' k y v vd dn W) (hy : PutOk w0 y) (hown : W'.ownsRow w0.heap.size 31 2 vd' (dn.length + 1) (syC dn ++ [.slice y.ad y.tb.length y.cap, .int .i64 y.s])) (hb : Below w0.heap.size W W') (hg : W.grownBy W' vd.ownBlock)
    (hat : vd'.ownBlock = vd.ownBlock ∨ ∃ b, vd'.ownBlock = some b ∧ W.heap.size ≤ b) : Bk w0 g s' v vd' (dn ++ [y]) W' := by
  have hcl := blk_lt h.c.at_
  obtain ⟨⟨hgd, hx0, hx1⟩, -⟩ := id hy
  have hil : y.s.toNat < y.tb.length := by omega
  have hcut := cut_in hgd hil h.rest
  refine ⟨h.base.trans hb, h.hg, ⟨(hg.block g hcl (fun e => h.a1 e.symm)).trans h.c.at_, own_move h.c.own fun j hj => hg.block j (own_lt h.c.own j hj) (fun e => h.a3 j hj e.symm), h.c.free⟩, ?_, ?_, ?_, ?_, ?_, Wid.rest h.wid hcut.1, h.wid.2, ?_⟩
  · rw [syC_snoc, List.length_append]
    exact hown
  · rcases hat with e | ⟨b, e, hb⟩
    · rw [e]; exact h.a1
    · rw [e]; intro e2; injection e2 with e2; omega
  · intro b hb2
    rcases hat with e | ⟨b', e, hb'⟩
    · rw [e]; exact h.a3 b hb2
    · rw [e]
      intro e2
      injection e2 with e2
      subst e2
      have := own_lt h.c.own _ hb2
      omega
  · intro z hz
    rcases List.mem_append.1 hz with hz | hz
    · exact h.ok z hz
    · rw [List.mem_singleton] at hz; rw [hz]; exact hy
  · have e : tis (dn ++ [y]) = tis dn ++ [(y.tb, y.s.toNat)] := by simp [tis]
    rw [e]
    exact Q.Enc.snoc hgd hil h.enc h.wid
  · have h1 := Q.run_steps h.wid.1
    have h2 := Wid.few h.wid hcut.1 hcut.2.1
    have h3 := h.len
    have e3 : Q.steps (cut y.tb y.s.toNat s) = Q.steps s := rfl
    rw [List.length_append, List.length_singleton]
    omega
end
end Go.Proofs.Ytikjolinendfgaa.Ari
