/- Both finders side by side in memory (arith). -/
import Derived.Test.YtikjolinendfgaaAr15
import Derived.Test.YtikjolinendfgaaAr16
import Derived.Test.YtikjolinendfgaaAr11
set_option linter.unusedVariables false
set_option linter.unusedSimpArgs false
namespace Go.Proofs.Ytikjolinendfgaa.Ari
open Go.RowKit Go.Proofs.YtikjolinendfgaaW.PrintWords Go.Proofs.YtikjolinendfgaaW.PrintLast Go.Proofs.YtikjolinendfgaaW.PrintMore Go.Proofs.Ytikjolinendfgaa.Bit

theorem cell_lt {W : World} {a : Addr} {v : Value} (h : W.cell? a = some v) : a.block < W.heap.size := by
  rcases Nat.lt_or_ge a.block W.heap.size with h1 | h1
  · exact h1
  · have h9 : W.heap[a.block]? = none := Array.getElem?_eq_none h1
    unfold World.cell? at h
    rw [h9] at h
    simp at h
theorem cell_below {w W : World} {a : Addr} {v : Value} (hb : Below w.heap.size w W) (h : w.cell? a = some v) : W.cell? a = some v :=
  (World.cell?_of_block (hb.block _ (cell_lt h))).trans h
theorem reads_lt {w : World} {A : Option Addr} {n : Nat} {t : List Int} {k : IntKind} (h : ReadsInt w k A n t) (h0 : 0 < n) : ∀ ad, A = some ad → ad.block < w.heap.size := by
  intro ad e
  obtain ⟨ad', e', hc⟩ := h.2.2 h0
  rw [e] at e'
  injection e' with e'
  subst e'
  have := cell_lt (hc 0 h0)
  rwa [Bit.add_block] at this
theorem below_only {f : Nat} {w W W' : World} (h : Below w.heap.size w W) (k : OnlyB f W W') (hf : w.heap.size ≤ f) : Below w.heap.size w W' :=
  ⟨k.os.trans h.os, k.tape.trans h.tape, k.output.trans h.output, Nat.le_trans h.size k.size, fun i hi => (k.block i (Nat.lt_of_lt_of_le hi h.size) (fun e => by injection e with e; omega)).trans (h.block i hi)⟩
theorem only_at {f i : Nat} {W W' : World} {o : Obj} (k : OnlyB f W W') (h : W.heap[i]? = some o) (hne : i ≠ f) : W'.heap[i]? = some o :=
  (k.block i (blk_lt h) (fun e => by injection e with e; exact hne e)).trans h
theorem Ones.below {w W : World} {A : Option Addr} {l : List Sy} (h : Ones w A l) (hb : Below w.heap.size w W) : Ones W A l := by
  refine ⟨h.1, fun i hi => ?_⟩
  obtain ⟨ad, e, h1, h2, h3, h4, h5⟩ := h.2 i hi
  exact ⟨ad, e, cell_below hb h1, cell_below hb h2, h3.below hb, h4, h5⟩
/-- what an eye reads, all of it below n -/
def EyeL (W : World) (n : Nat) (ep : Option Addr) (B : Nat → Nat) : Prop :=
  (ep = none ∧ ∀ i, B i = 0) ∨ ∃ b m O A c, ep = some ⟨b, 0, none⟩ ∧ EyeAt W b m 0 0 O A c ∧ b < n ∧ (∀ ad, A = some ad → ad.block < n) ∧ m ≤ 512 ∧ ∀ i : Nat, (B i : Int) = bitI O m i
theorem EyeL.p {W : World} {n f : Nat} {ep : Option Addr} {B : Nat → Nat} (h : EyeL W n ep B) (hf : n ≤ f) : EyeP W f ep B := by
  rcases h with h | ⟨b, m, O, A, c, h1, h2, h3, h4, h5, h6⟩
  · exact .inl h
  · exact .inr ⟨b, m, O, A, c, h1, h2, by omega, fun ad e => by have := h4 ad e; omega, h5, h6⟩
theorem EyeL.of_blocks {W W' : World} {n : Nat} {ep : Option Addr} {B : Nat → Nat} (h : EyeL W n ep B) (hb : ∀ k, k < n → W.heap[k]? ≠ none → W'.heap[k]? = W.heap[k]?) : EyeL W' n ep B := by
  rcases h with h | ⟨b, m, O, A, c, h1, h2, h3, h4, h5, h6⟩
  · exact .inl h
  · refine .inr ⟨b, m, O, A, c, h1, ⟨?_, ⟨h2.rd.1, h2.rd.2.1, fun h0 => ?_⟩, h2.ne⟩, h3, h4, h5, h6⟩
    · exact (hb b h3 (by rw [h2.at_]; simp)).trans h2.at_
    · obtain ⟨ad, e, hc⟩ := h2.rd.2.2 h0
      refine ⟨ad, e, fun j hj => ?_⟩
      have h7 := hc j hj
      rw [← h7]
      refine World.cell?_of_block (hb _ (by rw [Bit.add_block]; exact h4 ad e) (fun e0 => ?_))
      unfold World.cell? at h7
      rw [e0] at h7
      simp at h7
theorem EyeL.only {W W' : World} {n f : Nat} {ep : Option Addr} {B : Nat → Nat} (h : EyeL W n ep B) (k : OnlyB f W W') (hf : n ≤ f) : EyeL W' n ep B :=
  h.of_blocks fun i hi hn => k.block i (by
    rcases Nat.lt_or_ge i W.heap.size with h1 | h1
    · exact h1
    · exact absurd (Array.getElem?_eq_none h1) hn) (fun e => by injection e with e; omega)
/-- both finders between two symbols -/
structure Two (w0 : World) (n f1 f2 : Nat) (ep : Option Addr) (fr : Nat) (B : Nat → Nat) (A : Option Addr) (c : Nat) (L : List Int) (fr' : Nat) (s : Fs) (W : World) : Prop where
  base : Below w0.heap.size w0 W
  n0 : w0.heap.size ≤ n
  nf : n ≤ f1
  ff : f1 < f2
  eye : EyeL W n ep B
  g : FnAt W f1 s.lo ((s.lo : Int) + s.wd - 1) ep fr s.rd s.va
  m : W.heap[f2]? = some (.cells #[.int .i64 s.lo, .int .i64 s.wd, .int .i64 (s.va - s.lo : Nat), .slice A L.length c, .int .i64 (fr' + s.rd : Nat), .int .i64 s.rd] 63 (0, 0))
  bits : ReadsInt W .i64 A L.length L
  ne : ∀ ad, A = some ad → ad.block < f2 ∧ ad.block ≠ f1
  rest : RestF s
section
variable {w0 : World} {n f1 f2 : Nat} {ep : Option Addr} {fr : Nat} {B : Nat → Nat} {A : Option Addr} {c : Nat} {L : List Int} {fr' : Nat} {s : Fs} {W : World}
theorem Two.drewN (h : Two w0 n f1 f2 ep fr B A c L fr' s W) (k : Nat) : Two w0 n f1 f2 ep fr B A c L fr' s (W.drewN k) :=
  ⟨pw_below_drewN h.base k, h.n0, h.nf, h.ff, h.eye.of_blocks fun _ _ _ => rfl, h.g, h.m, h.bits.drewN k, h.ne, h.rest⟩
theorem Two.fs (h : Two w0 n f1 f2 ep fr B A c L fr' s W) : FS f1 ep fr B W s W := ⟨h.g, h.eye.p h.nf, OnlyB.refl _ _⟩
theorem reads_only {f : Nat} {W W' : World} {A : Option Addr} {L : List Int} (h : ReadsInt W .i64 A L.length L) (k : OnlyB f W W') (hne : ∀ ad, A = some ad → ad.block ≠ f) : ReadsInt W' .i64 A L.length L := by
  refine ⟨h.1, h.2.1, fun h0 => ?_⟩
  obtain ⟨ad, e, hc⟩ := h.2.2 h0
  refine ⟨ad, e, fun j hj => ?_⟩
  have h7 := hc j hj
  rw [← h7]
  exact World.cell?_of_block (k.block _ (cell_lt h7) (fun e0 => by injection e0 with e0; rw [Bit.add_block] at e0; exact hne ad e e0))
theorem Two.mid {s' : Fs} {W' : World} (h : Two w0 n f1 f2 ep fr B A c L fr' s W) (k : FS f1 ep fr B W s' W') : RS f2 A c L W' fr' s W' :=
  ⟨only_at k.only h.m (by have := h.ff; omega), reads_only h.bits k.only (fun ad e => (h.ne ad e).2), fun ad e e2 => by have := (h.ne ad e).1; omega, OnlyB.refl _ _⟩
theorem FnAt.inj {f : Nat} {lo hi lo' hi' : Int} {ep' : Option Addr} {fr rd va fr' rd' va' : Nat} (h : FnAt W f lo hi ep fr rd va) (k : FnAt W f lo' hi' ep' fr' rd' va') : lo = lo' ∧ hi = hi' ∧ rd = rd' ∧ va = va' := by
  have e := h.symm.trans k
  simp at e
  omega
theorem FS.inj {W1 W2 : World} {s s' : Fs} (h : FS f1 ep fr B W1 s W) (k : FS f1 ep fr B W2 s' W) : s = s' := by
  obtain ⟨e1, e2, e3, e4⟩ := FnAt.inj h.at_ k.at_
  obtain ⟨lo, wd, va, rd⟩ := s
  obtain ⟨lo', wd', va', rd'⟩ := s'
  simp only at e1 e2 e3 e4
  obtain rfl : lo = lo' := by omega
  obtain rfl : wd = wd' := by omega
  subst e3
  subst e4
  rfl
theorem Two.next {t : List Int} {i i' : Nat} {W' W'' : World} (h : Two w0 n f1 f2 ep fr B A c L fr' s W) (h1 : Got f1 ep fr B W s t i W') (h2 : RGot f2 A c L W' fr' s t i' W'') (hg : Good t) (hB : ∀ j, B (fr + j) = bD L (fr' + j)) :
    i = i' ∧ i < t.length ∧ ∃ s', s'.rd ≤ s.rd + 14 ∧ Two w0 n f1 f2 ep fr B A c L fr' s' W'' := by
  obtain ⟨e, hi, s', k1, k2⟩ := got_same h1 h2 hg hB
  obtain ⟨-, s2, r1, r2, r3, r4⟩ := h1.rest h.rest hg
  have e2 := FS.inj k1 r4
  subst e2
  have hff := h.ff
  have hnf := h.nf
  have hn0 := h.n0
  have o1 := k1.only
  have o2 := k2.only
  refine ⟨e, hi, s', r3, ⟨below_only (below_only h.base o1 (by omega)) o2 (by omega), hn0, hnf, hff, (h.eye.only o1 hnf).only o2 (by omega), only_at o2 k1.at_ (by omega), k2.at_, k2.bits, h.ne, r1⟩⟩
end
end Go.Proofs.Ytikjolinendfgaa.Ari
