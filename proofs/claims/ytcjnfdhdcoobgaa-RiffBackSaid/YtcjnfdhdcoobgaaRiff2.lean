/- The walks of the package riff: chunk. -/
import Derived.Test.YtcjnfdhdcoobgaaRiff1
set_option linter.unusedVariables false
set_option linter.unusedSimpArgs false
namespace Go.Proofs.Ytcjnfdhdcoobgaa.Rif
open Go.RowKit Go.Proofs.YtcjnfdhdcoobgaaW.PrintWords Go.Proofs.YtcjnfdhdcoobgaaW.PrintLast Go.Proofs.YtcjnfdhdcoobgaaW.PrintMore Go.Proofs.Ytcjnfdhdcoobgaa.Chk

theorem add_block (a : Addr) (j : Nat) : (a.add j).block = a.block := by unfold Addr.add; split <;> rfl
/-- a slice that does not lie in a value's own block -/
def Far (w : World) (v : Value) (A : Option Addr) : Prop := ∀ ad, A = some ad → ad.block < w.heap.size ∧ some ad.block ≠ v.ownBlock
theorem Far.grew {w w1 : World} {v v1 : Value} {A : Option Addr} (h : Far w v A) (g : Grew w v v1 w1) : Far w1 v1 A := fun ad e => by
  obtain ⟨h1, h2⟩ := h ad e
  refine ⟨Nat.lt_of_lt_of_le h1 g.by_.size, ?_⟩
  rcases g.at_ with e2 | ⟨b, e2, hb⟩
  · rw [e2]; exact h2
  · rw [e2]; intro e3; injection e3 with e3; omega
theorem Far.reads {w w1 : World} {v v1 : Value} {A : Option Addr} {k : IntKind} {n : Nat} {xs : List Int} (h : Far w v A) (g : Grew w v v1 w1) (hr : ReadsInt w k A n xs) : ReadsInt w1 k A n xs := by
  refine ⟨hr.1, hr.2.1, fun h0 => ?_⟩
  obtain ⟨ad, e, hc⟩ := hr.2.2 h0
  obtain ⟨h1, h2⟩ := h ad e
  refine ⟨ad, e, fun j hj => ?_⟩
  rw [← hc j hj]
  exact g.by_.cell_far _ (by rw [add_block]; exact h1) (by rw [add_block]; exact fun e => h2 (by first | exact e | exact e.symm))
theorem Grew.trans {w wr w1 : World} {v0 v v1 : Value} (h : Grew w v0 v wr) (g : Grew wr v v1 w1) : Grew w v0 v1 w1 := h.step g.by_ g.at_
theorem Grew.below {base : Nat} {w w1 : World} {v v1 : Value} {n : Nat} {e : TypeId} {size : Nat} {xs : List Value} (h : Grew w v v1 w1) (ho : w.ownsRow base e size v n xs) (hb : base ≤ w.heap.size) : Below base w w1 := (Below.refl base w).grown h.by_ hb (own_base ho)
/-- a chunk behind bytes -/
def chunkL (l nm ys : List Int) : List Int := l ++ nm ++ le ys.length 4 ++ ys ++ (if ys.length % 2 = 1 then [0] else [])

set_option maxRecDepth 100000 in
set_option maxHeartbeats 1000000 in
theorem chunk_any (base : Nat) (v : Value) (l : List Int) (nm : ByteArray) (A : Option Addr) (m c : Nat) (ys : List Int) (w : World) (hl : l.length ≤ 50000) (hnm : nm.size = 4) (hy : ys.length ≤ 20000) (hb : base ≤ w.heap.size) (hown : w.ownsRow base 5 1 v l.length (nums .u8 l))
    (hr : ReadsInt w .u8 A m ys) (hf : Far w v A) :
    Calls Try.prog 63 #[v, .string nm, .slice A m c] w (App base v (chunkL l (bytesOf nm) ys) w) := by
  obtain rfl := hr.1
  obtain ⟨A0, c0, rfl⟩ := own_slice hown
  have hnl := bytesOf_length nm
  go_enter Try.func63, Try.ntmps63
  go_wp2_with (at_builtin; go_loud (refine append_text base rfl (.tmp 7) (.tmp 8) 37 9 5 rfl Try.underlying37 Try.underlying9 info8 _ l nm rfl rfl hown hb (by omega) ?_); intro v1 w1 hown1 hg1 hat1)
  have hG1 := (Grew.refl w (.slice A0 l.length c0)).step hg1 hat1
  clear hg1 hat1
  have hl1 : (l ++ bytesOf nm).length ≤ 50004 := by rw [List.length_append]; omega
  have T := put_int base v1 (l ++ bytesOf nm) ys.length 4 w1 (by omega) (by omega) (by decide) (Nat.le_trans hb hG1.by_.size) hown1
  obtain ⟨A1, c1, rfl⟩ := own_slice hown1
  go_wp2_with fail
  refine T.mono ?_
  rintro e w2 ⟨v2, rfl, hown2, hg2⟩
  have hG2 := hG1.trans hg2
  have hr2 := hf.reads hG2 hr
  have hf2 := hf.grew hG2
  have hl2 : (l ++ bytesOf nm ++ le ys.length 4).length ≤ 50008 := by rw [List.length_append, le_length]; omega
  have hb2 := Nat.le_trans hb hG2.by_.size
  obtain ⟨L2, hL2⟩ : ∃ L2, L2 = l ++ bytesOf nm ++ le ys.length 4 := ⟨_, rfl⟩
  rw [← hL2] at hown2 hl2
  have HL2 := Lib.hid hL2
  clear T hown1 hG1 hg2 hr hf hL2 hl1
  obtain ⟨A2, c2, rfl⟩ := own_slice hown2
  by_cases hodd : ys.length % 2 = 1
  · have HC : Hid (chunkL l (bytesOf nm) ys = L2 ++ ys ++ [0]) := by show _ = _; unfold chunkL; rw [if_pos hodd, HL2.out]
    have ho : ((ys.length : Int) % 2 == 1) = true := beq_iff_eq.2 (by omega)
    clear hodd
    go_wp2_with (first
      | (at_builtin; refine print_append_row base rfl (.tmp 13) (.tmp 14) 37 5 .u8 1 rfl Try.underlying37 info8 (by decide) _ L2 ys A ys.length c rfl rfl hown2 hr2 (Below.refl _ _) hb2 (by omega) ?_; intro v3 w3 hown3 hb3 hg3 hat3; have hG3 := hG2.step hg3 hat3; have hb3' := Nat.le_trans hb hG3.by_.size; have hl3 : (L2 ++ ys).length ≤ 80000 := (by rw [List.length_append]; omega); clear hg3 hat3 hb3)
      | (at_builtin; refine print_append_num base rfl (.tmp 20) (.tmp 21) 37 5 .u8 1 rfl Try.underlying37 info8 (by decide) _ (L2 ++ ys) 0 rfl rfl hown3 (Below.refl _ _) hb3' (by omega) ?_; intro v4 w4 hown4 hb4 hg4 hat4))
    go_ret
    exact ⟨v4, rfl, by rw [HC.out]; exact hown4, hG3.step hg4 hat4⟩
  · have HC : Hid (chunkL l (bytesOf nm) ys = L2 ++ ys) := by show _ = _; unfold chunkL; rw [if_neg hodd, List.append_nil, HL2.out]
    have ho : ((ys.length : Int) % 2 == 1) = false := beq_eq_false_iff_ne.2 (by omega)
    clear hodd
    go_wp2_with (at_builtin; refine print_append_row base rfl (.tmp 13) (.tmp 14) 37 5 .u8 1 rfl Try.underlying37 info8 (by decide) _ L2 ys A ys.length c rfl rfl hown2 hr2 (Below.refl _ _) hb2 (by omega) ?_; intro v3 w3 hown3 hb3 hg3 hat3)
    go_ret
    exact ⟨_, rfl, by rw [HC.out]; exact hown3, hG2.step hg3 hat3⟩
end Go.Proofs.Ytcjnfdhdcoobgaa.Rif
