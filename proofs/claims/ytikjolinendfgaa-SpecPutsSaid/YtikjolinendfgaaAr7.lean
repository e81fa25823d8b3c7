/- The walk of the law's alive (arith). -/
import Derived.Test.YtikjolinendfgaaAr6
set_option linter.unusedVariables false
set_option linter.unusedSimpArgs false
namespace Go.Proofs.Ytikjolinendfgaa.Ari
open Go.RowKit Go.Proofs.YtikjolinendfgaaW.PrintWords Go.Proofs.YtikjolinendfgaaW.PrintLast Go.Proofs.YtikjolinendfgaaW.PrintMore Go.Proofs.Ytikjolinendfgaa.Bit

theorem reads_same {W W2 : World} {k : IntKind} {T n : Nat} {xs : List Int} (h : ReadsInt W2 k (some ⟨T, 0, none⟩) n xs) (e : W.heap[T]? = W2.heap[T]?) : ReadsInt W k (some ⟨T, 0, none⟩) n xs :=
  ⟨h.1, h.2.1, fun hn => by
    obtain ⟨ad, e1, hc⟩ := h.2.2 hn
    obtain rfl : ⟨T, 0, none⟩ = ad := by injection e1
    refine ⟨_, rfl, fun j hj => ?_⟩
    have h1 := hc j hj
    rw [add_plain] at h1 ⊢
    unfold World.cell? at h1 ⊢
    rw [← h1]
    simp only [e]⟩
/-- a coder, and a table that lies in block T -/
structure Al (g T : Nat) (W2 : World) (s : St) (en : Bool) (v : Value) (W : World) : Prop where
  cs : CS W g s en v
  tab : W.heap[T]? = W2.heap[T]?
  gt : g < T ∧ T < W.heap.size
  ne : v.ownBlock ≠ some T
  below : Below g W2 W
theorem Al.step {g T : Nat} {W2 W W' : World} {s s' : St} {en en' : Bool} {v v' : Value} (h : Al g T W2 s en v W) (h1 : CS W' g s' en' v') (h2 : Fr g v v' W W') : Al g T W2 s' en' v' W' := by
  obtain ⟨g1, g2⟩ := h.gt
  refine ⟨h1, (h2.keep.2 T g2 (by omega) (fun e => h.ne e.symm)).trans h.tab, ⟨g1, Nat.lt_of_lt_of_le g2 h2.keep.1⟩, ?_, h.below.trans h2.below⟩
  rcases h2.at_ with e | ⟨b, e, hb⟩
  · rw [e]; exact h.ne
  · rw [e]; intro e2; injection e2 with e2; omega
theorem put_al {g T : Nat} {W2 W : World} {s s' : St} {v : Value} (h : Al g T W2 s false v W) (hr : ReadsInt W2 .i64 (some ⟨T, 0, none⟩) 2 [1, 1]) (x : Int) (k kk : Nat) (hx : x = k) (hk : k < 2) (hw : Wid kk (cut [1, 1] k s) s') (hs : Rest s) (hn : s.bits.length + s.ow + 65536 < 100000000) :
    Calls Try.prog 18 #[.pointer (some ⟨g, 0, none⟩), .slice (some ⟨T, 0, none⟩) 2 2, .int .i64 x] W fun e W' => e = .returned (.int .i64 0) ∧ ∃ v', Al g T W2 s' false v' W' := by
  subst hx
  refine (put_ok g s v _ 2 2 [1, 1] k W h.cs (reads_same hr h.tab) (by decide) (by decide) (by decide) hk hs hn (fun ad e => by injection e with e; subst e; have := h.gt.1; show T ≠ g; omega)).mono ?_
  rintro e W' ⟨rfl, k1, s1, v1, h1, h2, h3⟩
  obtain ⟨-, rfl⟩ := hw.det h1
  exact ⟨rfl, v1, h.step h2 h3⟩
def s0 : St := ⟨0, 65536, 0, []⟩
def s1 : St := ⟨0, 65536, 0, [true]⟩
def s2 : St := ⟨0, 65536, 0, [true, false]⟩
def s3 : St := ⟨0, 65536, 0, [true, false, true]⟩
theorem d1 : Wid 1 (cut [1, 1] 1 s0) s1 := ⟨by rfl, by rfl⟩
theorem d2 : Wid 1 (cut [1, 1] 0 s1) s2 := ⟨by rfl, by rfl⟩
theorem d3 : Wid 1 (cut [1, 1] 1 s2) s3 := ⟨by rfl, by rfl⟩
theorem d4 : fin s3 = ⟨0, 65536, 0, [true, false, true, false, true]⟩ := rfl
theorem d5 : bytesS [true, false, true, false, true] = [168] := by decide
set_option maxRecDepth 100000 in
set_option maxHeartbeats 2000000 in
theorem alive (w : World) : Calls Try.prog 12 #[] w fun e w' => e = .returned (.bool true) ∧ Below w.heap.size w w' := by
  go_enter Try.func12, Try.ntmps12
  go_wp2_with fail
  refine (newCoder_any _).mono ?_
  rintro e w1 ⟨rfl, hc1, hb1⟩
  obtain ⟨o, ho⟩ : ∃ o, o = Obj.cells #[Value.int .i64 1, Value.int .i64 1] 3 := ⟨_, rfl⟩
  have hr : ReadsInt (w1.alloc o) .i64 (some ⟨w1.heap.size, 0, none⟩) 2 [1, 1] := ⟨rfl, by decide, fun _ => ⟨_, rfl, fun j hj => by
    rw [add_plain, ho]
    rcases (by omega : j = 0 ∨ j = 1) with rfl | rfl
    · simp
    · simp⟩⟩
  have hg := blk_lt hc1.at_
  have A0 : Al w.heap.size w1.heap.size (w1.alloc o) s0 false (.slice none 0 0) (w1.alloc o) := ⟨⟨((ba (br w1) o).block _ hg).trans hc1.at_, World.ownsRow_nil _ _ _ _, fun _ _ => rfl⟩, rfl, ⟨hg, by simp⟩, by simp [Value.ownBlock], Below.refl _ _⟩
  have HB : Hid (Below w.heap.size w (w1.alloc o)) := ba hb1 o
  rw [ho] at hr A0 HB
  have HR := Lib.hid hr
  have HA0 := Lib.hid A0
  clear hr A0 ho hc1 hb1 hg
  go_wp2_with fail
  refine (put_al HA0.out HR.out 1 1 1 rfl (by decide) d1 ⟨by decide, by decide⟩ (by decide)).mono ?_
  rintro e w2 ⟨rfl, v2, h2⟩
  have HA2 := Lib.hid h2
  clear h2
  go_wp2_with fail
  refine (put_al HA2.out HR.out 0 0 1 rfl (by decide) d2 ⟨by decide, by decide⟩ (by decide)).mono ?_
  rintro e w3 ⟨rfl, v3, h3⟩
  have HA3 := Lib.hid h3
  clear h3
  go_wp2_with fail
  refine (put_al HA3.out HR.out 1 1 1 rfl (by decide) d3 ⟨by decide, by decide⟩ (by decide)).mono ?_
  rintro e w4 ⟨rfl, v4, h4⟩
  have HA4 := Lib.hid h4
  clear h4
  go_wp2_with fail
  refine (end_any _ s3 v4 w4 HA4.out.cs (by decide)).mono ?_
  rintro e w5 ⟨rfl, v5, h5, hf5⟩
  have HA5 := Lib.hid (HA4.out.step h5 hf5)
  clear h5 hf5
  go_wp2_with fail
  refine (bits_any _ _ _ v5 w5 HA5.out.cs (by decide)).mono ?_
  rintro e w6 ⟨v6, rfl, hown, hb6⟩
  have h6 : CS w6 w.heap.size (fin s3) true v5 := ⟨(hb6.block _ (blk_lt HA5.out.cs.at_)).trans HA5.out.cs.at_, pw_own_below HA5.out.cs.own hb6, HA5.out.cs.free⟩
  have HB6 : Hid (Below w.heap.size w w6) := (HB.out.trans HA5.out.below).trans (hb6.mono (Nat.le_of_lt (blk_lt HA5.out.cs.at_)))
  rw [d4, d5] at hown
  obtain ⟨A, c, rfl, hr6⟩ := own_reads hown
  obtain ⟨ad, rfl, y⟩ := hr6.at_ 0 (by decide) (by decide)
  have y0 : w6.cell? ad = some (.int .u8 168) := y
  have H6 := Lib.hid h6
  clear h6 hown hr6 y hb6
  go_wp2_with fail
  refine (len_any _ _ _ v5 w6 H6.out).mono ?_
  rintro e w7 ⟨rfl, rfl⟩
  go_wp2_with fail
  refine (end_ended _ _ v5 w7 H6.out).mono ?_
  rintro e w8 ⟨rfl, rfl⟩
  go_wp2
  go_ret
  exact ⟨rfl, HB6.out⟩
end Go.Proofs.Ytikjolinendfgaa.Ari
