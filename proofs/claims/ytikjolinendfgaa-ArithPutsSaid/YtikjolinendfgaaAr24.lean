/- Both coders side by side in memory, and their calls (arith). -/
import Derived.Test.YtikjolinendfgaaAr23
import Derived.Test.YtikjolinendfgaaArM
set_option linter.unusedVariables false
set_option linter.unusedSimpArgs false
namespace Go.Proofs.Ytikjolinendfgaa.Ari
open Go.RowKit Go.Proofs.YtikjolinendfgaaW.PrintWords Go.Proofs.YtikjolinendfgaaW.PrintLast Go.Proofs.YtikjolinendfgaaW.PrintMore Go.Proofs.Ytikjolinendfgaa.Bit

theorem runN_sum : ∀ {k : Nat} {s t : St}, runN k s = some t → t.bits.length + t.ow = s.bits.length + s.ow + k
  | 0, s, t, h => by simp only [runN, Option.some.injEq] at h; subst h; rfl
  | k + 1, s, t, h => by
    change (runN k s).bind wstep = some t at h
    cases hr : runN k s with
    | none => rw [hr] at h; cases h
    | some u =>
      rw [hr] at h
      change wstep u = some t at h
      have h1 := runN_sum hr
      unfold wstep at h
      cases ho : offOf u with
      | none => rw [ho] at h; cases h
      | some off =>
        rw [ho] at h
        injection h with h
        have h2 := stepB_sum off u
        rw [← h]
        show (stepB off u).bits.length + (stepB off u).ow = _
        omega
/-- what a Put answers -/
def putE (en : Bool) (t : List Int) (x : Int) : Int := if en = true then 250 else if Good t ∧ 0 ≤ x ∧ x < t.length then 0 else 1
/-- what a Put makes of a state -/
def Nxt (en : Bool) (t : List Int) (x : Int) (s s' : St) : Prop := (en = true ∨ ¬ okS t x) ∧ s' = s ∨ en = false ∧ okS t x ∧ ∃ k, Wid k (cut t x.toNat s) s'
/-- both coders at blocks g, m; v, vm their rows -/
structure Bo (w0 : World) (g m : Nat) (s : St) (en : Bool) (v vm : Value) (W : World) : Prop where
  base : Below w0.heap.size w0 W
  hg : w0.heap.size ≤ g
  gm : g < m
  c : CS W g s en v
  r : RCo W m s.lo s.wd s.ow en s.bits vm
  a1 : v.ownBlock ≠ some m
  a3 : ∀ b, v.ownBlock = some b → vm.ownBlock ≠ some b
  rest : en = false → Rest s
/-- the program's coder is a call ahead -/
structure Ha (w0 : World) (g m : Nat) (s : St) (en : Bool) (s' : St) (en' : Bool) (v vm : Value) (W : World) : Prop where
  base : Below w0.heap.size w0 W
  hg : w0.heap.size ≤ g
  gm : g < m
  c : CS W g s' en' v
  r : RCo W m s.lo s.wd s.ow en s.bits vm
  a1 : v.ownBlock ≠ some m
  a3 : ∀ b, v.ownBlock = some b → vm.ownBlock ≠ some b
section
variable {w0 : World} {g m : Nat} {s s' : St} {en en' : Bool} {v v' vm vm' : Value} {W W' : World}
theorem Bo.drewN (h : Bo w0 g m s en v vm W) (k : Nat) : Bo w0 g m s en v vm (W.drewN k) := ⟨pw_below_drewN h.base k, h.hg, h.gm, CoAt.drewN h.c k, h.r.drewN k, h.a1, h.a3, h.rest⟩
theorem Ha.drewN (h : Ha w0 g m s en s' en' v vm W) (k : Nat) : Ha w0 g m s en s' en' v vm (W.drewN k) := ⟨pw_below_drewN h.base k, h.hg, h.gm, CoAt.drewN h.c k, h.r.drewN k, h.a1, h.a3⟩
theorem Bo.ha (h : Bo w0 g m s en v vm W) : Ha w0 g m s en s en v vm W := ⟨h.base, h.hg, h.gm, h.c, h.r, h.a1, h.a3⟩
theorem Ha.bo (h : Ha w0 g m s en s en v vm W) (hr : en = false → Rest s) : Bo w0 g m s en v vm W := ⟨h.base, h.hg, h.gm, h.c, h.r, h.a1, h.a3, hr⟩
theorem Bo.kept (h : Bo w0 g m s en v vm W) (hb : Below W.heap.size W W') : Bo w0 g m s en v vm W' :=
  ⟨bt h.base hb, h.hg, h.gm, ⟨(hb.block _ (blk_lt h.c.at_)).trans h.c.at_, pw_own_below h.c.own hb, h.c.free⟩, ⟨(hb.block _ (blk_lt h.r.at_)).trans h.r.at_, pw_own_below h.r.own hb⟩, h.a1, h.a3, h.rest⟩
/-- the program's coder called -/
theorem Bo.one (h : Bo w0 g m s en v vm W) (hc : CS W' g s' en' v') (hf : Fr g v v' W W') : Ha w0 g m s en s' en' v' vm W' := by
  have hm : m < W.heap.size := blk_lt h.r.at_
  have hgm := h.gm
  refine ⟨h.base.trans (hf.below.mono h.hg), h.hg, h.gm, hc, ⟨(hf.keep.2 m hm (by omega) (fun e => h.a1 e.symm)).trans h.r.at_, own_move h.r.own fun j hj => hf.keep.2 j (own_lt h.r.own j hj) (by have := own_base h.r.own j hj; omega) (fun e => h.a3 j e.symm hj)⟩, ?_, ?_⟩
  · rcases hf.at_ with e | ⟨b, e, hb⟩
    · rw [e]; exact h.a1
    · rw [e]; intro e2; injection e2 with e2; omega
  · intro b hb
    rcases hf.at_ with e | ⟨b', e, hb'⟩
    · rw [e] at hb; exact h.a3 b hb
    · rw [e] at hb
      injection hb with hb
      subst hb
      intro e2
      have := own_lt h.r.own _ e2
      omega
/-- the document's coder called too -/
theorem Ha.two (h : Ha w0 g m s en s' en' v vm W) (hc : RCo W' m s'.lo s'.wd s'.ow en' s'.bits vm') (hf : Fr m vm vm' W W') (hr : en' = false → Rest s') : Bo w0 g m s' en' v vm' W' := by
  have hg : g < W.heap.size := blk_lt h.c.at_
  have hgm := h.gm
  have hne : ∀ b, vm.ownBlock = some b → m + 1 ≤ b := fun b hb => own_base h.r.own b hb
  refine ⟨h.base.trans (hf.below.mono (by have := h.hg; omega)), h.hg, h.gm, ⟨(hf.keep.2 g hg (by omega) (fun e => by have := hne g e.symm; omega)).trans h.c.at_, own_move h.c.own fun j hj => hf.keep.2 j (own_lt h.c.own j hj) (fun e => h.a1 (by rw [hj, e])) (fun e => h.a3 j hj e.symm), h.c.free⟩, hc, h.a1, ?_, hr⟩
  intro b hb
  rcases hf.at_ with e | ⟨b', e, hb'⟩
  · rw [e]; exact h.a3 b hb
  · rw [e]
    intro e2
    injection e2 with e2
    subst e2
    have := own_lt h.c.own _ hb
    omega
end
/-- a table in memory, apart from the coders -/
structure Tab (W : World) (g : Nat) (v : Value) (A : Option Addr) (c : Nat) (t : List Int) : Prop where
  rd : ReadsInt W .i64 A t.length t
  cap : t.length ≤ c
  in_ : ∀ x ∈ t, -9223372036854775808 ≤ x ∧ x ≤ 9223372036854775807
  far : ∀ ad, A = some ad → ad.block ≠ g ∧ some ad.block ≠ v.ownBlock ∧ ad.block < W.heap.size
theorem reads_keep {W W' : World} {g : Nat} {row : Option Nat} {A : Option Addr} {n : Nat} {t : List Int} (h : ReadsInt W .i64 A n t) (k : KeepBut W W' g row) (hf : ∀ ad, A = some ad → ad.block ≠ g ∧ some ad.block ≠ row) : ReadsInt W' .i64 A n t := by
  refine ⟨h.1, h.2.1, fun h0 => ?_⟩
  obtain ⟨ad, e, hc⟩ := h.2.2 h0
  refine ⟨ad, e, fun j hj => ?_⟩
  have h7 := hc j hj
  rw [← h7]
  exact World.cell?_of_block (k.2 _ (M.cell_lt h7) (by rw [M.add_block]; exact (hf ad e).1) (by rw [M.add_block]; exact (hf ad e).2))
section
variable {w0 : World} {g m : Nat} {s s' : St} {en en' : Bool} {v v' vm vm' : Value} {W W' : World}
theorem Bo.putC {A : Option Addr} {c : Nat} {t : List Int} {x : Int} (h : Bo w0 g m s en v vm W) (ht : Tab W g v A c t) (hn : s.bits.length + s.ow + 65536 < 100000000) :
    Calls Try.prog 18 #[.pointer (some ⟨g, 0, none⟩), .slice A t.length c, .int .i64 x] W fun e w' => e = .returned (.int .i64 (putE en t x)) ∧ ∃ s' v', Nxt en t x s s' ∧ Ha w0 g m s en s' en v' vm w' ∧ ReadsInt w' .i64 A t.length t := by
  cases en with
  | true => exact (put_ended g s v _ _ W h.c).mono fun e w' ⟨h1, h2⟩ => ⟨h1, s, v, .inl ⟨.inl rfl, rfl⟩, by rw [h2]; exact h.ha, by rw [h2]; exact ht.rd⟩
  | false =>
    by_cases hx : okS t x
    · obtain ⟨hg, hx0, hx1⟩ := id hx
      obtain ⟨i, rfl⟩ := Int.eq_ofNat_of_zero_le hx0
      have hi : i < t.length := by omega
      refine (put_ok g s v A t.length c t i W h.c ht.rd ht.cap ht.in_ hg hi (h.rest rfl) hn (fun ad e => (ht.far ad e).1)).mono fun e w' ⟨h1, k, s', v', h2, h3, h4⟩ => ?_
      exact ⟨by rw [h1]; unfold putE; rw [if_neg (by decide), if_pos ⟨hg, hx0, hx1⟩], s', v', .inr ⟨rfl, hx, k, h2⟩, h.one h3 h4, reads_keep ht.rd h4.keep (fun ad e => ⟨(ht.far ad e).1, (ht.far ad e).2.1⟩)⟩
    · exact (put_no g s v A t.length c t x W h.c ht.rd ht.in_ hx).mono fun e w' ⟨h1, h2⟩ => ⟨by rw [h1]; unfold putE; rw [if_neg (by decide), if_neg (show ¬ (Good t ∧ 0 ≤ x ∧ x < t.length) from hx)], s, v, .inl ⟨.inr hx, rfl⟩, by rw [h2]; exact h.ha, by rw [h2]; exact ht.rd⟩
theorem Ha.putM {A : Option Addr} {c : Nat} {t : List Int} {x : Int} (h : Ha w0 g m s en s' en v vm W) (hN : Nxt en t x s s') (hr : ReadsInt W .i64 A t.length t) (hb : ∀ x ∈ t, -9223372036854775808 ≤ x ∧ x ≤ 9223372036854775807) (hs : en = false → Rest s) (hn : s.bits.length + s.ow + 65536 < 100000000) :
    Calls Try.prog 19 #[.pointer (some ⟨m, 0, none⟩), .slice A t.length c, .int .i64 x] W fun e w' => e = .returned (.int .i64 (putE en t x)) ∧ s'.bits.length + s'.ow ≤ s.bits.length + s.ow + 14 ∧ ∃ vm', Bo w0 g m s' en v vm' w' := by
  rcases hN with ⟨h0, rfl⟩ | ⟨rfl, hx, k, hW⟩
  · cases en with
    | true => exact (rput_ended m s'.lo s'.wd s'.ow s'.bits vm _ _ W h.r).mono fun e w' ⟨h1, h2⟩ => ⟨h1, by omega, vm, by rw [h2]; exact h.bo hs⟩
    | false =>
      have hx : ¬ okS t x := by rcases h0 with h0 | h0; cases h0; exact h0
      exact (rput_no m s'.lo s'.wd s'.ow s'.bits vm A t.length c t x W h.r hr hb hx).mono fun e w' ⟨h1, h2⟩ => ⟨by rw [h1]; unfold putE; rw [if_neg (by decide), if_neg (show ¬ (Good t ∧ 0 ≤ x ∧ x < t.length) from hx)], by omega, vm, by rw [h2]; exact h.bo hs⟩
  · obtain ⟨hg, hx0, hx1⟩ := id hx
    obtain ⟨i, rfl⟩ := Int.eq_ofNat_of_zero_le hx0
    have hi : i < t.length := by omega
    rw [Int.toNat_natCast] at hW
    have hcut := cut_in hg hi (hs rfl)
    have hk := Wid.few hW hcut.1 hcut.2.1
    have hsum := runN_sum hW.1
    refine (rput_ok m s vm A t.length c t i W h.r hr hb hg hi (hs rfl) hn).mono fun e w' ⟨h1, k', s1, v1, h2, h3, h4⟩ => ?_
    obtain ⟨-, rfl⟩ := hW.det h2
    refine ⟨by rw [h1]; unfold putE; rw [if_neg (by decide), if_pos ⟨hg, hx0, hx1⟩], ?_, v1, h.two h3 h4 (fun _ => Wid.rest hW hcut.1)⟩
    change s'.bits.length + s'.ow = s.bits.length + s.ow + k at hsum
    omega
/-- what an End answers -/
def endE (en : Bool) : Int := if en = true then 250 else 0
def finS (en : Bool) (s : St) : St := if en = true then s else fin s
theorem fin_ow (s : St) : (fin s).ow = 0 := by unfold fin tellB; rfl
theorem fin_len (s : St) : (fin s).bits.length = s.bits.length + s.ow + 2 := by unfold fin tellB; simp; omega
theorem Bo.endC (h : Bo w0 g m s en v vm W) (hn : s.bits.length + s.ow + 65536 < 100000000) :
    Calls Try.prog 20 #[.pointer (some ⟨g, 0, none⟩)] W fun e w' => e = .returned (.int .i64 (endE en)) ∧ ∃ v', Ha w0 g m s en (finS en s) true v' vm w' := by
  cases en with
  | true => exact (end_ended g s v W h.c).mono fun e w' ⟨h1, h2⟩ => ⟨h1, v, by rw [h2]; exact h.ha⟩
  | false => exact (end_any g s v W h.c hn).mono fun e w' ⟨h1, v', h2, h3⟩ => ⟨h1, v', h.one h2 h3⟩
theorem Ha.endM (h : Ha w0 g m s en (finS en s) true v vm W) (hn : s.bits.length + s.ow + 65536 < 100000000) :
    Calls Try.prog 21 #[.pointer (some ⟨m, 0, none⟩)] W fun e w' => e = .returned (.int .i64 (endE en)) ∧ ∃ vm', Bo w0 g m (finS en s) true v vm' w' := by
  cases en with
  | true => exact (rend_ended m _ _ _ _ vm W h.r).mono fun e w' ⟨h1, h2⟩ => ⟨h1, vm, by rw [h2]; exact h.bo (fun h => by cases h)⟩
  | false => exact (rend_any m _ _ _ _ vm W h.r hn).mono fun e w' ⟨h1, v', h2, h3⟩ => ⟨h1, v', h.two h2 h3 (fun h => by cases h)⟩
theorem finS_sum (en : Bool) (s : St) : (finS en s).bits.length + (finS en s).ow ≤ s.bits.length + s.ow + 2 := by
  unfold finS
  split
  · omega
  · rw [fin_len, fin_ow]; omega
end
end Go.Proofs.Ytikjolinendfgaa.Ari
