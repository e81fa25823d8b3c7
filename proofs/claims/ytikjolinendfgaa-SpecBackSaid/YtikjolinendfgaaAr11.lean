/- The walk of Check, and of the statement ArithAny. -/
import Derived.Test.YtikjolinendfgaaAr10
import Derived.Test.YtikjolinendfgaaAr7
set_option linter.unusedVariables false
set_option linter.unusedSimpArgs false
namespace Go.Proofs.Ytikjolinendfgaa.Ari
open Go.RowKit Go.Proofs.YtikjolinendfgaaW.PrintWords Go.Proofs.YtikjolinendfgaaW.PrintLast Go.Proofs.YtikjolinendfgaaW.PrintMore Go.Proofs.Ytikjolinendfgaa.Bit

set_option maxRecDepth 100000 in
set_option maxHeartbeats 1000000 in
theorem check_any (A : Option Addr) (n c : Nat) (t : List Int) (w : World) (hr : ReadsInt w .i64 A n t) (hb : ∀ x ∈ t, -9223372036854775808 ≤ x ∧ x ≤ 9223372036854775807) :
    Calls Try.prog 16 #[.slice A n c] w fun e w' => e = .returned (.int .i64 (if Good t then 0 else 1)) ∧ w' = w := by
  have HT := Lib.hid (total_any A n c t w hr hb)
  by_cases hg : Good t
  · rw [if_pos hg]
    have hz := total_in hg
    have hne : (totalZ t == 0) = false := beq_eq_false_iff_ne.2 (by omega)
    generalize totalZ t = T at HT hne
    clear hr hb hg hz
    go_enter Try.func16, Try.ntmps16
    go_wp2_with (go_at_call 41; refine HT.out.mono ?_; rintro e w1 ⟨rfl, rfl⟩)
    go_ret
    exact ⟨rfl, rfl⟩
  · rw [if_neg hg]
    rw [total_not hg] at HT
    clear hr hb hg
    go_enter Try.func16, Try.ntmps16
    go_wp2_with (go_at_call 41; refine HT.out.mono ?_; rintro e w1 ⟨rfl, rfl⟩)
    go_ret
    exact ⟨rfl, rfl⟩
/-- a finder between two symbols -/
def RestF (s : Fs) : Prop := InF s ∧ 16384 < s.wd
theorem rest0 {v : Nat} (h : v < 65536) : RestF ⟨0, 65536, v, 16⟩ := by
  unfold RestF InF
  simp only
  omega
theorem fs0 {f : Nat} {ep : Option Addr} {fr : Nat} {B : Nat → Nat} {w0 W : World} {v : Nat} (h : Fn f ep fr B w0 0 65535 16 v W) : FS f ep fr B w0 ⟨0, 65536, v, 16⟩ W := by
  show Fn f ep fr B w0 ((0 : Nat) : Int) (((0 : Nat) : Int) + ((65536 : Nat) : Int) - 1) 16 v W
  rw [show (((0 : Nat) : Int) + ((65536 : Nat) : Int) - 1) = 65535 from by omega]
  exact h
theorem Got.rest {f : Nat} {ep : Option Addr} {fr : Nat} {B : Nat → Nat} {w0 : World} {s : Fs} {t : List Int} {i : Nat} {w' : World} (h : Got f ep fr B w0 s t i w') (hs : RestF s) (hg : Good t) :
    i < t.length ∧ ∃ s', RestF s' ∧ s.rd ≤ s'.rd ∧ s'.rd ≤ s.rd + 14 ∧ FS f ep fr B w0 s' w' := by
  obtain ⟨h1, h2, h3, k, s', h4, h5, h6⟩ := h
  have hB := h6.eye.le
  obtain ⟨hi, hw⟩ := hs
  have e1 := sum_take_le hg.2.2.1 i
  have e2 := sum_take_le hg.2.2.1 (i + 1)
  have e3 := sum_take_succ t i h1
  have e4 := (hg.pre i h1).1
  have e5 := total_in hg
  have hN : 1 ≤ t.sum.toNat ∧ t.sum.toNat ≤ 4096 := by omega
  have hTN : (t.take (i + 1)).sum.toNat ≤ t.sum.toNat := by omega
  have hFT : (t.take i).sum.toNat < (t.take (i + 1)).sum.toNat := by omega
  obtain ⟨n1, n2, n3⟩ := narF_in hi hN.1 h2 h3 hTN
  have n4 := (narrow_in (s := ⟨s.lo, s.wd, 0, []⟩) ⟨hw, hi.2.1⟩ hN hFT hTN).2.1
  obtain ⟨r1, r2, r3⟩ := runF_in hB h4 n1
  have hk : k ≤ 14 := by
    rcases Nat.lt_or_ge 14 k with hk | hk
    · exfalso
      have a3 : 2 ^ 15 ≤ 2 ^ k := Nat.pow_le_pow_right (by decide) hk
      have a5 : 2 ^ 15 * 4 ≤ 2 ^ k * (narF s t.sum.toNat (t.take i).sum.toNat (t.take (i + 1)).sum.toNat).wd := Nat.mul_le_mul a3 n4
      have a6 := r1.2.1
      omega
    · exact hk
  refine ⟨h1, s', ⟨r1, off_none (s := ⟨s'.lo, s'.wd, 0, []⟩) h5 ⟨r1.1, r1.2.1⟩⟩, ?_, ?_, h6⟩
  · rw [r3]; exact Nat.le_add_right _ _
  · rw [r3]; exact Nat.add_le_add_left hk _
theorem eye_p {W : World} {b n : Nat} {O : Nat → Bool} {A : Option Addr} {c : Nat} (h : EyeAt W b n 0 0 O A c) (hbl : ∀ ad, A = some ad → ad.block < b) (hn : n ≤ 512) : EyeP W W.heap.size (some ⟨b, 0, none⟩) (fun i => (bitI O n i).toNat) := by
  have hb := blk_lt h.at_
  refine .inr ⟨b, n, O, A, c, rfl, h, by omega, fun ad e => by have := hbl ad e; omega, hn, fun i => ?_⟩
  show (((bitI O n i).toNat : Nat) : Int) = _
  have : 0 ≤ bitI O n i := by
    unfold bitI
    split
    · omega
    · decide
  omega
theorem ret_true {b : Prop} [Decidable b] (h : b) : Ending.returned (.bool (decide b)) = .returned (.bool true) := by rw [decide_eq_true h]
theorem only_below {f : Nat} {w W : World} (h : OnlyB f w W) (hf : w.heap.size ≤ f) : Below w.heap.size w W := ⟨h.os, h.tape, h.output, h.size, fun i hi => h.block i hi (fun e => by injection e with e; omega)⟩
set_option maxRecDepth 100000 in
set_option maxHeartbeats 2000000 in
theorem any_walk (A0 : Option Addr) (n0 c0 : Nat) (l0 : List Int) (A1 : Option Addr) (n1 c1 : Nat) (t : List Int) (N : Nat) (w : World) (hN : N < 256) (r0 : ReadsInt w .u8 A0 n0 l0) (hl0 : ∀ x ∈ l0, 0 ≤ x ∧ x ≤ 255) (r1 : ReadsInt w .i64 A1 n1 t) (hb : ∀ x ∈ t, -9223372036854775808 ≤ x ∧ x ≤ 9223372036854775807) (hc : n1 ≤ c1) (y0 : n0 ≤ 140737488351232) (y1 : n1 ≤ 140737488351232) :
    Calls Try.prog 7 #[.slice A0 n0 c0, .slice A1 n1 c1, .int .u8 N] w fun e w' => e = .returned (.bool true) ∧ Below w.heap.size w w' := by
  have HR0 := Lib.hid r0
  have HR1 := Lib.hid r1
  have HB := Lib.hid hb
  obtain ⟨hn0, hn1⟩ : l0.length = n0 ∧ t.length = n1 := ⟨r0.1, r1.1⟩
  have HN1 := Lib.hid hn1
  have HN0 := Lib.hid hn0
  clear r0 r1 hb hn0 hn1
  by_cases h0 : 512 < n0
  · go_enter Try.func7, Try.ntmps7
    go_wp2_with (go_at_call 12; refine (alive _).mono ?_; rintro e w1 ⟨rfl, hb1⟩)
    go_ret
    exact ⟨rfl, hb1⟩
  by_cases h1 : 100 < n1
  · go_enter Try.func7, Try.ntmps7
    go_wp2_with (go_at_call 12; refine (alive _).mono ?_; rintro e w1 ⟨rfl, hb1⟩)
    go_ret
    exact ⟨rfl, hb1⟩
  by_cases hg : Good t
  · obtain ⟨O, hO⟩ := bytes_bits l0 hl0
    have HO := Lib.hid hO
    have HG := Lib.hid hg
    clear hO hg hl0
    go_enter Try.func7, Try.ntmps7
    go_wp2_with (first
      | (go_at_call 12; refine (alive _).mono ?_; rintro e w1 ⟨rfl, hb1⟩)
      | (go_at_call 16; refine (check_any A1 n1 c1 t _ (HR1.out.below hb1) HB.out).mono ?_; rintro e w2 ⟨rfl, rfl⟩; rw [if_pos HG.out])
      | (go_at_call 30; refine (open_yes A0 n0 c0 O _ (by omega) (by have h := HR0.out.below hb1; rw [← HO.out, HN0.out] at h; exact h)).mono ?_; rintro e w3 ⟨b, A', c', rfl, hE, hb3, hbs, hbl⟩; have hEP := eye_p hE hbl (by omega); have HB3 := Lib.hid hb3; have HR3 := Lib.hid ((HR1.out.below hb1).below hb3); clear hE hb3 hbs hbl)
      | (go_at_call 25; refine (newFinder_any _ _ 0 0 rfl (by omega) _ hEP).mono ?_; rintro e w4 ⟨rfl, hF, hlt⟩; have HF4 := Lib.hid hF; have hle := hEP.le; clear hF hlt hEP))
    have hv16 := vN_lt (fr := 0) hle 16
    have H0 : Hid (FS w3.heap.size (some ⟨b, 0, none⟩) 0 (fun i => (bitI O n0 i).toNat) w3 ⟨0, 65536, vN (fun i => (bitI O n0 i).toNat) 0 16, 16⟩ w4) := fs0 HF4.out
    have HI0 : Hid (RestF ⟨0, 65536, vN (fun i => (bitI O n0 i).toNat) 0 16, 16⟩) := rest0 (by rw [show (65536 : Nat) = 2 ^ 16 from rfl]; exact hv16)
    generalize vN (fun i => (bitI O n0 i).toNat) 0 16 = v16 at H0 HI0
    generalize (fun i : Nat => (bitI O n0 i).toNat) = B at H0 HI0
    clear HF4 hle hv16
    go_loopg [10] N (fun gk x W => ∃ (i : Nat) (s : Fs), i ≤ N ∧ gk = N - i ∧ x = .int .i64 i ∧ 16 ≤ s.rd ∧ s.rd ≤ 16 + 14 * i ∧ Hid (RestF s) ∧ Hid (FS w3.heap.size (some ⟨b, 0, none⟩) 0 B w3 s W))
    case atStart => exact ⟨0, _, by omega, rfl, rfl, Nat.le_refl _, Nat.le_refl _, HI0, H0⟩
    case round =>
      obtain ⟨i, s, hi, rfl, rfl, hs1, hs2, HI, HFS⟩ := hrel
      have HBW : Hid (Below w3.heap.size w3 wr) := only_below HFS.out.only (Nat.le_refl _)
      by_cases hlt : i < N
      · have hfar : ∀ ad, A1 = some ad → ad.block ≠ w3.heap.size := by
          intro ad e
          have h5 := HR3.out
          have h6 : 0 < n1 := by have := HG.out.1; have := HN1.out; omega
          obtain ⟨ad', e', hcl⟩ := h5.2.2 h6
          rw [e] at e'
          injection e' with e'
          subst e'
          have h7 := hcl 0 h6
          intro h8
          have h9 : w3.heap[(ad.add 0).block]? = none := Array.getElem?_eq_none (by rw [Bit.add_block, h8]; exact Nat.le_refl _)
          unfold World.cell? at h7
          rw [h9] at h7
          simp at h7
        go_wp2_with (go_at_call 27; refine (get_ok _ _ 0 B w3 s A1 n1 c1 t _ HFS.out HI.out.1 (HR3.out.below HBW.out) hc HB.out HG.out (by omega) (by omega) hfar).mono ?_; rintro e w5 ⟨k, rfl, hG⟩; obtain ⟨hk, s', q1, q2, q3, q4⟩ := hG.rest HI.out HG.out; rw [HN1.out] at hk; have hk0 : (0 : Int) ≤ (k : Int) := (by omega); have HQ := Lib.hid (And.intro q1 q4); clear q1 q4 hG)
        go_roundg (N - (i + 1))
        case measure => omega
        case rel => exact ⟨i + 1, s', by omega, rfl, by go_num, by omega, by omega, HQ.out.1, HQ.out.2⟩
      · obtain rfl : i = N := by omega
        go_wp2_with (go_at_call 29; refine (read_any _ _ 0 B w3 s _ HFS.out).mono ?_; rintro e w5 ⟨rfl, rfl⟩)
        go_ret
        exact ⟨ret_true (by omega), hb1.trans ((HB3.out.trans (HBW.out.mono HB3.out.size)).mono hb1.size)⟩
  · go_enter Try.func7, Try.ntmps7
    go_wp2_with (first
      | (go_at_call 12; refine (alive _).mono ?_; rintro e w1 ⟨rfl, hb1⟩)
      | (go_at_call 16; refine (check_any A1 n1 c1 t _ (HR1.out.below hb1) HB.out).mono ?_; rintro e w2 ⟨rfl, rfl⟩; rw [if_neg hg]))
    go_ret
    exact ⟨rfl, hb1⟩
theorem any_of (A0 : Option Addr) (n0 c0 : Nat) (A1 : Option Addr) (n1 c1 : Nat) (z : List Int) (a : Int) (w : World) (h0 : ∃ l : List Int, l.length = n0 ∧ ReadsInt w .u8 A0 n0 l ∧ (∀ x ∈ l, 0 ≤ x ∧ x ≤ 255) ∧ n0 ≤ c0) (y0 : n0 * 1 ≤ 140737488351232)
    (h1 : ReadsInt w .i64 A1 n1 z ∧ z.length = n1 ∧ (∀ n ∈ z, (Lit.int .i64 n).wf = true) ∧ n1 ≤ c1) (y1 : n1 * 8 ≤ 140737488351232) (h2 : (Lit.int .u8 a).wf = true) :
    Calls Try.prog 7 #[.slice A0 n0 c0, .slice A1 n1 c1, .int .u8 a] w fun e w' => e = .returned (.bool true) ∧ Below w.heap.size w w' := by
  obtain ⟨l, e, hr, hl, -⟩ := h0
  obtain ⟨r1, -, k2, k3⟩ := h1
  have h5 : IntKind.u8.min ≤ a ∧ a ≤ IntKind.u8.max := by simpa [Lit.wf] using h2
  have h6 : 0 ≤ a ∧ a ≤ 255 := h5
  obtain ⟨N, rfl⟩ := Int.eq_ofNat_of_zero_le h6.1
  exact any_walk A0 n0 c0 l A1 n1 c1 z N w (by omega) hr hl r1 (fun x hx => by
    have h7 : IntKind.i64.min ≤ x ∧ x ≤ IntKind.i64.max := by simpa [Lit.wf] using k2 x hx
    exact h7) k3 (by omega) (by omega)
end Go.Proofs.Ytikjolinendfgaa.Ari
