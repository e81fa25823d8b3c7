/- The walk of the statement SpecAny. -/
import Derived.Test.YtikjolinendfgaaSpG
set_option linter.unusedVariables false
set_option linter.unusedSimpArgs false
namespace Go.Proofs.Ytikjolinendfgaa.Spe
open Go.RowKit Go.Proofs.YtikjolinendfgaaW.PrintWords Go.Proofs.YtikjolinendfgaaW.PrintLast Go.Proofs.YtikjolinendfgaaW.PrintMore Go.Proofs.Ytikjolinendfgaa.Bit Go.Proofs.Ytikjolinendfgaa.Ari

theorem only_b {f n : Nat} {W W' : World} (h : OnlyB f W W') (h1 : n ≤ f) (h2 : n ≤ W.heap.size) : Below n W W' := ⟨h.os, h.tape, h.output, h.size, fun i hi => h.block i (by omega) (fun e => by injection e with e; omega)⟩
theorem lastN_le (L : List Int) : ∀ n, lastN L n ≤ n
  | 0 => Nat.le_refl _
  | n + 1 => by
    show (if rd L (n : Int) = 0 then lastN L n else n + 1) ≤ n + 1
    have := lastN_le L n
    split <;> omega
set_option maxRecDepth 100000 in
set_option maxHeartbeats 2000000 in
theorem any_walk (A0 : Option Addr) (n0 c0 : Nat) (l0 : List Int) (N : Nat) (w : World) (hN : N < 256) (r0 : ReadsInt w .u8 A0 n0 l0) (hl0 : ∀ x ∈ l0, 0 ≤ x ∧ x ≤ 255) (y0 : n0 ≤ 140737488351232) :
    Calls Try.prog 10 #[.slice A0 n0 c0, .int .u8 N] w fun e w' => e = .returned (.bool true) ∧ Below w.heap.size w w' := by
  have HR0 := Lib.hid r0
  have hn0 : l0.length = n0 := r0.1
  have HN0 := Lib.hid hn0
  clear r0 hn0
  by_cases h0 : 512 < n0
  · go_enter Try.func10, Try.ntmps10
    go_wp2_with fail
    refine (alive _).mono ?_
    rintro e w1 ⟨rfl, hb1⟩
    go_wp2
    go_ret
    exact ⟨rfl, hb1⟩
  by_cases h1 : 120 < N
  · go_enter Try.func10, Try.ntmps10
    go_wp2_with fail
    refine (alive _).mono ?_
    rintro e w1 ⟨rfl, hb1⟩
    go_wp2
    go_ret
    exact ⟨rfl, hb1⟩
  obtain ⟨O, hO⟩ := bytes_bits l0 hl0
  have HO := Lib.hid hO
  clear hO hl0
  go_enter Try.func10, Try.ntmps10
  go_wp2_with fail
  refine (alive _).mono ?_
  rintro e w1 ⟨rfl, hb1⟩
  go_wp2_with fail
  refine (open_yes A0 n0 c0 O _ (by omega) (by have h := HR0.out.below hb1; rw [← HO.out, HN0.out] at h; exact h)).mono ?_
  rintro e w3 ⟨b, A', c', rfl, hE, hb3, hbs, hbl⟩
  have hEP := eye_p hE hbl (by omega)
  have HB3 : Hid (Below w.heap.size w w3) := hb1.trans (hb3.mono hb1.size)
  have hEN : EyeN w3 w3.heap.size (some ⟨b, 0, none⟩) (fun i => (bitI O n0 i).toNat) := by
    have hb := blk_lt hE.at_
    refine .inr ⟨b, n0, O, A', c', rfl, hE, hb, fun ad e => by have := hbl ad e; omega, by omega, fun i => ?_⟩
    show (((bitI O n0 i).toNat : Nat) : Int) = _
    have : 0 ≤ bitI O n0 i := by
      unfold bitI
      split
      · omega
      · decide
    omega
  generalize (fun i : Nat => (bitI O n0 i).toNat) = B at hEP hEN
  have HEN := Lib.hid hEN
  clear hE hbs hbl hb3 hb1 hEN
  go_wp2_with fail
  refine (newFinder_any _ B 0 0 rfl (by omega) _ hEP).mono ?_
  rintro e w4 ⟨rfl, hF, hlt⟩
  have hv16 := vN_lt (fr := 0) hEP.le 16
  have hFS := fs0 hF
  have HFS : Hid (FS w3.heap.size (some ⟨b, 0, none⟩) 0 B w4 ⟨0, 65536, vN B 0 16, 16⟩ w4) := ⟨hFS.at_, hFS.eye, OnlyB.refl _ _⟩
  have HRE : Hid (RestF ⟨0, 65536, vN B 0 16, 16⟩) := rest0 (by rw [show (65536 : Nat) = 2 ^ 16 from rfl]; exact hv16)
  have HE4 : Hid (EyeN w4 w3.heap.size (some ⟨b, 0, none⟩) B) := HEN.out.of_blocks fun k hk => hF.only.block k hk (fun e => by injection e with e; omega)
  have HB4 : Hid (Below w.heap.size w w4) := HB3.out.trans ((only_below hF.only (Nat.le_refl _)).mono HB3.out.size)
  have HSZ : Hid (w.heap.size ≤ w3.heap.size ∧ w.heap.size ≤ w4.heap.size) := ⟨HB3.out.size, HB4.out.size⟩
  have hN120 : N ≤ 120 := by omega
  have hrd : (⟨0, 65536, vN B 0 16, 16⟩ : Fs).rd ≤ 100000 := by show 16 ≤ 100000; decide
  generalize (⟨0, 65536, vN B 0 16, 16⟩ : Fs) = fs at HFS HRE hrd
  have HRD := Lib.hid hrd
  clear hF hFS hlt hEP hv16 HEN hrd
  go_wp2_with fail
  refine (get_steps w3.heap.size (some ⟨b, 0, none⟩) B fs N w4 HFS.out HRE.out HE4.out hN120 HRD.out).mono ?_
  rintro e w5 (⟨L, ds, v, hL, rfl, hG⟩ | ⟨rfl, hO5, -⟩)
  · have HB5 : Hid (Below w.heap.size w w5) := HB4.out.trans (only_b hG.only HSZ.out.1 HSZ.out.2)
    have hin := lns_in hG.lns
    obtain ⟨A5, c5, rfl, hc5, hr5⟩ := own_reads_le hG.own
    have hm : mayS N L = 0 := mayS_ok.2 ⟨hN120, hin.1⟩
    rw [hL] at hr5 hc5 ⊢
    have HR5 := Lib.hid hr5
    have HC := Lib.hid (cost_good A5 N c5 L w5 hr5 hc5 hm)
    have hlast := lastN_le L N
    clear hin hr5 hm hG hL
    go_wp2_with fail
    refine HC.out.mono ?_
    rintro e w6 ⟨⟨s', -, -, rfl⟩, hb6⟩
    have HB6 := Lib.hid (bt HB5.out hb6)
    have HLA := Lib.hid (last_any A5 N c5 L w6 (HR5.out.below hb6))
    obtain ⟨R, hR⟩ : ∃ R, R = lastN L N := ⟨_, rfl⟩
    rw [← hR] at HLA hlast
    clear hb6 HC hR
    go_wp2_with fail
    refine HLA.out.mono ?_
    rintro e w7 ⟨rfl, rfl⟩
    go_wp2
    go_ret
    exact ⟨rfl, HB6.out⟩
  · have HB5 : Hid (Below w.heap.size w w5) := HB4.out.trans (only_b hO5 HSZ.out.1 HSZ.out.2)
    clear hO5
    go_wp2
    go_ret
    exact ⟨rfl, HB5.out⟩
theorem any_of (A0 : Option Addr) (n0 c0 : Nat) (a : Int) (w : World) (h0 : ∃ l : List Int, l.length = n0 ∧ ReadsInt w .u8 A0 n0 l ∧ (∀ x ∈ l, 0 ≤ x ∧ x ≤ 255) ∧ n0 ≤ c0) (y0 : n0 * 1 ≤ 140737488351232) (h2 : (Lit.int .u8 a).wf = true) :
    Calls Try.prog 10 #[.slice A0 n0 c0, .int .u8 a] w fun e w' => e = .returned (.bool true) ∧ Below w.heap.size w w' := by
  obtain ⟨l, e, hr, hl, -⟩ := h0
  have h5 : IntKind.u8.min ≤ a ∧ a ≤ IntKind.u8.max := by simpa [Lit.wf] using h2
  have h6 : 0 ≤ a ∧ a ≤ 255 := h5
  obtain ⟨N, rfl⟩ := Int.eq_ofNat_of_zero_le h6.1
  exact any_walk A0 n0 c0 l N w (by omega) hr hl (by omega)
end Go.Proofs.Ytikjolinendfgaa.Spe
