/- The walks of the package arith: Get, Read of a finder. -/
import Derived.Test.YtikjolinendfgaaAr8
import Derived.Test.YtikjolinendfgaaAr8w
import Derived.Test.YtikjolinendfgaaAr6
set_option linter.unusedVariables false
set_option linter.unusedSimpArgs false
namespace Go.Proofs.Ytikjolinendfgaa.Ari
open Go.RowKit Go.Proofs.YtikjolinendfgaaW.PrintWords Go.Proofs.YtikjolinendfgaaW.PrintLast Go.Proofs.YtikjolinendfgaaW.PrintMore Go.Proofs.Ytikjolinendfgaa.Bit

/-- a finder in numbers: a range, a value in it, how many bits were read -/
structure Fs where
  lo : Nat
  wd : Nat
  va : Nat
  rd : Nat
def nxF (B : Nat → Nat) (fr : Nat) (off : Nat) (s : Fs) : Fs := ⟨2 * (s.lo - off), 2 * s.wd, 2 * (s.va - off) + B (fr + s.rd), s.rd + 1⟩
def runF (B : Nat → Nat) (fr : Nat) : Nat → Fs → Option Fs := runG Fs.lo Fs.wd (nxF B fr)
/-- the value lies in the range, the range in the whole -/
def InF (s : Fs) : Prop := 1 ≤ s.wd ∧ s.lo + s.wd ≤ 65536 ∧ s.lo ≤ s.va ∧ s.va < s.lo + s.wd
theorem offL_le {lo wd off : Nat} (h : offL lo wd = some off) : off ≤ lo ∧ lo + wd ≤ 32768 + off ∧ (off = 0 ∨ off = 32768 ∨ off = 16384) ∨ off ≤ lo ∧ off = 32768 := by
  rcases off_cases (s := ⟨lo, wd, 0, []⟩) h with ⟨rfl, h1⟩ | ⟨rfl, h1, h2⟩ | ⟨rfl, h1, h2, h3, h4⟩
  · exact .inl ⟨Nat.zero_le _, by show lo + wd ≤ 32768 + 0; exact h1, .inl rfl⟩
  · exact .inr ⟨h2, rfl⟩
  · exact .inl ⟨h3, by show lo + wd ≤ 32768 + 16384; exact h4, .inr (.inr rfl)⟩
theorem nxF_in {B : Nat → Nat} {fr off : Nat} {s : Fs} (hB : ∀ i, B i ≤ 1) (h : offL s.lo s.wd = some off) (hi : InF s) : InF (nxF B fr off s) ∧ off ≤ s.va ∧ s.wd ≤ 32768 := by
  obtain ⟨h1, h2, h3, h4⟩ := hi
  have hb := hB (fr + s.rd)
  have h5 := offL_le h
  unfold InF nxF
  show (1 ≤ 2 * s.wd ∧ 2 * (s.lo - off) + 2 * s.wd ≤ 65536 ∧ 2 * (s.lo - off) ≤ 2 * (s.va - off) + B (fr + s.rd) ∧ 2 * (s.va - off) + B (fr + s.rd) < 2 * (s.lo - off) + 2 * s.wd) ∧ _
  omega
theorem runF_in {B : Nat → Nat} {fr : Nat} (hB : ∀ i, B i ≤ 1) : ∀ {k : Nat} {s t : Fs}, runF B fr k s = some t → InF s → InF t ∧ t.wd = 2 ^ k * s.wd ∧ t.rd = s.rd + k
  | 0, s, t, h, hi => by
    have e : s = t := Option.some.inj h
    subst e
    exact ⟨hi, by omega, rfl⟩
  | k + 1, s, t, h, hi => by
    change (runF B fr k s).bind _ = some t at h
    cases hr : runF B fr k s with
    | none => rw [hr] at h; cases h
    | some u =>
      rw [hr] at h
      obtain ⟨h1, h2, h3⟩ := runF_in hB hr hi
      cases ho : offL u.lo u.wd with
      | none => change Option.map _ (offL u.lo u.wd) = _ at h; rw [ho] at h; cases h
      | some off =>
        change Option.map _ (offL u.lo u.wd) = _ at h
        rw [ho] at h
        have e : nxF B fr off u = t := Option.some.inj h
        subst e
        refine ⟨(nxF_in hB ho h1).1, ?_, ?_⟩
        · show 2 * u.wd = _
          rw [h2, Nat.pow_succ, Nat.mul_comm (2 ^ k) 2, Nat.mul_assoc]
        · show u.rd + 1 = _
          omega
/-- a finder in memory, as it stands -/
def FS (f : Nat) (ep : Option Addr) (fr : Nat) (B : Nat → Nat) (w0 : World) (s : Fs) (W : World) : Prop := Fn f ep fr B w0 s.lo ((s.lo : Int) + s.wd - 1) s.rd s.va W
theorem widen_finder (f : Nat) (ep : Option Addr) (fr : Nat) (B : Nat → Nat) (w0 : World) (s : Fs) (w : World) (h : FS f ep fr B w0 s w) (hi : InF s) (h1 : fr ≤ 100000000) (h2 : s.rd ≤ 1000000) :
    Calls Try.prog 43 #[.pointer (some ⟨f, 0, none⟩), .func (.func 52) #[.pointer (some ⟨f, 0, none⟩)] #[]] w fun e w' => e = .returned (.tuple #[]) ∧ ∃ k t, runF B fr k s = some t ∧ offL t.lo t.wd = none ∧ FS f ep fr B w0 t w' := by
  have hB := h.eye.le
  refine (widen_fgen (α := Fs) f _ Fs.lo Fs.wd (nxF B fr) (fun t W => InF t ∧ t.rd + (65536 - t.wd) ≤ 2000000 ∧ FS f ep fr B w0 t W)
    (fun _ _ => rfl) (fun _ _ => rfl) (fun a W ⟨_, _, h⟩ => Fn.span h a.lo a.wd rfl rfl) (fun a W ⟨h, _⟩ => ⟨h.1, h.2.1⟩) (fun a W off x ⟨k1, k2, k3⟩ ho hx => ?_) s w ⟨hi, by omega, h⟩).mono ?_
  · have hn := nxF_in (fr := fr) hB ho k1
    obtain ⟨i1, i2, i3, i4⟩ := k1
    refine (fstep_any f ep fr B w0 _ _ a.rd a.va x off hx hn.2.1 (by omega) W k3 h1 (by omega)).mono ?_
    rintro e W' ⟨rfl, k4⟩
    refine ⟨rfl, Fn.span k4 a.lo a.wd rfl rfl, hn.1, ?_, ?_⟩
    · show a.rd + 1 + (65536 - 2 * a.wd) ≤ 2000000
      omega
    · exact ((k4.s0 ((2 * (a.lo - off) : Nat) : Int)).s1 (((2 * (a.lo - off) : Nat) : Int) + ((2 * a.wd : Nat) : Int) - 1)).drew
  · rintro e w' ⟨rfl, k, t, ⟨k1, k2, k3⟩, k4, k5⟩
    exact ⟨rfl, k, t, k4, k5, k3⟩
set_option maxRecDepth 100000 in
set_option maxHeartbeats 400000 in
theorem fwidth_any (g lo wd : Nat) (w : World) (h : SpanAt w g lo wd) (hl : lo + wd ≤ 65536) (h1 : 1 ≤ wd) :
    Calls Try.prog 51 #[.pointer (some ⟨g, 0, none⟩)] w fun e w' => e = .returned (.int .i64 wd) ∧ ∃ k, w' = w.drewN k := width_any g lo wd w h hl h1
set_option maxRecDepth 100000 in
set_option maxHeartbeats 1000000 in
theorem get_nil (u : Value) (w : World) : Calls Try.prog 27 #[.pointer none, u] w fun e w' => e = .returned (.tuple #[.int .i64 0, .int .i64 3]) ∧ ∃ k, w' = w.drewN k := by
  go_enter Try.func27, Try.ntmps27
  go_wp2
  go_ret2
  exact ⟨rfl, 0, rfl⟩
set_option maxRecDepth 100000 in
set_option maxHeartbeats 1000000 in
theorem get_no (f : Nat) (A : Option Addr) (n c : Nat) (t : List Int) (w : World) (hr : ReadsInt w .i64 A n t) (hb : ∀ x ∈ t, -9223372036854775808 ≤ x ∧ x ≤ 9223372036854775807) (hg : ¬ Good t) :
    Calls Try.prog 27 #[.pointer (some ⟨f, 0, none⟩), .slice A n c] w fun e w' => e = .returned (.tuple #[.int .i64 0, .int .i64 1]) ∧ ∃ k, w' = w.drewN k := by
  have HT := Lib.hid (total_any A n c t w hr hb)
  rw [total_not hg] at HT
  clear hr hb hg
  go_enter Try.func27, Try.ntmps27
  go_wp2_with (go_at_call 41; refine HT.out.mono ?_; rintro e w1 ⟨rfl, rfl⟩)
  go_ret2
  exact ⟨rfl, 0, rfl⟩
set_option maxRecDepth 100000 in
set_option maxHeartbeats 1000000 in
theorem read_any (f : Nat) (ep : Option Addr) (fr : Nat) (B : Nat → Nat) (w0 : World) (s : Fs) (w : World) (h : FS f ep fr B w0 s w) :
    Calls Try.prog 29 #[.pointer (some ⟨f, 0, none⟩)] w fun e w' => e = .returned (.int .i64 s.rd) ∧ w' = w := by
  have c4 : w.cell? ⟨f, 4, none⟩ = some (.int .i64 s.rd) := (blk_cell h.at_ 4).trans rfl
  clear h
  go_enter Try.func29, Try.ntmps29
  go_wp2
  go_ret
  exact ⟨rfl, rfl⟩
theorem read_nil (w : World) : Calls Try.prog 29 #[.pointer none] w fun e w' => e = .returned (.int .i64 0) ∧ w' = w := by
  go_enter Try.func29, Try.ntmps29
  go_wp2
  go_ret
  exact ⟨rfl, rfl⟩
/-- which symbol a number means -/
def keyF (s : Fs) (N : Nat) : Nat := ((s.va - s.lo + 1) * N - 1) / s.wd
theorem keyF_lt {s : Fs} {N : Nat} (h : InF s) (hN : 1 ≤ N) : keyF s N < N := by
  obtain ⟨h1, h2, h3, h4⟩ := h
  unfold keyF
  rw [Nat.div_lt_iff_lt_mul (by omega)]
  have e : (s.va - s.lo + 1) * N ≤ s.wd * N := Nat.mul_le_mul_right _ (by omega)
  have e2 : 1 * 1 ≤ (s.va - s.lo + 1) * N := Nat.mul_le_mul (by omega) hN
  rw [Nat.mul_comm N]
  omega
/-- a finder narrowed to a symbol -/
def narF (s : Fs) (N F T : Nat) : Fs := ⟨s.lo + s.wd * F / N, s.wd * T / N - s.wd * F / N, s.va, s.rd⟩
theorem narF_in {s : Fs} {N F T : Nat} (h : InF s) (hN : 1 ≤ N) (hF : F ≤ keyF s N) (hT : keyF s N < T) (hTN : T ≤ N) : InF (narF s N F T) ∧ s.wd * F / N ≤ s.wd * T / N ∧ s.wd * T / N ≤ s.wd := by
  obtain ⟨h1, h2, h3, h4⟩ := h
  obtain ⟨v, hv⟩ : ∃ v, v = s.va - s.lo := ⟨_, rfl⟩
  unfold keyF at hF hT
  rw [← hv] at hF hT
  have hpos : 1 * 1 ≤ (v + 1) * N := Nat.mul_le_mul (by omega) hN
  have e1 : s.wd * F / N ≤ v := by
    have a1 : F * s.wd ≤ (v + 1) * N - 1 := (Nat.le_div_iff_mul_le (by omega)).1 hF
    have a2 : s.wd * F < (v + 1) * N := by rw [Nat.mul_comm]; omega
    exact Nat.le_of_lt_succ ((Nat.div_lt_iff_lt_mul (by omega)).2 a2)
  have e2 : v + 1 ≤ s.wd * T / N := by
    rw [Nat.le_div_iff_mul_le (by omega)]
    have a1 : (v + 1) * N - 1 < T * s.wd := (Nat.div_lt_iff_lt_mul (by omega)).1 hT
    rw [Nat.mul_comm s.wd]
    omega
  have e3 : s.wd * T / N ≤ s.wd := Nat.div_le_of_le_mul (by rw [Nat.mul_comm N]; exact Nat.mul_le_mul_left _ hTN)
  refine ⟨⟨?_, ?_, ?_, ?_⟩, by omega, e3⟩
  · show 1 ≤ s.wd * T / N - s.wd * F / N; omega
  · show s.lo + s.wd * F / N + (s.wd * T / N - s.wd * F / N) ≤ 65536; omega
  · show s.lo + s.wd * F / N ≤ s.va; omega
  · show s.va < s.lo + s.wd * F / N + (s.wd * T / N - s.wd * F / N); omega
end Go.Proofs.Ytikjolinendfgaa.Ari
