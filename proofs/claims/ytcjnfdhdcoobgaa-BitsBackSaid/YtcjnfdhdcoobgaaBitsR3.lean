/- The walks of the document's pad: Get, Of, Bytes. -/
import Derived.Test.YtcjnfdhdcoobgaaBitsR2
set_option linter.unusedVariables false
set_option linter.unusedSimpArgs false
namespace Go.Proofs.Ytcjnfdhdcoobgaa.Bit
open Go.RowKit Go.Proofs.YtcjnfdhdcoobgaaW.PrintWords Go.Proofs.YtcjnfdhdcoobgaaW.PrintLast Go.Proofs.YtcjnfdhdcoobgaaW.PrintMore Go.Proofs.Ytcjnfdhdcoobgaa.Byt

set_option maxRecDepth 100000 in
set_option maxHeartbeats 1000000 in
theorem rget_no (B0 m N F B : Nat) (O : Nat → Bool) (u : Value) (k : Int) (fr : Bool) (w : World) (h : RefAt w B0 m N F B O u) (hn : N ≤ 1000000) (hB : F + B ≤ N) (he : mayE (N - F - B) k ≠ 0) :
    Calls Try.prog 45 #[.pointer (some ⟨m, 0, none⟩), .int .i64 k, .bool fr] w fun e w' => e = .returned (.tuple #[.int .u32 0, .int .i64 (mayE (N - F - B) k)]) ∧ ∃ k, w' = w.drewN k := by
  have T := rmay_any B0 m N F B O u k w h hn hB
  generalize mayE (N - F - B) k = err at T he
  have b1 : (err != 0) = true := bne_iff_ne.2 he
  clear he h
  go_enter Try.func45, Try.ntmps45
  go_wp2_with fail
  refine T.mono ?_
  rintro e w1 ⟨rfl, k1, rfl⟩
  go_wp2
  go_ret2
  exact ⟨rfl, _, rfl⟩

set_option maxRecDepth 100000 in
set_option maxHeartbeats 1000000 in
theorem rget_front (B0 m N F B : Nat) (O : Nat → Bool) (u : Value) (k : Nat) (w : World) (h : RefAt w B0 m N F B O u) (hn : N ≤ 1000000) (hB : F + B ≤ N) (he : mayE (N - F - B) k = 0) :
    Calls Try.prog 45 #[.pointer (some ⟨m, 0, none⟩), .int .i64 k, .bool true] w fun e w' => e = .returned (.tuple #[.int .u32 ((readF O F k : Nat) : Int), .int .i64 0]) ∧ RefAt w' B0 m N (F + k) B O u ∧ RB B0 m u w w' := by
  have T := rmay_any B0 m N F B O u k w h hn hB
  rw [he] at T
  obtain ⟨-, hk32, hkL⟩ := mayE_ok he
  clear he
  go_enter Try.func45, Try.ntmps45
  go_wp2_with fail
  refine T.mono ?_
  rintro e w1 ⟨rfl, k1, rfl⟩
  have h1 := h.drew k1
  clear T h
  go_wp2
  go_loopg [9, 10] k (fun gk x i W => ∃ j V : Nat, j ≤ k ∧ gk = k - j ∧ i = .int .i64 j ∧ x = .int .u32 V ∧ V < 2 ^ j ∧ Hid (V = readF O F j) ∧ RefAt W B0 m N (F + j) B O u ∧ RB B0 m u w W)
  case atStart => exact ⟨0, 0, by omega, by omega, rfl, rfl, by decide, rfl, h1, (RB.refl _ _ _ _).drew _⟩
  case round =>
    obtain ⟨j, V, hj, rfl, rfl, rfl, hV, HV, hp, h2⟩ := hrel
    by_cases hlt : j < k
    · obtain ⟨g, cap, rfl, hcap, hg, hne⟩ := hp.form (by omega)
      obtain ⟨p, hpe⟩ : ∃ p, p = F + j := ⟨_, rfl⟩
      have HPE := Lib.hid hpe
      have hpN : p < N := by omega
      rw [← hpe] at hp
      have c0 := hp.c0
      have c1 := hp.c1
      have f1 := hp.free 1
      obtain ⟨y1, -⟩ := hp.bit p hpN
      have HN := Lib.hid hne
      have hV31 : V < 2147483648 := Nat.lt_of_lt_of_le hV (Nat.pow_le_pow_right (n := 2) (j := 31) (by decide) (by omega))
      have hnew : 2 * V + (O p).toNat < 2 ^ (j + 1) := by have := toNat_le (O p); rw [Nat.pow_succ]; omega
      have hb := toNat_le (O p)
      have HR : Hid (readF O F (j + 1) = 2 * readF O F j + (O (F + j)).toNat) := rfl
      have HR2 : Hid (readF O F (j + 1) = 2 * readF O F j + (O p).toNat) := by rw [hpe]; exact HR
      clear HR
      generalize (O p).toNat = bt_ at y1 hnew hb HR2
      have e1 : IntKind.u32.wrap ((V : Int) * 2) = (V : Int) * 2 := by rw [IntKind.wrap_u32]; omega
      have e2 : IntKind.u32.wrap (bt_ : Int) = (bt_ : Int) := by rw [IntKind.wrap_u32]; omega
      have e3 : IntKind.u32.wrap ((V : Int) * 2 + bt_) = ((2 * V + bt_ : Nat) : Int) := by rw [IntKind.wrap_u32]; push_cast; omega
      clear hne hpe hV
      go_wp2
      go_quiet (fail)
      go_wp2
      go_roundg (k - (j + 1))
      case measure => omega
      case rel =>
        refine ⟨j + 1, 2 * V + bt_, by omega, rfl, by go_num, rfl, hnew, ?_, ?_, ?_⟩
        · show 2 * V + bt_ = _
          rw [HR2.out, HV.out]
        · exact (hp.s1' _ (F + (j + 1)) (by have := HPE.out; push_cast; omega)).drew _
        · exact (h2.setm hp.le 1 _).drew _
    · obtain rfl : j = k := by omega
      go_wp2
      go_ret2
      exact ⟨ret_two (by rw [HV.out]) rfl, hp, h2⟩

set_option maxRecDepth 100000 in
set_option maxHeartbeats 1000000 in
theorem rget_back (B0 m n N F B : Nat) (O : Nat → Bool) (u : Value) (k : Nat) (w : World) (hNn : N = 8 * n) (h : RefAt w B0 m N F B O u) (hn : N ≤ 800000) (hB : F + B ≤ N) (he : mayE (N - F - B) k = 0) :
    Calls Try.prog 45 #[.pointer (some ⟨m, 0, none⟩), .int .i64 k, .bool false] w fun e w' => e = .returned (.tuple #[.int .u32 ((readB O N B k : Nat) : Int), .int .i64 0]) ∧ RefAt w' B0 m N F (B + k) O u ∧ RB B0 m u w w' := by
  have T := rmay_any B0 m N F B O u k w h (by omega) hB
  rw [he] at T
  obtain ⟨-, hk32, hkL⟩ := mayE_ok he
  have HNN := Lib.hid hNn
  clear he hNn
  go_enter Try.func45, Try.ntmps45
  go_wp2_with fail
  refine T.mono ?_
  rintro e w1 ⟨rfl, k1, rfl⟩
  have h1 := h.drew k1
  clear T h
  go_wp2
  go_loopg [9, 10] k (fun gk x i W => ∃ j V : Nat, j ≤ k ∧ gk = k - j ∧ i = .int .i64 j ∧ x = .int .u32 V ∧ V < 2 ^ j ∧ Hid (V = readB O N B j) ∧ RefAt W B0 m N F (B + j) O u ∧ RB B0 m u w W)
  case atStart => exact ⟨0, 0, by omega, by omega, rfl, rfl, by decide, rfl, h1, (RB.refl _ _ _ _).drew _⟩
  case round =>
    obtain ⟨j, V, hj, rfl, rfl, rfl, hV, HV, hp, h2⟩ := hrel
    by_cases hlt : j < k
    · obtain ⟨g, cap, rfl, hcap, hg, hne⟩ := hp.form (by omega)
      obtain ⟨p, hpe⟩ : ∃ p, p = N - 1 - (B + j) := ⟨_, rfl⟩
      have HPE := Lib.hid hpe
      have hpN : p < N := by omega
      have c0 := hp.c0
      have c2 := hp.c2
      have f2 := hp.free 2
      obtain ⟨y1, -⟩ := hp.bit p hpN
      have HN := Lib.hid hne
      have TB := fun i => rback_any B0 m n F (B + j) (B + j) p O _ (wr.drewN i) (by rw [← HNN.out]; exact hp.drew _) (by have := HNN.out; omega) (by have := HNN.out; omega) (by rw [← HNN.out]; exact hpe)
      have HR : Hid (readB O N B (j + 1) = readB O N B j + (O (N - 1 - (B + j))).toNat * 2 ^ j) := rfl
      have HR2 : Hid (readB O N B (j + 1) = readB O N B j + (O p).toNat * 2 ^ j) := by rw [hpe]; exact HR
      have HL := Lib.hid (readB_lt O N B (j + 1))
      clear HR
      obtain ⟨D, hD⟩ : ∃ D : Nat, D = (O p).toNat * 2 ^ j := ⟨_, rfl⟩
      have hj32 : j < 32 := by omega
      have hb := toNat_le (O p)
      have hpw : 2 ^ j ≤ 2147483648 := Nat.pow_le_pow_right (n := 2) (j := 31) (by decide) (by omega)
      have hDle : D ≤ 1 * 2 ^ j := by rw [hD]; exact Nat.mul_le_mul_right _ hb
      have e0 : IntKind.u64.wrap (j : Int) = (j : Int) := by rw [IntKind.wrap_u64]; omega
      have e1 : IntKind.u32.wrap ((O p).toNat : Int) = ((O p).toNat : Int) := by rw [IntKind.wrap_u32]; omega
      have e2 : IntKind.u32.wrap (((O p).toNat : Int) * 2 ^ j) = (D : Int) := by
        have e : ((O p).toNat : Int) * 2 ^ j = (D : Int) := by rw [hD]; push_cast; rfl
        rw [e, IntKind.wrap_u32]; omega
      have e3 : IntKind.u32.wrap ((V : Int) + D) = ((V + D : Nat) : Int) := by rw [IntKind.wrap_u32]; push_cast; omega
      have HD := Lib.hid hD
      have HVj := Lib.hid hV
      clear hne hpe hV hD hDle hpw
      go_wp2
      go_quiet ((go_at_call 52; exact Calls.quiet_of_same (TB _)))
      go_wp2
      go_roundg (k - (j + 1))
      case measure => omega
      case rel =>
        refine ⟨j + 1, V + D, by omega, rfl, by go_num, by push_cast; rfl, ?_, ?_, ?_, ?_⟩
        · have h5 := HR2.out
          rw [← HV.out, ← HD.out] at h5
          rw [← h5]; exact HL.out
        · show V + D = _
          rw [HR2.out, HV.out, HD.out]
        · exact (hp.s2' _ (B + (j + 1)) (by push_cast; omega)).drew _
        · exact (h2.setm hp.le 2 _).drew _
    · obtain rfl : j = k := by omega
      go_wp2
      go_ret2
      exact ⟨ret_two (by rw [HV.out]) rfl, hp, h2⟩

/-- the first k bits of byte i as a number -/
def part (O : Nat → Bool) (i : Nat) : Nat → Nat
  | 0 => 0
  | k + 1 => 2 * part O i k + (O (i + k)).toNat
theorem part_eq (O : Nat → Bool) (i : Nat) : part O (8 * i) 8 = byteN O i := by
  simp only [part, byteN, Nat.add_zero, Nat.mul_zero, Nat.zero_add]; omega
theorem part_lt (O : Nat → Bool) (i : Nat) : ∀ k, part O i k < 2 ^ k
  | 0 => by simp [part]
  | k + 1 => by have := part_lt O i k; have := toNat_le (O (i + k)); simp only [part, Nat.pow_succ]; omega
theorem bytesL_snoc (O : Nat → Bool) (n : Nat) : bytesL O (n + 1) = bytesL O n ++ [(byteN O n : Int)] := by
  unfold bytesL; rw [List.range_succ, List.map_append]; rfl

set_option maxRecDepth 100000 in
set_option maxHeartbeats 1000000 in
theorem rbytes_any (B0 m n F B : Nat) (O : Nat → Bool) (u : Value) (w : World) (h : RefAt w B0 m (8 * n) F B O u) (hn : n ≤ 100000) :
    Calls Try.prog 22 #[.pointer (some ⟨m, 0, none⟩)] w (Row8 (bytesL O n) w) := by
  obtain ⟨A, c, rfl⟩ := h.sl
  have c0 := h.c0
  have hrd : 0 < n → ∃ g, A = some ⟨g, 0, none⟩ ∧ ∀ p, p < 8 * n → w.cell? ⟨g, p, none⟩ = some (.int .i64 ((O p).toNat : Int)) := fun h0 => by
    obtain ⟨g, cap, e, -, -, -⟩ := h.form (by omega)
    simp only [Value.slice.injEq] at e
    obtain ⟨rfl, -, rfl⟩ := e
    exact ⟨g, rfl, fun p hp => (h.bit p hp).1⟩
  have HRD := Lib.hid hrd
  clear h hrd
  obtain ⟨N, hN⟩ : ∃ N, N = 8 * n := ⟨_, rfl⟩
  rw [← hN] at c0
  have hNle : N ≤ 800000 := by omega
  have HN := Lib.hid hN
  clear hN
  go_enter Try.func22, Try.ntmps22
  go_wp2
  go_loopg [3, 4] n (fun gk v i W => ∃ j I : Nat, j ≤ n ∧ gk = n - j ∧ i = .int .i64 I ∧ Hid (I = 8 * j) ∧ W.ownsRow w.heap.size 5 1 v j (nums .u8 (bytesL O j)) ∧ Below w.heap.size w W)
  case atStart => exact ⟨0, 0, by omega, by omega, rfl, rfl, own_nil _ _ _ _, br w⟩
  case round =>
    obtain ⟨j, I, hj, rfl, rfl, HI, hown, hb⟩ := hrel
    obtain ⟨A3, c3, rfl⟩ := own_slice hown
    have d0 := pw_cell_below hb c0
    by_cases hlt : j < n
    · have hIN : I < N := by have := HI.out; have := HN.out; omega
      have hI8 : I + 8 ≤ N := by have := HI.out; have := HN.out; omega
      obtain ⟨g, rfl, hcell⟩ := HRD.out (by omega)
      have HC := Lib.hid hcell
      clear hcell
      go_wp2
      obtain ⟨wo, rfl⟩ : ∃ wo : World, wo = wr := ⟨_, rfl⟩
      go_loopg [5, 6] 8 (fun gk v i W => ∃ k V : Nat, k ≤ 8 ∧ gk = 8 - k ∧ i = .int .i64 k ∧ v = .int .i64 V ∧ V < 256 ∧ Hid (V = part O I k) ∧ W = wo)
      case atStart => exact ⟨0, 0, by omega, by omega, rfl, rfl, by omega, rfl, rfl⟩
      case round =>
        obtain ⟨k, V, hk, rfl, rfl, rfl, hV, HV, rfl⟩ := hrel
        by_cases hltk : k < 8
        · obtain ⟨p, hpe⟩ : ∃ p, p = I + k := ⟨_, rfl⟩
          have hpN : p < N := by omega
          have y1 := pw_cell_below hb (HC.out p (by have := HN.out; omega))
          have hlt2 := part_lt O I (k + 1)
          have hpw : 2 ^ (k + 1) ≤ 2 ^ 8 := Nat.pow_le_pow_right (by decide) (by omega)
          have HR : part O I (k + 1) = 2 * part O I k + (O p).toNat := by rw [hpe]; rfl
          have hnew : 2 * V + (O p).toNat < 256 := by rw [← HV.out] at HR; omega
          have HR2 := Lib.hid HR
          have e1 : ((I : Int) + k) = (p : Int) := by omega
          clear HR hpe hlt2 hpw
          generalize (O p).toNat = bt_ at y1 hnew HR2
          go_wp2
          go_roundg (8 - (k + 1))
          case measure => omega
          case rel => exact ⟨k + 1, 2 * V + bt_, by omega, rfl, by go_num, by push_cast; rfl, hnew, by show 2 * V + bt_ = _; rw [HR2.out, HV.out], rfl⟩
        · obtain rfl : k = 8 := by omega
          have HB : Hid (V = byteN O j) := by show V = _; rw [HV.out, HI.out, part_eq]
          go_wp2_with (at_builtin; refine print_append_num w.heap.size rfl (.tmp 32) (.tmp 35) 37 5 .u8 1 rfl Try.underlying37 info8 (by decide) _ (bytesL O j) (V : Int) rfl rfl (by rw [bytesL_length]; exact hown) hb hb.size (by rw [bytesL_length]; omega) ?_; intro v1 w1 hown1 hB1 hg1 hat1; clear hg1 hat1)
          go_roundg (n - (j + 1))
          case measure => omega
          case rel =>
            refine ⟨j + 1, I + 8, by omega, rfl, by go_num, by show I + 8 = _; rw [HI.out]; omega, ?_, hB1⟩
            rw [bytesL_snoc, ← HB.out]
            simpa [bytesL_length] using hown1
    · obtain rfl : j = n := by omega
      have hIN : ¬ I < N := by have := HI.out; have := HN.out; omega
      go_wp2
      go_ret
      exact ⟨_, rfl, by rw [bytesL_length]; exact hown, hb⟩

theorem byte_bit (O : Nat → Bool) (j k x : Nat) (hk : k < 8) (hx : 7 - (k : Int) = x) : (IntKind.i64.wrap ((byteN O j : Nat) : Int) / 2 ^ x).tmod 2 = ((O (8 * j + k)).toNat : Int) := by
  have hb := byteN_lt O j
  obtain rfl : x = 7 - k := by omega
  rw [← byteN_div O j k hk, IntWalk.i64_in _ (by omega)]
  have e : (((byteN O j : Nat) : Int) / 2 ^ (7 - k)) = ((byteN O j / 2 ^ (7 - k) : Nat) : Int) := by push_cast; rfl
  rw [e, Int.tmod_eq_emod_of_nonneg (Int.natCast_nonneg _)]
  push_cast
  rfl
set_option maxRecDepth 100000 in
set_option maxHeartbeats 2000000 in
theorem rof_any (A : Option Addr) (n c : Nat) (O : Nat → Bool) (w : World) (hn : n ≤ 100000) (hr : ReadsInt w .u8 A n (bytesL O n)) :
    Calls Try.prog 44 #[.slice A n c] w fun e w' => ∃ v, e = .returned (.pointer (some ⟨w.heap.size, 0, none⟩)) ∧ RefAt w' w.heap.size w.heap.size (8 * n) 0 0 O v ∧ Below w.heap.size w w' := by
  have hrd : ∀ j, j < n → ∃ ad, A = some ad ∧ w.cell? (ad.add j) = some (.int .u8 (byteN O j)) := fun j hj => by
    obtain ⟨ad, e, hc⟩ := hr.2.2 (by omega)
    refine ⟨ad, e, ?_⟩
    rw [hc j hj, bytesL_at _ _ _ hj]
  have HRD := Lib.hid hrd
  clear hrd hr
  go_enter Try.func44, Try.ntmps44
  go_wp2
  go_loopg [4] n (fun gk i W => ∃ (j : Nat) (v : Value), j ≤ n ∧ gk = n - j ∧ i = .int .i64 j ∧ RefAt W w.heap.size w.heap.size (8 * j) 0 0 O v ∧ Below w.heap.size w W)
  case atStart =>
    refine ⟨0, .slice none 0 0, by omega, by omega, rfl, ⟨?_, own_nil _ _ _ _, Nat.le_refl _⟩, ba (br w) _⟩
    rw [heap_alloc_new]; rfl
  case round =>
    obtain ⟨j, v, hj, rfl, rfl, hp, hb⟩ := hrel
    by_cases hlt : j < n
    · obtain ⟨ad, rfl, y0⟩ := HRD.out j hlt
      have hby := byteN_lt O j
      go_wp2
      obtain ⟨wo, hwo⟩ : ∃ wo : World, wo = wr := ⟨_, rfl⟩
      go_loopg [5] 8 (fun gk i W => ∃ (k : Nat) (v : Value), k ≤ 8 ∧ gk = 8 - k ∧ i = .int .i64 (7 - (k : Int)) ∧ RefAt W w.heap.size w.heap.size (8 * j + k) 0 0 O v ∧ Below w.heap.size w W)
      case atStart => exact ⟨0, v, by omega, by omega, rfl, hp, hb⟩
      case round =>
        clear hp hb hwo
        obtain ⟨k, v, hk, rfl, rfl, hp, hb⟩ := hrel
        by_cases hltk : k < 8
        · obtain ⟨A1, c1, rfl⟩ := hp.sl
          have c0 := hp.c0
          have f0 := hp.free 0
          have y1 := pw_cell_below hb y0
          have hne := hp.ne
          go_wp2
          obtain ⟨x, hx⟩ : ∃ x : Nat, 7 - (k : Int) = x := ⟨7 - k, by omega⟩
          rw [hx]
          have HX := Lib.hid hx
          have hx32 : x < 8 := by omega
          clear hx
          have e3 : IntKind.u64.wrap (x : Int) = (x : Int) := by rw [IntKind.wrap_u64]; omega
          have HNE := Lib.hid hne
          clear hne
          have e5 := byte_bit O j k x hltk HX.out
          have HB := Lib.hid (bitsL_snoc O (8 * j + k))
          generalize (O (8 * j + k)).toNat = bt_ at e5 HB
          have x0 := fun o => pw_cell_below (ba (br wr) o) c0
          have x1 := fun o => pw_cell_below (ba (br wr) o) y1
          go_region_law ((refine step_append_cells (W := wr.drew) w.heap.size rfl (.tmp 22) (.tmp 32) 81 3 (.int .i64 0) 1 8 rfl Try.underlying81 infoI rfl (by decide) (by decide) _ (8 * j + k) (nums .i64 (bitsL O (8 * j + k))) [.int .i64 (bt_ : Int)] rfl rfl rfl (by intro u hu; simp only [List.mem_singleton] at hu; subst hu; rfl) hp.drew1.own (below_drew hb) hb.size (by omega) ?_; intro v1 w3 hown3 hB3 hg3 hat3; have k0 : w3.cell? ⟨w.heap.size, 0, none⟩ = some (.slice A1 (8 * j + k) c1) := cell_grown hg3 (a := ⟨w.heap.size, 0, none⟩) c0 HNE.out; have k1 : w3.cell? (ad.add j) = some (.int .u8 (byteN O j)) := pw_cell_below hB3 y0; have k2 : w3.heap[w.heap.size]? = some (.cells #[.slice A1 (8 * j + k) c1, .int .i64 (0 : Nat), .int .i64 (0 : Nat)] 85 (0, 0)) := (blk_grown (w := wr.drew) hp.at_ hg3 HNE.out); have k3 := blk_frozen k2 0; obtain ⟨A3, c3, rfl⟩ := own_slice hown3))
          all_goals
            go_wp2
            go_roundg (8 - (k + 1))
            case measure => omega
            case rel =>
              refine ⟨k + 1, .slice A3 (8 * j + k + 1) c3, by omega, rfl, by congr 1; have := HX.out; push_cast; omega, ⟨(blk_set k2 0 _).trans rfl, ?_, Nat.le_refl _⟩, Below.setCell hB3 (p := ⟨w.heap.size, 0, none⟩) (Nat.le_refl _) _⟩
              rw [show 8 * j + (k + 1) = 8 * j + k + 1 from by omega, HB.out, nums_append]
              exact own_setCell hown3 (own_ne hown3 k2 (by decide)) _
        · obtain rfl : k = 8 := by omega
          go_wp2
          go_roundg (n - (j + 1))
          case measure => omega
          case rel => exact ⟨j + 1, v, by omega, rfl, by go_num, by rw [show 8 * (j + 1) = 8 * j + 8 from by omega]; exact hp, hb⟩
    · obtain rfl : j = n := by omega
      go_wp2
      go_ret
      exact ⟨v, rfl, hp, hb⟩
end Go.Proofs.Ytcjnfdhdcoobgaa.Bit
