/- The document's pad in memory; the walks of its Of, Bytes (for the texts of arith). -/
import Derived.Test.YtikjolinendfgaaArE
set_option linter.unusedVariables false
set_option linter.unusedSimpArgs false
namespace Go.Proofs.Ytikjolinendfgaa.Bit
open Go.RowKit Go.Proofs.YtikjolinendfgaaW.PrintWords Go.Proofs.YtikjolinendfgaaW.PrintLast Go.Proofs.YtikjolinendfgaaW.PrintMore

/-- bits as numbers -/
def bitsL (O : Nat → Bool) (N : Nat) : List Int := (List.range N).map fun i => ((O i).toNat : Int)
theorem bitsL_length (O : Nat → Bool) (N : Nat) : (bitsL O N).length = N := by simp [bitsL]
theorem bitsL_at (O : Nat → Bool) (N i : Nat) (h : i < N) : (bitsL O N).getD i 0 = ((O i).toNat : Int) := by
  rw [List.getD_eq_getElem?_getD, bitsL, List.getElem?_map, List.getElem?_range h]; rfl
theorem bitsL_set (O : Nat → Bool) (N p : Nat) (x : Bool) : (bitsL O N).set p (x.toNat : Int) = bitsL (setb O p x) N := by
  apply List.ext_getElem
  · simp [bitsL]
  · intro j h1 h2
    rw [List.getElem_set]
    simp only [bitsL, List.getElem_map, List.getElem_range, setb]
    by_cases e : p = j
    · rw [if_pos e, if_pos e.symm]
    · rw [if_neg e, if_neg (fun h => e h.symm)]
theorem bitsL_zero (N : Nat) : bitsL (fun _ => false) N = List.replicate N 0 := by
  apply List.ext_getElem
  · simp [bitsL]
  · intro i h1 h2; simp [bitsL]
theorem bitsL_snoc (O : Nat → Bool) (N : Nat) : bitsL O (N + 1) = bitsL O N ++ [((O N).toNat : Int)] := by
  unfold bitsL; rw [List.range_succ, List.map_append]; rfl

/-- the document's pad, in block m, its bits at or above B0 -/
structure RefAt (W : World) (B0 m N F B : Nat) (O : Nat → Bool) (v : Value) : Prop where
  at_ : W.heap[m]? = some (.cells #[v, .int .i64 F, .int .i64 B] 59 (0, 0))
  own : W.ownsRow B0 3 1 v N (nums .i64 (bitsL O N))
  le : B0 ≤ m
section
variable {W : World} {B0 m N F B : Nat} {O : Nat → Bool} {v : Value}
theorem RefAt.c0 (h : RefAt W B0 m N F B O v) : W.cell? ⟨m, 0, none⟩ = some v := (blk_cell h.at_ 0).trans rfl
theorem RefAt.c1 (h : RefAt W B0 m N F B O v) : W.cell? ⟨m, 1, none⟩ = some (.int .i64 F) := (blk_cell h.at_ 1).trans rfl
theorem RefAt.c2 (h : RefAt W B0 m N F B O v) : W.cell? ⟨m, 2, none⟩ = some (.int .i64 B) := (blk_cell h.at_ 2).trans rfl
theorem RefAt.free (h : RefAt W B0 m N F B O v) (o : Nat) : W.frozen? ⟨m, o, none⟩ = false := blk_frozen h.at_ o
theorem RefAt.ne (h : RefAt W B0 m N F B O v) : some m ≠ v.ownBlock := own_ne h.own h.at_ (by decide)
theorem RefAt.drew (h : RefAt W B0 m N F B O v) (k : Nat) : RefAt (W.drewN k) B0 m N F B O v := ⟨h.at_, own_move h.own fun _ _ => rfl, h.le⟩
theorem RefAt.drew1 (h : RefAt W B0 m N F B O v) : RefAt W.drew B0 m N F B O v := ⟨h.at_, own_move h.own fun _ _ => rfl, h.le⟩
theorem RefAt.s1 (h : RefAt W B0 m N F B O v) (x : Nat) : RefAt (W.setCell ⟨m, 1, none⟩ (.int .i64 x)) B0 m N x B O v := ⟨(blk_set h.at_ _ _).trans rfl, own_setCell h.own h.ne _, h.le⟩
theorem RefAt.s2 (h : RefAt W B0 m N F B O v) (x : Nat) : RefAt (W.setCell ⟨m, 2, none⟩ (.int .i64 x)) B0 m N F x O v := ⟨(blk_set h.at_ _ _).trans rfl, own_setCell h.own h.ne _, h.le⟩
theorem RefAt.form (h : RefAt W B0 m N F B O v) (hN : 0 < N) : ∃ g cap, v = .slice (some ⟨g, 0, none⟩) N cap ∧ N ≤ cap ∧ B0 ≤ g ∧ m ≠ g := by
  have hne := h.ne
  rcases h.own.2 with ⟨-, h2⟩ | ⟨g, cap, cur, rfl, hg, -, hc, -⟩
  · omega
  · exact ⟨g, cap, rfl, hc, hg, fun e => hne (by rw [e]; rfl)⟩
theorem RefAt.bit {g cap : Nat} (h : RefAt W B0 m N F B O (.slice (some ⟨g, 0, none⟩) N cap)) (p : Nat) (hp : p < N) : W.cell? ⟨g, p, none⟩ = some (.int .i64 ((O p).toNat : Int)) ∧ W.frozen? ⟨g, p, none⟩ = false := by
  obtain ⟨h1, h2⟩ := own_at h.own (p : Int) (by omega) (by omega)
  unfold rd at h1
  rw [Int.toNat_natCast, bitsL_at _ _ _ hp] at h1
  rw [Int.toNat_natCast] at h2
  exact ⟨h1, h2⟩
theorem RefAt.put {g cap : Nat} (h : RefAt W B0 m N F B O (.slice (some ⟨g, 0, none⟩) N cap)) (p : Nat) (x : Bool) : RefAt (W.setCell ⟨g, p, none⟩ (.int .i64 (x.toNat : Int))) B0 m N F B (setb O p x) (.slice (some ⟨g, 0, none⟩) N cap) := by
  refine ⟨blk_far h.at_ (fun e => h.ne (by rw [e]; rfl)) _, ?_, h.le⟩
  have := (own_store h.own (p : Int) (x.toNat : Int)).1
  rw [Int.toNat_natCast, bitsL_set] at this
  exact this
end

theorem infoI : (Try.prog.info? 3).map (fun i => (i.zero, i.size, i.bytes)) = some (some (.int .i64 0), 1, 8) := by kernel_rfl
theorem RefAt.sl {W : World} {B0 m N F B : Nat} {O : Nat → Bool} {v : Value} (h : RefAt W B0 m N F B O v) : ∃ A c, v = .slice A N c := own_slice h.own
/-- the first k bits of byte i as a number -/
def part (O : Nat → Bool) (i : Nat) : Nat → Nat
  | 0 => 0
  | k + 1 => 2 * part O i k + (O (i + k)).toNat
theorem part_eq (O : Nat → Bool) (i : Nat) : part O (8 * i) 8 = byteN O i := by
  simp only [part, byteN, Nat.add_zero, Nat.mul_zero, Nat.zero_add]; omega
theorem part_lt (O : Nat → Bool) (i : Nat) : ∀ k, part O i k < 2 ^ k
  | 0 => by simp [part]
  | k + 1 => by have := part_lt O i k; have := toNat_le (O (i + k)); simp only [part, Nat.pow_succ]; omega
theorem bytesL_snoc (O : Nat → Bool) (n : Nat) : bytesL O (n + 1) = bytesL O n ++ [(byteN O n : Int)] := by
  unfold bytesL; rw [List.range_succ, List.map_append]; rfl

set_option maxRecDepth 100000 in
set_option maxHeartbeats 1000000 in
theorem rbytes_any (B0 m n F B : Nat) (O : Nat → Bool) (u : Value) (w : World) (h : RefAt w B0 m (8 * n) F B O u) (hn : n ≤ 100000) :
    Calls Try.prog 48 #[.pointer (some ⟨m, 0, none⟩)] w (Row8 (bytesL O n) w) := by
  obtain ⟨A, c, rfl⟩ := h.sl
  have c0 := h.c0
  have hrd : 0 < n → ∃ g, A = some ⟨g, 0, none⟩ ∧ ∀ p, p < 8 * n → w.cell? ⟨g, p, none⟩ = some (.int .i64 ((O p).toNat : Int)) := fun h0 => by
    obtain ⟨g, cap, e, -, -, -⟩ := h.form (by omega)
    simp only [Value.slice.injEq] at e
    obtain ⟨rfl, -, rfl⟩ := e
    exact ⟨g, rfl, fun p hp => (h.bit p hp).1⟩
  have HRD := Lib.hid hrd
  clear h hrd
  obtain ⟨N, hN⟩ : ∃ N, N = 8 * n := ⟨_, rfl⟩
  rw [← hN] at c0
  have hNle : N ≤ 800000 := by omega
  have HN := Lib.hid hN
  clear hN
  go_enter Try.func48, Try.ntmps48
  go_wp2
  go_loopg [3, 4] n (fun gk v i W => ∃ j I : Nat, j ≤ n ∧ gk = n - j ∧ i = .int .i64 I ∧ Hid (I = 8 * j) ∧ W.ownsRow w.heap.size 5 1 v j (nums .u8 (bytesL O j)) ∧ Below w.heap.size w W)
  case atStart => exact ⟨0, 0, by omega, by omega, rfl, rfl, own_nil _ _ _ _, br w⟩
  case round =>
    obtain ⟨j, I, hj, rfl, rfl, HI, hown, hb⟩ := hrel
    obtain ⟨A3, c3, rfl⟩ := own_slice hown
    have d0 := pw_cell_below hb c0
    by_cases hlt : j < n
    · have hIN : I < N := by have := HI.out; have := HN.out; omega
      have hI8 : I + 8 ≤ N := by have := HI.out; have := HN.out; omega
      obtain ⟨g, rfl, hcell⟩ := HRD.out (by omega)
      have HC := Lib.hid hcell
      clear hcell
      go_wp2
      obtain ⟨wo, rfl⟩ : ∃ wo : World, wo = wr := ⟨_, rfl⟩
      go_loopg [5, 6] 8 (fun gk v i W => ∃ k V : Nat, k ≤ 8 ∧ gk = 8 - k ∧ i = .int .i64 k ∧ v = .int .i64 V ∧ V < 256 ∧ Hid (V = part O I k) ∧ W = wo)
      case atStart => exact ⟨0, 0, by omega, by omega, rfl, rfl, by omega, rfl, rfl⟩
      case round =>
        obtain ⟨k, V, hk, rfl, rfl, rfl, hV, HV, rfl⟩ := hrel
        by_cases hltk : k < 8
        · obtain ⟨p, hpe⟩ : ∃ p, p = I + k := ⟨_, rfl⟩
          have hpN : p < N := by omega
          have y1 := pw_cell_below hb (HC.out p (by have := HN.out; omega))
          have hlt2 := part_lt O I (k + 1)
          have hpw : 2 ^ (k + 1) ≤ 2 ^ 8 := Nat.pow_le_pow_right (by decide) (by omega)
          have HR : part O I (k + 1) = 2 * part O I k + (O p).toNat := by rw [hpe]; rfl
          have hnew : 2 * V + (O p).toNat < 256 := by rw [← HV.out] at HR; omega
          have HR2 := Lib.hid HR
          have e1 : ((I : Int) + k) = (p : Int) := by omega
          clear HR hpe hlt2 hpw
          generalize (O p).toNat = bt_ at y1 hnew HR2
          go_wp2
          go_roundg (8 - (k + 1))
          case measure => omega
          case rel => exact ⟨k + 1, 2 * V + bt_, by omega, rfl, by go_num, by push_cast; rfl, hnew, by show 2 * V + bt_ = _; rw [HR2.out, HV.out], rfl⟩
        · obtain rfl : k = 8 := by omega
          have HB : Hid (V = byteN O j) := by show V = _; rw [HV.out, HI.out, part_eq]
          go_wp2_with (at_builtin; refine print_append_num w.heap.size rfl (.tmp 32) (.tmp 35) 41 5 .u8 1 rfl Try.underlying41 info8 (by decide) _ (bytesL O j) (V : Int) rfl rfl (by rw [bytesL_length]; exact hown) hb hb.size (by rw [bytesL_length]; omega) ?_; intro v1 w1 hown1 hB1 hg1 hat1; clear hg1 hat1)
          go_roundg (n - (j + 1))
          case measure => omega
          case rel =>
            refine ⟨j + 1, I + 8, by omega, rfl, by go_num, by show I + 8 = _; rw [HI.out]; omega, ?_, hB1⟩
            rw [bytesL_snoc, ← HB.out]
            simpa [bytesL_length] using hown1
    · obtain rfl : j = n := by omega
      have hIN : ¬ I < N := by have := HI.out; have := HN.out; omega
      go_wp2
      go_ret
      exact ⟨_, rfl, by rw [bytesL_length]; exact hown, hb⟩

theorem byte_bit (O : Nat → Bool) (j k x : Nat) (hk : k < 8) (hx : 7 - (k : Int) = x) : (IntKind.i64.wrap ((byteN O j : Nat) : Int) / 2 ^ x).tmod 2 = ((O (8 * j + k)).toNat : Int) := by
  have hb := byteN_lt O j
  obtain rfl : x = 7 - k := by omega
  rw [← byteN_div O j k hk, IntWalk.i64_in _ (by omega)]
  have e : (((byteN O j : Nat) : Int) / 2 ^ (7 - k)) = ((byteN O j / 2 ^ (7 - k) : Nat) : Int) := by push_cast; rfl
  rw [e, Int.tmod_eq_emod_of_nonneg (Int.natCast_nonneg _)]
  push_cast
  rfl
set_option maxRecDepth 100000 in
set_option maxHeartbeats 2000000 in
theorem rof_any (A : Option Addr) (n c : Nat) (O : Nat → Bool) (w : World) (hn : n ≤ 100000) (hr : ReadsInt w .u8 A n (bytesL O n)) :
    Calls Try.prog 31 #[.slice A n c] w fun e w' => ∃ v, e = .returned (.pointer (some ⟨w.heap.size, 0, none⟩)) ∧ RefAt w' w.heap.size w.heap.size (8 * n) 0 0 O v ∧ Below w.heap.size w w' := by
  have hrd : ∀ j, j < n → ∃ ad, A = some ad ∧ w.cell? (ad.add j) = some (.int .u8 (byteN O j)) := fun j hj => by
    obtain ⟨ad, e, hc⟩ := hr.2.2 (by omega)
    refine ⟨ad, e, ?_⟩
    rw [hc j hj, bytesL_at _ _ _ hj]
  have HRD := Lib.hid hrd
  clear hrd hr
  go_enter Try.func31, Try.ntmps31
  go_wp2
  go_loopg [4] n (fun gk i W => ∃ (j : Nat) (v : Value), j ≤ n ∧ gk = n - j ∧ i = .int .i64 j ∧ RefAt W w.heap.size w.heap.size (8 * j) 0 0 O v ∧ Below w.heap.size w W)
  case atStart =>
    refine ⟨0, .slice none 0 0, by omega, by omega, rfl, ⟨?_, own_nil _ _ _ _, Nat.le_refl _⟩, ba (br w) _⟩
    rw [heap_alloc_new]; rfl
  case round =>
    obtain ⟨j, v, hj, rfl, rfl, hp, hb⟩ := hrel
    by_cases hlt : j < n
    · obtain ⟨ad, rfl, y0⟩ := HRD.out j hlt
      have hby := byteN_lt O j
      go_wp2
      obtain ⟨wo, hwo⟩ : ∃ wo : World, wo = wr := ⟨_, rfl⟩
      go_loopg [5] 8 (fun gk i W => ∃ (k : Nat) (v : Value), k ≤ 8 ∧ gk = 8 - k ∧ i = .int .i64 (7 - (k : Int)) ∧ RefAt W w.heap.size w.heap.size (8 * j + k) 0 0 O v ∧ Below w.heap.size w W)
      case atStart => exact ⟨0, v, by omega, by omega, rfl, hp, hb⟩
      case round =>
        clear hp hb hwo
        obtain ⟨k, v, hk, rfl, rfl, hp, hb⟩ := hrel
        by_cases hltk : k < 8
        · obtain ⟨A1, c1, rfl⟩ := hp.sl
          have c0 := hp.c0
          have f0 := hp.free 0
          have y1 := pw_cell_below hb y0
          have hne := hp.ne
          go_wp2
          obtain ⟨x, hx⟩ : ∃ x : Nat, 7 - (k : Int) = x := ⟨7 - k, by omega⟩
          rw [hx]
          have HX := Lib.hid hx
          have hx32 : x < 8 := by omega
          clear hx
          have e3 : IntKind.u64.wrap (x : Int) = (x : Int) := by rw [IntKind.wrap_u64]; omega
          have HNE := Lib.hid hne
          clear hne
          have e5 := byte_bit O j k x hltk HX.out
          have HB := Lib.hid (bitsL_snoc O (8 * j + k))
          generalize (O (8 * j + k)).toNat = bt_ at e5 HB
          have x0 := fun o => pw_cell_below (ba (br wr) o) c0
          have x1 := fun o => pw_cell_below (ba (br wr) o) y1
          go_region_law ((refine step_append_cells (W := wr.drew) w.heap.size rfl (.tmp 22) (.tmp 32) 29 3 (.int .i64 0) 1 8 rfl Try.underlying29 infoI rfl (by decide) (by decide) _ (8 * j + k) (nums .i64 (bitsL O (8 * j + k))) [.int .i64 (bt_ : Int)] rfl rfl rfl (by intro u hu; simp only [List.mem_singleton] at hu; subst hu; rfl) hp.drew1.own (below_drew hb) hb.size (by omega) ?_; intro v1 w3 hown3 hB3 hg3 hat3; have k0 : w3.cell? ⟨w.heap.size, 0, none⟩ = some (.slice A1 (8 * j + k) c1) := cell_grown hg3 (a := ⟨w.heap.size, 0, none⟩) c0 HNE.out; have k1 : w3.cell? (ad.add j) = some (.int .u8 (byteN O j)) := pw_cell_below hB3 y0; have k2 : w3.heap[w.heap.size]? = some (.cells #[.slice A1 (8 * j + k) c1, .int .i64 (0 : Nat), .int .i64 (0 : Nat)] 59 (0, 0)) := (blk_grown (w := wr.drew) hp.at_ hg3 HNE.out); have k3 := blk_frozen k2 0; obtain ⟨A3, c3, rfl⟩ := own_slice hown3))
          all_goals
            go_wp2
            go_roundg (8 - (k + 1))
            case measure => omega
            case rel =>
              refine ⟨k + 1, .slice A3 (8 * j + k + 1) c3, by omega, rfl, by congr 1; have := HX.out; push_cast; omega, ⟨(blk_set k2 0 _).trans rfl, ?_, Nat.le_refl _⟩, Below.setCell hB3 (p := ⟨w.heap.size, 0, none⟩) (Nat.le_refl _) _⟩
              rw [show 8 * j + (k + 1) = 8 * j + k + 1 from by omega, HB.out, nums_append]
              exact own_setCell hown3 (own_ne hown3 k2 (by decide)) _
        · obtain rfl : k = 8 := by omega
          go_wp2
          go_roundg (n - (j + 1))
          case measure => omega
          case rel => exact ⟨j + 1, v, by omega, rfl, by go_num, by rw [show 8 * (j + 1) = 8 * j + 8 from by omega]; exact hp, hb⟩
    · obtain rfl : j = n := by omega
      go_wp2
      go_ret
      exact ⟨v, rfl, hp, hb⟩
end Go.Proofs.Ytikjolinendfgaa.Bit
