/- Appending to a row that is full and only read: []byte of a constant. The walks of the package riff on it: put, chunk. -/
import Derived.Test.YtcjnfdhdcoobgaaRiff4
import Derived.Lib.SlBytesConst
import Derived.Laws.Append
set_option linter.unusedVariables false
set_option linter.unusedSimpArgs false
namespace Go.Proofs.Ytcjnfdhdcoobgaa.Rif
open Go.RowKit Go.Proofs.YtcjnfdhdcoobgaaW.PrintWords Go.Proofs.YtcjnfdhdcoobgaaW.PrintLast Go.Proofs.YtcjnfdhdcoobgaaW.PrintMore Go.Proofs.Ytcjnfdhdcoobgaa.Chk

theorem grown_alloc (W : World) (o : Obj) (row : Option Nat) : W.grownBy (W.alloc o) row := ⟨rfl, rfl, rfl, by simp, fun k hk _ => heap_alloc_old W o hk⟩
/-- a row with no room behind its end -/
def Full (W : World) (g : Nat) (xs : List Int) : Prop := ReadsInt W .u8 (some ⟨g, 0, none⟩) xs.length xs ∧ g < W.heap.size
theorem Full.cells {W : World} {g : Nat} {xs : List Int} (h : Full W g xs) : ∀ j v, (nums .u8 xs)[j]? = some v → W.cell? ((⟨g, 0, none⟩ : Addr).add j) = some v := by
  intro j v hv
  have hj : j < xs.length := by
    rcases Nat.lt_or_ge j xs.length with h1 | h1
    · exact h1
    · rw [List.getElem?_eq_none (by rw [nums_length]; exact h1)] at hv; cases hv
  obtain ⟨ad, e, hc⟩ := h.1.2.2 (by omega)
  injection e with e
  subst e
  rw [hc j hj, ← hv]
  simp [nums, List.getElem?_eq_getElem hj]
theorem Full.kept {W W1 : World} {g : Nat} {xs : List Int} (h : Full W g xs) (hb : Below W.heap.size W W1) : Full W1 g xs := ⟨h.1.below hb, Nat.lt_of_lt_of_le h.2 hb.size⟩
theorem run_full {P : Program} {W : World} (base : Nat) (t e ty : TypeId) (i : TypeInfo)
    (ht : P.underlying t = some (.slice e)) (hi : P.info? e = some i) (hz : i.zero = some (.int .u8 0)) (hsize : i.size = 1) (hby : i.bytes = 1)
    (g : Nat) (xs : List Int) (h : Full W g xs) (ad : Addr) (m c : Nat) (ys : List Int) (hm : 0 < m) (HR : ReadsInt W .u8 (some ad) m ys) (hl : xs.length + m ≤ 140737488355328) (hbase : base ≤ W.heap.size) :
    ∃ v1 w1, (Builtin.append_ #[t, t] ty #[.slice (some ⟨g, 0, none⟩) xs.length xs.length, .slice (some ad) m c]).run P W = .ok v1 w1 ∧ w1.ownsRow base e 1 v1 (xs ++ ys).length (nums .u8 (xs ++ ys)) ∧
      W.grownBy w1 (some g) ∧ (v1.ownBlock = some W.heap.size) := by
  have hyl : ys.length = m := HR.1
  have hnews : ∀ j v, (nums .u8 ys)[j]? = some v → W.cell? (ad.add j) = some v := by
    intro j v hv
    have hj : j < ys.length := by
      rcases Nat.lt_or_ge j ys.length with h1 | h1
      · exact h1
      · rw [List.getElem?_eq_none (by rw [nums_length]; exact h1)] at hv; cases hv
    obtain ⟨ad', e', hc⟩ := HR.2.2 hm
    injection e' with e'
    subst e'
    rw [hc j (by omega), ← hv]
    simp [nums, List.getElem?_eq_getElem hj]
  have hr := run_append_grow (P := P) W t ty e i (.int .u8 0) ht hi hz ⟨g, 0, none⟩ xs.length xs.length (nums .u8 xs) (by rw [nums_length, hsize, Nat.mul_one]) h.cells ad m c (nums .u8 ys) (by rw [nums_length, hsize, Nat.mul_one, hyl]) hnews (by omega) (by omega)
    (by rw [hby]; exact growslice_fits (by omega) (by omega))
  have hge := grownCap_ge W (xs.length + m) xs.length e
  have hcm2 : grownCap W (xs.length + m) xs.length e ≤ maxLen := grownCap_le_maxLen W (xs.length + m) xs.length e (by unfold maxLen; omega)
  have hlen : (nums IntKind.u8 (xs ++ ys)).length = (xs ++ ys).length * 1 := by rw [nums_length, Nat.mul_one]
  have hll : (xs ++ ys).length = xs.length + m := by rw [List.length_append, hyl]
  refine ⟨_, _, hr, ⟨hlen, .inr ⟨W.heap.size, _, _, by rw [hll], hbase, heap_alloc_new W.drew _, by rw [hll]; exact hge, hcm2, ?_, ?_⟩⟩, ⟨rfl, rfl, rfl, by simp, fun k hk _ => heap_alloc_old W.drew _ hk⟩, rfl⟩
  · have hz1 : (Value.int IntKind.u8 0).cells.size = 1 := rfl
    simp only [Array.size_append, List.size_toArray, size_zeroCells, hz1, nums_length, hyl]
    omega
  · simp only [Array.toList_append, List.append_assoc]
    rw [← List.append_assoc, ← hlen, nums_append]
    exact List.take_left
theorem run_full_text {P : Program} {W : World} (base : Nat) (t u e ty : TypeId) (i : TypeInfo)
    (ht : P.underlying t = some (.slice e)) (hu : P.underlying u = some .string) (hi : P.info? e = some i) (hz : i.zero = some (.int .u8 0)) (hsize : i.size = 1) (hby : i.bytes = 1)
    (g : Nat) (xs : List Int) (h : Full W g xs) (s : ByteArray) (hm : 0 < s.size) (hl : xs.length + s.size ≤ 140737488355328) (hbase : base ≤ W.heap.size) :
    ∃ v1 w1, (Builtin.append_ #[t, u] ty #[.slice (some ⟨g, 0, none⟩) xs.length xs.length, .string s]).run P W = .ok v1 w1 ∧ w1.ownsRow base e 1 v1 (xs ++ bytesOf s).length (nums .u8 (xs ++ bytesOf s)) ∧
      W.grownBy w1 (some g) ∧ (v1.ownBlock = some W.heap.size) := by
  have hyl := bytesOf_length s
  have hc : nums .u8 (xs ++ bytesOf s) = nums .u8 xs ++ Lib.strCells s := by
    rw [nums_append]
    congr 1
    simp [nums, bytesOf, Lib.strCells]
  have hr := Lib.run_append_grow_string (P := P) W t u ty e i (.int .u8 0) ht hu hi hz ⟨g, 0, none⟩ xs.length xs.length (nums .u8 xs) (by rw [nums_length, hsize, Nat.mul_one]) h.cells s (by omega) (by omega)
    (by rw [hby]; exact growslice_fits (by omega) (by omega))
  have hge := grownCap_ge W (xs.length + s.size) xs.length e
  have hcm2 : grownCap W (xs.length + s.size) xs.length e ≤ maxLen := grownCap_le_maxLen W (xs.length + s.size) xs.length e (by unfold maxLen; omega)
  have hlen : (nums IntKind.u8 (xs ++ bytesOf s)).length = (xs ++ bytesOf s).length * 1 := by rw [nums_length, Nat.mul_one]
  have hll : (xs ++ bytesOf s).length = xs.length + s.size := by rw [List.length_append, hyl]
  refine ⟨_, _, hr, ⟨hlen, .inr ⟨W.heap.size, _, _, by rw [hll], hbase, heap_alloc_new W.drew _, by rw [hll]; exact hge, hcm2, ?_, ?_⟩⟩, ⟨rfl, rfl, rfl, by simp, fun k hk _ => heap_alloc_old W.drew _ hk⟩, rfl⟩
  · have hz1 : (Value.int IntKind.u8 0).cells.size = 1 := rfl
    simp only [Array.size_append, List.size_toArray, size_zeroCells, hz1, nums_length, Lib.strCells_length]
    omega
  · rw [← hlen, hc]
    simp only [Array.toList_append, List.append_assoc]
    rw [← List.append_assoc]
    exact List.take_left
section
variable {P : Program} {ops : Array Oper} {rest : List Oper} {o : Oper} {a : Act} {Q : Exit → Act → World → Prop} {W : World}
theorem append_full_text (base : Nat) (hgd : o.guard = none) (s x : Operand) (t u e : TypeId)
    (ho : o.op = .call { callee := .builtin .append, args := #[s, x], argTypes := #[t, u] })
    (ht : P.underlying t = some (.slice e)) (hu : P.underlying u = some .string) (hinfo : (P.info? e).map (fun i => (i.zero, i.size, i.bytes)) = some (some (.int .u8 0), 1, 1))
    (g : Nat) (xs : List Int) (y : ByteArray) (hs : a.eval s = .slice (some ⟨g, 0, none⟩) xs.length xs.length) (hx : a.eval x = .string y) (hy : 0 < y.size)
    (HO : Full W g xs) (hbase : base ≤ W.heap.size) (hl : xs.length + y.size ≤ 140737488355328)
    (h : ∀ v1 w1, w1.ownsRow base e 1 v1 (xs ++ bytesOf y).length (nums .u8 (xs ++ bytesOf y)) → W.grownBy w1 (some g) → v1.ownBlock = some W.heap.size → wpList P ops Q rest (a.put o.dst v1) w1) :
    wpList P ops Q (o :: rest) a W := by
  obtain ⟨i0, hi, hzz⟩ := Option.map_eq_some_iff.1 hinfo
  simp only [Prod.mk.injEq] at hzz
  obtain ⟨hz0, hz1, hz2⟩ := hzz
  refine wpList_plain hgd fun K hK => ?_
  obtain ⟨v1, w1, hr, hown, hg, hat⟩ := run_full_text (P := P) base t u e o.type i0 ht hu hi hz0 hz1 hz2 g xs HO y hy hl hbase
  unfold Oper.wp execOp
  simp only [ho, resolve, invoke, builtin, Sem.run_bind, Sem.run_pure, Result.andThen_ok, List.map_toArray, List.map_cons, List.map_nil, hs, hx, hr]
  exact hK _ _ (h v1 w1 hown hg hat)
theorem append_full_num (base : Nat) (hgd : o.guard = none) (s x : Operand) (t e : TypeId)
    (ho : o.op = .call { callee := .builtin .append, args := #[s, x], argTypes := #[t, t] })
    (ht : P.underlying t = some (.slice e)) (hinfo : (P.info? e).map (fun i => (i.zero, i.size, i.bytes)) = some (some (.int .u8 0), 1, 1))
    (g : Nat) (xs : List Int) (y : Int) (hs : a.eval s = .slice (some ⟨g, 0, none⟩) xs.length xs.length) (hx : a.eval x = .slice (some ⟨W.heap.size, 0, none⟩) 1 1)
    (HO : Full W g xs) (hbase : base ≤ W.heap.size) (hl : xs.length + 1 ≤ 140737488355328)
    (h : ∀ v1 w1, w1.ownsRow base e 1 v1 (xs ++ [y]).length (nums .u8 (xs ++ [y])) → W.grownBy w1 (some g) → (∃ b, v1.ownBlock = some b ∧ W.heap.size ≤ b) → wpList P ops Q rest (a.put o.dst v1) w1) :
    wpList P ops Q (o :: rest) a (W.alloc (.cells #[.int .u8 y] e)) := by
  obtain ⟨i0, hi, hzz⟩ := Option.map_eq_some_iff.1 hinfo
  simp only [Prod.mk.injEq] at hzz
  obtain ⟨hz0, hz1, hz2⟩ := hzz
  refine wpList_plain hgd fun K hK => ?_
  have hfa : Full (W.alloc (.cells #[.int .u8 y] e)) g xs := HO.kept (ba (br W) _)
  have hra : ReadsInt (W.alloc (.cells #[.int .u8 y] e)) .u8 (some ⟨W.heap.size, 0, none⟩) 1 [y] := ⟨rfl, by decide, fun _ => ⟨_, rfl, fun j hj => by
    obtain rfl : j = 0 := by omega
    exact (blk_cell (heap_alloc_new W _) 0).trans rfl⟩⟩
  obtain ⟨v1, w1, hr, hown, hg, hat⟩ := run_full (P := P) base t e o.type i0 ht hi hz0 hz1 hz2 g xs hfa _ 1 1 [y] (by decide) hra hl (by simp; omega)
  unfold Oper.wp execOp
  simp only [ho, resolve, invoke, builtin, Sem.run_bind, Sem.run_pure, Result.andThen_ok, List.map_toArray, List.map_cons, List.map_nil, hs, hx, hr]
  exact hK _ _ (h v1 w1 hown (grown_alloc W _ _ |>.andThen hg fun j hj => .inr hj) ⟨_, hat, by simp⟩)
end
set_option maxRecDepth 100000 in
set_option maxHeartbeats 1000000 in
theorem put_full (g : Nat) (l : List Int) (X : Int) (w : World) (hX : -9223372036854775808 ≤ X ∧ X ≤ 9223372036854775807) (hl : l.length ≤ 100000) (h : Full w g l) :
    Calls Try.prog 65 #[.slice (some ⟨g, 0, none⟩) l.length l.length, .int .i64 X, .int .i64 4] w (App w.heap.size (.slice (some ⟨g, 0, none⟩) l.length l.length) (l ++ le X 4) w) := by
  obtain ⟨hX1, hX2⟩ := hX
  go_enter Try.func65, Try.ntmps65
  go_wp2
  go_loopg [0, 1, 8] 4 (fun gk u n x W => ∃ (k : Nat) (T : Int), k ≤ 4 ∧ gk = 4 - k ∧ x = .int .i64 k ∧ n = .int .i64 T ∧ -9223372036854775808 ≤ T ∧ T ≤ 9223372036854775807 ∧ Hid (T = X / 2 ^ (8 * k)) ∧ ((k = 0 ∧ u = .slice (some ⟨g, 0, none⟩) l.length l.length ∧ W = w) ∨ (0 < k ∧ W.ownsRow w.heap.size 5 1 u (l ++ le X k).length (nums .u8 (l ++ le X k)))) ∧ Grew w (.slice (some ⟨g, 0, none⟩) l.length l.length) u W)
  case atStart => exact ⟨0, X, by omega, by omega, rfl, rfl, hX1, hX2, by show X = _; simp, .inl ⟨rfl, rfl, rfl⟩, Grew.refl _ _⟩
  case round =>
    obtain ⟨k, T, hk, rfl, rfl, rfl, hT1, hT2, HT, hk0 | ⟨hk0, hown2⟩, hg⟩ := hrel
    · obtain ⟨rfl, rfl, rfl⟩ := hk0
      have HLS := Lib.hid (le_succ X 0)
      go_wp2_with (at_builtin; go_loud (refine append_full_num wr.heap.size rfl (.tmp 10) (.tmp 13) 37 5 rfl Try.underlying37 info8 g l (T % 256) rfl rfl h (Nat.le_refl _) (by omega) ?_); intro v6 w6 hown6 hg6 hat6)
      go_roundg 3
      case measure => omega
      case rel => exact ⟨1, T / 256, by omega, rfl, by go_num, rfl, by omega, by omega, by show T / 256 = _; rw [HT.out, le_step], .inr ⟨by omega, by rw [HLS.out, ← HT.out]; exact hown6⟩, hg.step hg6 (.inr hat6)⟩
    by_cases hlt : k < 4
    · have hsz := hg.by_.size
      have HLS := Lib.hid (le_succ X k)
      obtain ⟨M, hM⟩ : ∃ M, M = l ++ le X k := ⟨_, rfl⟩
      have hMl : M.length ≤ 100008 := by rw [hM, List.length_append, le_length]; omega
      have HM := Lib.hid hM
      rw [← hM] at hown2
      clear hM
      obtain ⟨A5, c5, rfl⟩ := own_slice hown2
      go_wp2_with (at_builtin; go_loud (refine print_append_num w.heap.size rfl (.tmp 10) (.tmp 13) 37 5 .u8 1 rfl Try.underlying37 info8 (by decide) _ M (T % 256) rfl rfl hown2 (Below.refl _ _) hsz (by omega) ?_); intro v6 w6 hown6 hb6 hg6 hat6)
      go_roundg (4 - (k + 1))
      case measure => omega
      case rel => exact ⟨k + 1, T / 256, by omega, rfl, by go_num, rfl, by omega, by omega, by show T / 256 = _; rw [HT.out, le_step], .inr ⟨by omega, by rw [HLS.out, ← HT.out, ← List.append_assoc, ← HM.out]; exact hown6⟩, hg.step hg6 hat6⟩
    · obtain rfl : k = 4 := by omega
      go_wp2
      go_ret
      exact ⟨_, rfl, hown2, hg⟩
set_option maxRecDepth 100000 in
set_option maxHeartbeats 1000000 in
theorem chunk_full (g : Nat) (l : List Int) (nm : ByteArray) (A : Option Addr) (m c : Nat) (ys : List Int) (w : World) (hl : l.length ≤ 50000) (hnm : nm.size = 4) (hy : ys.length ≤ 20000) (h : Full w g l)
    (hr : ReadsInt w .u8 A m ys) (hf : Far w (.slice (some ⟨g, 0, none⟩) l.length l.length) A) :
    Calls Try.prog 63 #[.slice (some ⟨g, 0, none⟩) l.length l.length, .string nm, .slice A m c] w (App w.heap.size (.slice (some ⟨g, 0, none⟩) l.length l.length) (chunkL l (bytesOf nm) ys) w) := by
  obtain rfl := hr.1
  have hnl := bytesOf_length nm
  have hb := Nat.le_refl w.heap.size
  go_enter Try.func63, Try.ntmps63
  go_wp2_with (at_builtin; go_loud (refine append_full_text w.heap.size rfl (.tmp 7) (.tmp 8) 37 9 5 rfl Try.underlying37 Try.underlying9 info8 g l nm rfl rfl (by omega) h hb (by omega) ?_); intro v1 w1 hown1 hg1 hat1)
  have hG1 := (Grew.refl w (.slice (some ⟨g, 0, none⟩) l.length l.length)).step hg1 (.inr ⟨_, hat1, Nat.le_refl _⟩)
  clear hg1 hat1
  have hl1 : (l ++ bytesOf nm).length ≤ 50004 := by rw [List.length_append]; omega
  have T := put_int w.heap.size v1 (l ++ bytesOf nm) ys.length 4 w1 (by omega) (by omega) (by decide) (Nat.le_trans hb hG1.by_.size) hown1
  obtain ⟨A1, c1, rfl⟩ := own_slice hown1
  go_wp2_with fail
  refine T.mono ?_
  rintro e w2 ⟨v2, rfl, hown2, hg2⟩
  have hG2 := hG1.trans hg2
  have hr2 := hf.reads hG2 hr
  have hf2 := hf.grew hG2
  have hl2 : (l ++ bytesOf nm ++ le ys.length 4).length ≤ 50008 := by rw [List.length_append, le_length]; omega
  have hb2 := Nat.le_trans hb hG2.by_.size
  obtain ⟨L2, hL2⟩ : ∃ L2, L2 = l ++ bytesOf nm ++ le ys.length 4 := ⟨_, rfl⟩
  rw [← hL2] at hown2 hl2
  have HL2 := Lib.hid hL2
  clear T hown1 hG1 hg2 hr hf hL2 hl1
  obtain ⟨A2, c2, rfl⟩ := own_slice hown2
  by_cases hodd : ys.length % 2 = 1
  · have HC : Hid (chunkL l (bytesOf nm) ys = L2 ++ ys ++ [0]) := by show _ = _; unfold chunkL; rw [if_pos hodd, HL2.out]
    have ho : ((ys.length : Int) % 2 == 1) = true := beq_iff_eq.2 (by omega)
    clear hodd
    go_wp2_with (first
      | (at_builtin; refine print_append_row w.heap.size rfl (.tmp 13) (.tmp 14) 37 5 .u8 1 rfl Try.underlying37 info8 (by decide) _ L2 ys A ys.length c rfl rfl hown2 hr2 (Below.refl _ _) hb2 (by omega) ?_; intro v3 w3 hown3 hb3 hg3 hat3; have hG3 := hG2.step hg3 hat3; have hb3' := Nat.le_trans hb hG3.by_.size; have hl3 : (L2 ++ ys).length ≤ 80000 := (by rw [List.length_append]; omega); clear hg3 hat3 hb3)
      | (at_builtin; refine print_append_num w.heap.size rfl (.tmp 20) (.tmp 21) 37 5 .u8 1 rfl Try.underlying37 info8 (by decide) _ (L2 ++ ys) 0 rfl rfl hown3 (Below.refl _ _) hb3' (by omega) ?_; intro v4 w4 hown4 hb4 hg4 hat4))
    go_ret
    exact ⟨v4, rfl, by rw [HC.out]; exact hown4, hG3.step hg4 hat4⟩
  · have HC : Hid (chunkL l (bytesOf nm) ys = L2 ++ ys) := by show _ = _; unfold chunkL; rw [if_neg hodd, List.append_nil, HL2.out]
    have ho : ((ys.length : Int) % 2 == 1) = false := beq_eq_false_iff_ne.2 (by omega)
    clear hodd
    go_wp2_with (at_builtin; refine print_append_row w.heap.size rfl (.tmp 13) (.tmp 14) 37 5 .u8 1 rfl Try.underlying37 info8 (by decide) _ L2 ys A ys.length c rfl rfl hown2 hr2 (Below.refl _ _) hb2 (by omega) ?_; intro v3 w3 hown3 hb3 hg3 hat3)
    go_ret
    exact ⟨_, rfl, by rw [HC.out]; exact hown3, hG2.step hg3 hat3⟩
end Go.Proofs.Ytcjnfdhdcoobgaa.Rif
