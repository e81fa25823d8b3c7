/- The walks of the package riff: put. -/
import Derived.Test.YtcjnfdhdcoobgaaRPre
set_option linter.unusedVariables false
set_option linter.unusedSimpArgs false
namespace Go.Proofs.Ytcjnfdhdcoobgaa.Rif
open Go.RowKit Go.Proofs.YtcjnfdhdcoobgaaW.PrintWords Go.Proofs.YtcjnfdhdcoobgaaW.PrintLast Go.Proofs.YtcjnfdhdcoobgaaW.PrintMore Go.Proofs.Ytcjnfdhdcoobgaa.Chk

/-- a number's bytes, the lowest first, j of them -/
def le (X : Int) (j : Nat) : List Int := (List.range j).map fun i => X / 2 ^ (8 * i) % 256
theorem le_length (X : Int) (j : Nat) : (le X j).length = j := by simp [le]
theorem le_succ (X : Int) (j : Nat) : le X (j + 1) = le X j ++ [X / 2 ^ (8 * j) % 256] := by unfold le; rw [List.range_succ, List.map_append]; rfl
theorem le_byte (X : Int) (j : Nat) : Bytes (le X j) := by
  intro x hx
  obtain ⟨i, -, rfl⟩ := List.mem_map.1 hx
  omega
theorem le_step (X : Int) (k : Nat) : X / 2 ^ (8 * k) / 256 = X / 2 ^ (8 * (k + 1)) := by
  rw [show (256 : Int) = 2 ^ 8 from rfl, Int.ediv_ediv_of_nonneg (Int.pow_nonneg (by decide)), ← Int.pow_add]
  rfl
/-- a row grown at its end: it may have been written where it lay, else it lies in a block of the call's own -/
structure Grew (w : World) (v0 : Value) (v : Value) (w' : World) : Prop where
  by_ : w.grownBy w' v0.ownBlock
  at_ : v.ownBlock = v0.ownBlock ∨ ∃ b, v.ownBlock = some b ∧ w.heap.size ≤ b
theorem Grew.refl (w : World) (v : Value) : Grew w v v w := ⟨World.grownBy.refl w _, .inl rfl⟩
theorem Grew.step {w wr w1 : World} {v0 v v1 : Value} (h : Grew w v0 v wr) (hg : wr.grownBy w1 v.ownBlock) (ha : v1.ownBlock = v.ownBlock ∨ ∃ b, v1.ownBlock = some b ∧ wr.heap.size ≤ b) : Grew w v0 v1 w1 := by
  refine ⟨h.by_.andThen hg fun j hj => ?_, ?_⟩
  · rcases h.at_ with e | ⟨b, e, hb⟩
    · exact .inr (e.symm.trans hj)
    · rw [e] at hj; injection hj with hj; subst hj; exact .inl hb
  · rcases ha with e | ⟨b, e, hb⟩
    · rw [e]; exact h.at_
    · exact .inr ⟨b, e, Nat.le_trans h.by_.size hb⟩
/-- what a call that appends leaves -/
def App (base : Nat) (v0 : Value) (xs : List Int) (w : World) (e : Ending) (w' : World) : Prop := ∃ v, e = .returned v ∧ w'.ownsRow base 5 1 v xs.length (nums .u8 xs) ∧ Grew w v0 v w'

set_option maxRecDepth 100000 in
set_option maxHeartbeats 1000000 in
theorem put_int (base : Nat) (v : Value) (l : List Int) (X : Int) (wd : Nat) (w : World) (hX : -9223372036854775808 ≤ X ∧ X ≤ 9223372036854775807) (hl : l.length ≤ 100000) (hw : wd ≤ 8) (hb : base ≤ w.heap.size) (hown : w.ownsRow base 5 1 v l.length (nums .u8 l)) :
    Calls Try.prog 65 #[v, .int .i64 X, .int .i64 wd] w (App base v (l ++ le X wd) w) := by
  obtain ⟨hX1, hX2⟩ := hX
  obtain ⟨A, c, rfl⟩ := own_slice hown
  go_enter Try.func65, Try.ntmps65
  go_wp2
  go_loopg [0, 1, 8] wd (fun gk u n x W => ∃ (k : Nat) (T : Int), k ≤ wd ∧ gk = wd - k ∧ x = .int .i64 k ∧ n = .int .i64 T ∧ -9223372036854775808 ≤ T ∧ T ≤ 9223372036854775807 ∧ Hid (T = X / 2 ^ (8 * k)) ∧ W.ownsRow base 5 1 u (l ++ le X k).length (nums .u8 (l ++ le X k)) ∧ Grew w (.slice A l.length c) u W)
  case atStart => exact ⟨0, X, by omega, by omega, rfl, rfl, hX1, hX2, by show X = _; simp, by simpa [le] using hown, Grew.refl _ _⟩
  case round =>
    obtain ⟨k, T, hk, rfl, rfl, rfl, hT1, hT2, HT, hown2, hg⟩ := hrel
    by_cases hlt : k < wd
    · have hsz := Nat.le_trans hb hg.by_.size
      have HLS := Lib.hid (le_succ X k)
      obtain ⟨M, hM⟩ : ∃ M, M = l ++ le X k := ⟨_, rfl⟩
      have hMl : M.length ≤ 100008 := by rw [hM, List.length_append, le_length]; omega
      have HM := Lib.hid hM
      rw [← hM] at hown2
      clear hM
      obtain ⟨A5, c5, rfl⟩ := own_slice hown2
      go_wp2_with (at_builtin; go_loud (refine print_append_num base rfl (.tmp 10) (.tmp 13) 37 5 .u8 1 rfl Try.underlying37 info8 (by decide) _ M (T % 256) rfl rfl hown2 (Below.refl _ _) hsz (by omega) ?_); intro v6 w6 hown6 hb6 hg6 hat6)
      go_roundg (wd - (k + 1))
      case measure => omega
      case rel => exact ⟨k + 1, T / 256, by omega, rfl, by go_num, rfl, by omega, by omega, by show T / 256 = _; rw [HT.out, le_step], by rw [HLS.out, ← HT.out, ← List.append_assoc, ← HM.out]; exact hown6, hg.step hg6 hat6⟩
    · obtain rfl : k = wd := by omega
      go_wp2
      go_ret
      exact ⟨_, rfl, hown2, hg⟩
set_option maxRecDepth 100000 in
set_option maxHeartbeats 1000000 in
theorem put_i16 (base : Nat) (v : Value) (l : List Int) (X : Int) (wd : Nat) (w : World) (hX : -32768 ≤ X ∧ X ≤ 32767) (hl : l.length ≤ 100000) (hw : wd ≤ 8) (hb : base ≤ w.heap.size) (hown : w.ownsRow base 5 1 v l.length (nums .u8 l)) :
    Calls Try.prog 62 #[v, .int .i16 X, .int .i64 wd] w (App base v (l ++ le X wd) w) := by
  obtain ⟨hX1, hX2⟩ := hX
  obtain ⟨A, c, rfl⟩ := own_slice hown
  go_enter Try.func62, Try.ntmps62
  go_wp2
  go_loopg [0, 1, 8] wd (fun gk u n x W => ∃ (k : Nat) (T : Int), k ≤ wd ∧ gk = wd - k ∧ x = .int .i64 k ∧ n = .int .i16 T ∧ -32768 ≤ T ∧ T ≤ 32767 ∧ Hid (T = X / 2 ^ (8 * k)) ∧ W.ownsRow base 5 1 u (l ++ le X k).length (nums .u8 (l ++ le X k)) ∧ Grew w (.slice A l.length c) u W)
  case atStart => exact ⟨0, X, by omega, by omega, rfl, rfl, hX1, hX2, by show X = _; simp, by simpa [le] using hown, Grew.refl _ _⟩
  case round =>
    obtain ⟨k, T, hk, rfl, rfl, rfl, hT1, hT2, HT, hown2, hg⟩ := hrel
    by_cases hlt : k < wd
    · have hsz := Nat.le_trans hb hg.by_.size
      have HLS := Lib.hid (le_succ X k)
      obtain ⟨M, hM⟩ : ∃ M, M = l ++ le X k := ⟨_, rfl⟩
      have hMl : M.length ≤ 100008 := by rw [hM, List.length_append, le_length]; omega
      have HM := Lib.hid hM
      rw [← hM] at hown2
      clear hM
      obtain ⟨A5, c5, rfl⟩ := own_slice hown2
      go_wp2_with (at_builtin; go_loud (refine print_append_num base rfl (.tmp 10) (.tmp 13) 37 5 .u8 1 rfl Try.underlying37 info8 (by decide) _ M (T % 256) rfl rfl hown2 (Below.refl _ _) hsz (by omega) ?_); intro v6 w6 hown6 hb6 hg6 hat6)
      go_roundg (wd - (k + 1))
      case measure => omega
      case rel => exact ⟨k + 1, T / 256, by omega, rfl, by go_num, rfl, by omega, by omega, by show T / 256 = _; rw [HT.out, le_step], by rw [HLS.out, ← HT.out, ← List.append_assoc, ← HM.out]; exact hown6, hg.step hg6 hat6⟩
    · obtain rfl : k = wd := by omega
      go_wp2
      go_ret
      exact ⟨_, rfl, hown2, hg⟩

/-- append(b, s...), s a text: where the row lies is told too -/
theorem run_text {P : Program} {W : World} (base : Nat) (t u e ty : TypeId) (i : TypeInfo)
    (ht : P.underlying t = some (.slice e)) (hu : P.underlying u = some .string) (hi : P.info? e = some i) (hz : i.zero = some (.int .u8 0)) (hsize : i.size = 1) (hby : i.bytes = 1)
    (v : Value) (n : Nat) (xs : List Value) (s : ByteArray) (hown : W.ownsRow base e 1 v n xs) (hbase : base ≤ W.heap.size) (hl : n + s.size ≤ 140737488355328) :
    ∃ v1 w1, (Builtin.append_ #[t, u] ty #[v, .string s]).run P W = .ok v1 w1 ∧ w1.ownsRow base e 1 v1 (n + s.size) (xs ++ Lib.strCells s) ∧ W.grownBy w1 v.ownBlock ∧ (v1.ownBlock = v.ownBlock ∨ ∃ b, v1.ownBlock = some b ∧ W.heap.size ≤ b) := by
  obtain ⟨v1, w1, hr, h2, h3, h4⟩ := Lib.run_append_own_string (P := P) W base t u ty e i ht hu hi hz hsize hby v n xs hown s (by simp only [maxLen]; omega) hl hbase
  refine ⟨v1, w1, hr, h2, h3, ?_⟩
  have hxl : xs.length = n := by simpa using hown.1
  rcases hown.2 with ⟨rfl, rfl⟩ | ⟨g, cap, cur, rfl, hbg, hg, hnc, hcm, hcs, htake⟩
  · by_cases hm : s.size = 0
    · obtain rfl := h4.2 ⟨rfl, hm⟩
      exact .inl rfl
    · have hr2 := run_append_nil_string (P := P) W t u ty e i (.int .u8 0) ht hu hi hz s (by omega) (by omega) (by rw [hby]; omega)
      rw [hr] at hr2
      injection hr2 with e1 e2
      subst e1
      exact .inr ⟨_, rfl, Nat.le_refl _⟩
  · by_cases hroom : n + s.size ≤ cap
    · have hcs' : cur.size = cap := by simpa using hcs
      have hr2 := Lib.run_append_room_string (P := P) W t u ty e i ht hu hi hsize g n cap cur hg s hroom (by omega)
      rw [hr] at hr2
      injection hr2 with e1 e2
      subst e1
      exact .inl rfl
    · have holds : ∀ j u, xs[j]? = some u → W.cell? ((⟨g, 0, none⟩ : Addr).add j) = some u := hown.cells (g := g) rfl
      have hr2 := Lib.run_append_grow_string (P := P) W t u ty e i (.int .u8 0) ht hu hi hz ⟨g, 0, none⟩ n cap xs (by rw [hsize]; simpa using hxl) holds s (by omega) (by simp only [maxLen] at hcm; omega) (by rw [hby]; exact growslice_fits (by omega) (by omega))
      rw [hr] at hr2
      injection hr2 with e1 e2
      subst e1
      exact .inr ⟨_, rfl, Nat.le_refl _⟩
theorem append_text {P : Program} {ops : Array Oper} {rest : List Oper} {o : Oper} {a : Act} {Q : Exit → Act → World → Prop} {W : World} (base : Nat) (hgd : o.guard = none) (s x : Operand) (t u e : TypeId)
    (ho : o.op = .call { callee := .builtin .append, args := #[s, x], argTypes := #[t, u] })
    (ht : P.underlying t = some (.slice e)) (hu : P.underlying u = some .string) (hinfo : (P.info? e).map (fun i => (i.zero, i.size, i.bytes)) = some (some (.int .u8 0), 1, 1))
    (v : Value) (xs : List Int) (y : ByteArray) (hs : a.eval s = v) (hx : a.eval x = .string y)
    (HO : W.ownsRow base e 1 v xs.length (nums .u8 xs)) (hbase : base ≤ W.heap.size) (hl : xs.length + y.size ≤ 140737488355328)
    (h : ∀ v1 w1, w1.ownsRow base e 1 v1 (xs ++ bytesOf y).length (nums .u8 (xs ++ bytesOf y)) → W.grownBy w1 v.ownBlock → (v1.ownBlock = v.ownBlock ∨ ∃ b, v1.ownBlock = some b ∧ W.heap.size ≤ b) → wpList P ops Q rest (a.put o.dst v1) w1) :
    wpList P ops Q (o :: rest) a W := by
  obtain ⟨i0, hi, hzz⟩ := Option.map_eq_some_iff.1 hinfo
  simp only [Prod.mk.injEq] at hzz
  obtain ⟨hz0, hz1, hz2⟩ := hzz
  refine wpList_plain hgd fun K hK => ?_
  obtain ⟨v1, w1, hr, hown, hg, hat⟩ := run_text (P := P) base t u e o.type i0 ht hu hi hz0 hz1 hz2 v xs.length (nums .u8 xs) y HO hbase hl
  have hl2 : (xs ++ bytesOf y).length = xs.length + y.size := by rw [List.length_append, bytesOf_length]
  have hc : nums .u8 (xs ++ bytesOf y) = nums .u8 xs ++ Lib.strCells y := by
    rw [nums_append]
    congr 1
    simp [nums, bytesOf, Lib.strCells]
  unfold Oper.wp execOp
  simp only [ho, resolve, invoke, builtin, Sem.run_bind, Sem.run_pure, Result.andThen_ok, List.map_toArray, List.map_cons, List.map_nil, hs, hx, hr]
  exact hK _ _ (h v1 w1 (by rw [hl2, hc]; exact hown) hg hat)

/-- the number of bytes, the lowest first -/
def leV : List Int → Nat
  | [] => 0
  | x :: t => x.toNat + 256 * leV t
theorem leV_lt : ∀ {l : List Int}, Bytes l → leV l < 256 ^ l.length
  | [], _ => by simp [leV]
  | x :: t, h => by
    have h1 := h x (by simp)
    have h2 := leV_lt (l := t) fun y hy => h y (List.mem_cons_of_mem _ hy)
    simp only [leV, List.length_cons, Nat.pow_succ]
    omega
set_option maxRecDepth 100000 in
set_option maxHeartbeats 1000000 in
theorem get_any (A : Option Addr) (n c : Nat) (l : List Int) (w : World) (hn : n ≤ 4) (hl : Bytes l) (hr : ReadsInt w .u8 A n l) :
    Calls Try.prog 81 #[.slice A n c] w fun e w' => e = .returned (.int .i64 (leV l)) ∧ w' = w := by
  have HL := Lib.hid hl
  obtain rfl := hr.1
  clear hl
  go_enter Try.func81, Try.ntmps81
  go_wp2
  go_loopg [3, 4] l.length (fun gk v x W => ∃ j V : Nat, j ≤ l.length ∧ gk = j ∧ x = .int .i64 ((j : Int) - 1) ∧ v = .int .i64 V ∧ Hid (V = leV (l.drop j)) ∧ W = w)
  case atStart => exact ⟨l.length, 0, by omega, rfl, rfl, rfl, by show 0 = _; rw [List.drop_length]; rfl, rfl⟩
  case round =>
    obtain ⟨j, V, hj, hgk, rfl, rfl, HV, rfl⟩ := hrel
    subst hgk
    rcases gk with _ | j
    · go_wp2
      go_ret
      exact ⟨ret_int (by rw [HV.out]; rfl), rfl⟩
    · obtain ⟨ad, rfl, y⟩ := hr.at_ (j : Int) (by omega) (by omega)
      rw [Int.toNat_natCast] at y
      have hb := rd_byte HL.out (j : Int)
      obtain ⟨b, hbe⟩ := Int.eq_ofNat_of_zero_le hb.1
      have hb8 : b < 256 := by omega
      have hVl : V < 1099511627776 := by
        have h1 := leV_lt (HL.out.drop (j + 1))
        rw [← HV.out] at h1
        exact Nat.lt_trans h1 (Nat.lt_of_le_of_lt (Nat.pow_le_pow_right (n := 256) (i := _) (j := 4) (by decide) (by rw [List.length_drop]; omega)) (by decide))
      have HR : Hid (leV (l.drop j) = b + 256 * leV (l.drop (j + 1))) := by
        show _ = _
        rw [drop_rd (by omega)]
        show (rd l (j : Int)).toNat + _ = _
        rw [hbe]; rfl
      have HO := Lib.hid (Pdu.or_byte64 V b hVl hb8)
      have ej : ((j + 1 : Nat) : Int) - 1 = j := by omega
      rw [ej]
      rw [hbe] at y
      clear hb hbe hr ej
      go_wp2
      go_roundg j
      case measure => omega
      case rel => exact ⟨j, 256 * V + b, by omega, rfl, by go_num, by rw [HO.out], by show 256 * V + b = _; rw [HR.out, HV.out]; omega, rfl⟩
end Go.Proofs.Ytcjnfdhdcoobgaa.Rif
