/- Steps in plain numbers; the walks of the package spec's small functions, of bits.Len64, of the closure that puts. -/
import Derived.Test.YtikjolinendfgaaArQ2
set_option linter.unusedVariables false
set_option linter.unusedSimpArgs false
namespace Go.Proofs.Ytikjolinendfgaa.Spe
open Go.RowKit Go.Proofs.YtikjolinendfgaaW.PrintWords Go.Proofs.YtikjolinendfgaaW.PrintLast Go.Proofs.YtikjolinendfgaaW.PrintMore Go.Proofs.Ytikjolinendfgaa.Bit Go.Proofs.Ytikjolinendfgaa.Ari

def tabS (k : Nat) : List Int :=
  if k = 0 then [700, 180, 60, 25, 12, 7, 5, 4, 3, 2, 2, 1, 1, 1, 1]
  else if k = 1 then [380, 330, 140, 65, 32, 18, 11, 7, 5, 4, 3, 2, 2, 1, 2]
  else if k = 2 then [200, 280, 210, 120, 70, 42, 26, 17, 12, 8, 6, 4, 3, 2, 6]
  else [90, 140, 150, 140, 115, 90, 70, 52, 40, 30, 22, 16, 12, 9, 40]
theorem tabS_len (k : Nat) : (tabS k).length = 15 := by unfold tabS; split; rfl; split; rfl; split <;> rfl
theorem tabS_good (k : Nat) : Ari.Good (tabS k) := by
  unfold tabS
  split
  · decide
  · split
    · decide
    · split <;> decide
theorem tabS_in (k : Nat) : ∀ x ∈ tabS k, -9223372036854775808 ≤ x ∧ x ≤ 9223372036854775807 := by
  unfold tabS
  split
  · decide
  · split
    · decide
    · split <;> decide
def evenS : List Int := [1, 1]
theorem evenS_good : Ari.Good evenS := by decide
theorem evenS_in : ∀ x ∈ evenS, -9223372036854775808 ≤ x ∧ x ≤ 9223372036854775807 := by decide
/-- a literal table in a block of its own -/
theorem lit_reads (W : World) (t : List Int) (ht : t.length ≤ 1000) : ReadsInt (W.alloc (.cells (nums .i64 t).toArray 3)) .i64 (some ⟨W.heap.size, 0, none⟩) t.length t := by
  have h := own_lit W 0 3 .i64 t (Nat.zero_le _) (by omega)
  exact own_reads' h
/-- a table that a call made -/
def MadeT (t : List Int) (w : World) (e : Ending) (w' : World) : Prop := e = .returned (.slice (some ⟨w.heap.size, 0, none⟩) t.length t.length) ∧ ReadsInt w' .i64 (some ⟨w.heap.size, 0, none⟩) t.length t ∧ Below w.heap.size w w' ∧ w.heap.size < w'.heap.size
theorem even_any (w : World) : Calls Try.prog 69 #[] w (MadeT evenS w) := by
  go_enter Try.func69, Try.ntmps69
  go_wp2
  go_ret
  exact ⟨rfl, lit_reads w evenS (by decide), ba (br w) _, by simp⟩
set_option maxRecDepth 100000 in
set_option maxHeartbeats 1000000 in
theorem table_any (k : Nat) (x : Int) (hx : x = k) (w : World) : Calls Try.prog 65 #[.int .i64 x] w (MadeT (tabS k) w) := by
  subst hx
  have HM : Hid (∀ t : List Int, t.length ≤ 1000 → ReadsInt (w.alloc (.cells (nums .i64 t).toArray 3)) .i64 (some ⟨w.heap.size, 0, none⟩) t.length t) := fun t => lit_reads w t
  rcases (show k = 0 ∨ k = 1 ∨ k = 2 ∨ 3 ≤ k by omega) with rfl | rfl | rfl | h
  · go_enter Try.func65, Try.ntmps65
    go_wp2
    go_ret
    exact ⟨rfl, HM.out (tabS 0) (by decide), ba (br w) _, by simp⟩
  · go_enter Try.func65, Try.ntmps65
    go_wp2
    go_ret
    exact ⟨rfl, HM.out (tabS 1) (by decide), ba (br w) _, by simp⟩
  · go_enter Try.func65, Try.ntmps65
    go_wp2
    go_ret
    exact ⟨rfl, HM.out (tabS 2) (by decide), ba (br w) _, by simp⟩
  · have e : tabS k = tabS 3 := by unfold tabS; rw [if_neg (by omega), if_neg (by omega), if_neg (by omega)]; rfl
    rw [e]
    have h0 : ((k : Int) == 0) = false := beq_eq_false_iff_ne.2 (by omega)
    have h1 : ((k : Int) == 1) = false := beq_eq_false_iff_ne.2 (by omega)
    have h2 : ((k : Int) == 2) = false := beq_eq_false_iff_ne.2 (by omega)
    go_enter Try.func65, Try.ntmps65
    go_wp2
    go_ret
    exact ⟨rfl, HM.out (tabS 3) (by decide), ba (br w) _, by simp⟩
set_option maxRecDepth 100000 in
set_option maxHeartbeats 1000000 in
theorem size_any (x : Int) (hx : -9223372036854775808 < x ∧ x ≤ 9223372036854775807) (w : World) : Calls Try.prog 67 #[.int .i64 x] w fun e w' => e = .returned (.int .i64 x.natAbs) ∧ w' = w := by
  rcases Int.lt_or_le x 0 with h | h
  · obtain ⟨m, hm⟩ : ∃ m, m = x.natAbs := ⟨_, rfl⟩
    have e : -x = (m : Int) := by omega
    rw [← hm]
    have HM := Lib.hid hm
    clear hm
    go_enter Try.func67, Try.ntmps67
    go_wp2
    go_ret
    exact ⟨ret_int (by omega), rfl⟩
  · obtain ⟨m, rfl⟩ := Int.eq_ofNat_of_zero_le h
    go_enter Try.func67, Try.ntmps67
    go_wp2
    go_ret
    exact ⟨ret_int (by simp), rfl⟩
end Go.Proofs.Ytikjolinendfgaa.Spe
namespace Go.Proofs.Ytikjolinendfgaa.Spe
open Go.RowKit Go.Proofs.YtikjolinendfgaaW.PrintWords Go.Proofs.YtikjolinendfgaaW.PrintLast Go.Proofs.YtikjolinendfgaaW.PrintMore Go.Proofs.Ytikjolinendfgaa.Bit Go.Proofs.Ytikjolinendfgaa.Ari

def ctxT (L : List Int) : Nat := (L.map fun x => min x.natAbs 3).sum
/-- the context behind some lines -/
def ctx (L : List Int) : Nat := (ctxT (L.drop (L.length - 2)) + 1) / 2
theorem ctxT_snoc (L : List Int) (x : Int) : ctxT (L ++ [x]) = ctxT L + min x.natAbs 3 := by simp [ctxT]
theorem ctxT_take (L : List Int) (i : Nat) (h : i < L.length) : ctxT (L.take (i + 1)) = ctxT (L.take i) + min (rd L (i : Int)).natAbs 3 := by
  rw [List.take_succ_eq_append_getElem h, ctxT_snoc]
  simp [rd, List.getD_eq_getElem?_getD, List.getElem?_eq_getElem h]
theorem add_zero0 (a : Addr) : a.add 0 = a := by unfold Addr.add; split <;> simp_all
set_option maxRecDepth 100000 in
set_option maxHeartbeats 1000000 in
theorem context_any (A : Option Addr) (n c : Nat) (L : List Int) (w : World) (hr : ReadsInt w .i64 A n L) (hc : n ≤ c) (hb : ∀ x ∈ L, -32767 ≤ x ∧ x ≤ 32767) :
    Calls Try.prog 66 #[.slice A n c] w fun e w' => e = .returned (.int .i64 (ctx L)) ∧ w' = w := by
  have hn : L.length = n := hr.1
  have hn9 := hr.2.1
  obtain ⟨d, hd⟩ : ∃ d, d = n - 2 := ⟨_, rfl⟩
  have hdn : d ≤ n := by omega
  have hk2 : n - d ≤ 2 := by omega
  have HRD := Lib.hid (hr.drop_ d hdn hc)
  obtain ⟨K, hK⟩ : ∃ K, K = L.drop d := ⟨_, rfl⟩
  rw [← hK] at HRD
  have HBK : Hid (∀ x ∈ K, -32767 ≤ x ∧ x ≤ 32767) := fun x hx => hb x (List.mem_of_mem_drop (by rw [← hK]; exact hx))
  have HC : Hid (ctx L = (ctxT K + 1) / 2) := by
    show _ = _
    unfold ctx
    rw [hK, hd, hn]
  have hKl : K.length = n - d := by rw [hK, List.length_drop, hn]
  have HKL := Lib.hid hKl
  have hKL0 := hKl
  clear hb hK hKl hn
  have HC6 : Hid (∀ i, ctxT (K.take i) ≤ 6) := by
    intro i
    have h2 : (K.take i).length ≤ 2 := by rw [List.length_take, hKL0]; omega
    generalize K.take i = M at h2
    rcases M with _ | ⟨x, _ | ⟨y, _ | ⟨z, M⟩⟩⟩
    · decide
    · simp [ctxT]; omega
    · simp [ctxT]; omega
    · simp at h2
  have HD := Lib.hid hd
  clear hKL0
  obtain ⟨A2, hA2⟩ : ∃ A2, (if c = d then A else A.map (·.add d)) = A2 := ⟨_, rfl⟩
  rw [hA2] at HRD
  have hdc : d ≤ c := by omega
  obtain ⟨m, hm⟩ : ∃ m, m = n - d := ⟨_, rfl⟩
  rw [← hm] at HRD HKL hk2
  rcases Nat.lt_or_ge n 2 with h | h
  · obtain rfl : d = 0 := by omega
    have h2 : (n : Int) - 2 < 0 := by omega
    obtain rfl : m = n := by omega
    clear hd hm
    by_cases hc0 : c = 0
    · subst hc0
      obtain rfl : m = 0 := by omega
      have hKn : K = [] := List.eq_nil_of_length_eq_zero HKL.out
      have HC0 : Hid (ctx L = 0) := by show _ = _; rw [HC.out, hKn]; rfl
      clear hr hA2 hKn
      go_enter Try.func66, Try.ntmps66
      go_wp2
      go_loopg [3, 13] 0 (fun gk t x W => gk = 0 ∧ t = .int .i64 0 ∧ x = .int .i64 0 ∧ W = w)
      case atStart => exact ⟨rfl, rfl, rfl, rfl⟩
      case round =>
        obtain ⟨rfl, rfl, rfl, rfl⟩ := hrel
        go_wp2
        go_ret
        exact ⟨ret_int (by rw [HC0.out]; rfl), rfl⟩
    · rw [if_neg hc0] at hA2
      have e0 : A.map (·.add 0) = A := by cases A with | none => rfl | some a => (show some (a.add 0) = some a; rw [add_zero0])
      rw [e0] at hA2
      subst hA2
      clear hr e0
      go_enter Try.func66, Try.ntmps66
      go_wp2
      go_loopg [3, 13] m (fun gk t x W => ∃ i : Nat, i ≤ m ∧ gk = m - i ∧ t = .int .i64 (ctxT (K.take i)) ∧ x = .int .i64 i ∧ W = w)
      case atStart => exact ⟨0, by omega, by omega, rfl, rfl, rfl⟩
      case round =>
        obtain ⟨i, hi, rfl, rfl, rfl, rfl⟩ := hrel
        have hT6 : ctxT (K.take i) ≤ 6 := HC6.out i
        by_cases hlt : i < m
        · obtain ⟨ad, hAd, y⟩ := HRD.out.at_ (i : Int) (by omega) (by omega)
          subst hAd
          rw [Int.toNat_natCast] at y
          have hiK : i < K.length := by have := HKL.out; omega
          have hxb := HBK.out _ (List.getElem_mem hiK)
          rw [← rd_mem K i hiK] at hxb
          have HT := Lib.hid (ctxT_take K i hiK)
          generalize rd K (i : Int) = x at y hxb HT
          generalize hTT : ctxT (K.take i) = T at HT hT6
          have HTT := Lib.hid hTT
          have HSZ := Lib.hid (size_any x (by omega))
          obtain ⟨a, ha⟩ : ∃ a, x.natAbs = a := ⟨_, rfl⟩
          rw [ha] at HSZ HT
          have ha2 : a ≤ 32767 := by omega
          clear ha hxb hTT
          rcases (show a < 3 ∨ a = 3 ∨ 3 < a by omega) with h3 | h3 | h3
          · go_wp2_with (go_at_call 67; refine (HSZ.out _).mono ?_; rintro e w2 ⟨rfl, rfl⟩)
            go_roundg (m - (i + 1))
            case measure => omega
            case rel => exact ⟨i + 1, by omega, rfl, by rw [HT.out, show min a 3 = a from by omega]; push_cast; rfl, by go_num, rfl⟩
          · subst h3
            go_wp2_with (go_at_call 67; refine (HSZ.out _).mono ?_; rintro e w2 ⟨rfl, rfl⟩)
            go_roundg (m - (i + 1))
            case measure => omega
            case rel => exact ⟨i + 1, by omega, rfl, by rw [HT.out, show min 3 3 = 3 from rfl]; push_cast; rfl, by go_num, rfl⟩
          · go_wp2_with (go_at_call 67; refine (HSZ.out _).mono ?_; rintro e w2 ⟨rfl, rfl⟩)
            go_roundg (m - (i + 1))
            case measure => omega
            case rel => exact ⟨i + 1, by omega, rfl, by rw [HT.out, show min a 3 = 3 from by omega]; push_cast; rfl, by go_num, rfl⟩
        · obtain rfl : i = m := by omega
          have hKt : K.take (i) = K := List.take_of_length_le (by rw [HKL.out]; exact Nat.le_refl _)
          rw [hKt] at hT6
          rw [hKt]
          generalize ctxT K = T at HC hT6
          clear hKt
          obtain ⟨q, hq⟩ : ∃ q, q = (T + 1) / 2 := ⟨_, rfl⟩
          have e1 : ((T : Int) + 1) / 2 = (q : Int) := by omega
          have HQ := Lib.hid hq
          clear hq
          go_wp2
          go_ret
          exact ⟨ret_int (by rw [HC.out, ← HQ.out]; have := HQ.out; omega), rfl⟩
  · have h2 : (n : Int) - 2 = (d : Int) := by omega
    clear hd
    by_cases hc0 : c = d
    · omega
    · rw [if_neg hc0] at hA2
      subst hm
      clear hr
      go_enter Try.func66, Try.ntmps66
      go_wp2
      go_loopg [3, 13] (n - d) (fun gk t x W => ∃ i : Nat, i ≤ (n - d) ∧ gk = (n - d) - i ∧ t = .int .i64 (ctxT (K.take i)) ∧ x = .int .i64 i ∧ W = w)
      case atStart => exact ⟨0, by omega, by omega, rfl, rfl, rfl⟩
      case round =>
        obtain ⟨i, hi, rfl, rfl, rfl, rfl⟩ := hrel
        have hT6 : ctxT (K.take i) ≤ 6 := HC6.out i
        by_cases hlt : i < (n - d)
        · obtain ⟨ad, hAd, y⟩ := HRD.out.at_ (i : Int) (by omega) (by omega)
          subst hAd
          rw [Int.toNat_natCast] at y
          have hiK : i < K.length := by have := HKL.out; omega
          have hxb := HBK.out _ (List.getElem_mem hiK)
          rw [← rd_mem K i hiK] at hxb
          have HT := Lib.hid (ctxT_take K i hiK)
          generalize rd K (i : Int) = x at y hxb HT
          generalize hTT : ctxT (K.take i) = T at HT hT6
          have HTT := Lib.hid hTT
          have HSZ := Lib.hid (size_any x (by omega))
          obtain ⟨a, ha⟩ : ∃ a, x.natAbs = a := ⟨_, rfl⟩
          rw [ha] at HSZ HT
          have ha2 : a ≤ 32767 := by omega
          clear ha hxb hTT
          rcases (show a < 3 ∨ a = 3 ∨ 3 < a by omega) with h3 | h3 | h3
          · go_wp2_with (go_at_call 67; refine (HSZ.out _).mono ?_; rintro e w2 ⟨rfl, rfl⟩)
            go_roundg ((n - d) - (i + 1))
            case measure => omega
            case rel => exact ⟨i + 1, by omega, rfl, by rw [HT.out, show min a 3 = a from by omega]; push_cast; rfl, by go_num, rfl⟩
          · subst h3
            go_wp2_with (go_at_call 67; refine (HSZ.out _).mono ?_; rintro e w2 ⟨rfl, rfl⟩)
            go_roundg ((n - d) - (i + 1))
            case measure => omega
            case rel => exact ⟨i + 1, by omega, rfl, by rw [HT.out, show min 3 3 = 3 from rfl]; push_cast; rfl, by go_num, rfl⟩
          · go_wp2_with (go_at_call 67; refine (HSZ.out _).mono ?_; rintro e w2 ⟨rfl, rfl⟩)
            go_roundg ((n - d) - (i + 1))
            case measure => omega
            case rel => exact ⟨i + 1, by omega, rfl, by rw [HT.out, show min a 3 = 3 from by omega]; push_cast; rfl, by go_num, rfl⟩
        · obtain rfl : i = (n - d) := by omega
          have hKt : K.take ((n - d)) = K := List.take_of_length_le (by rw [HKL.out]; exact Nat.le_refl _)
          rw [hKt] at hT6
          rw [hKt]
          generalize ctxT K = T at HC hT6
          clear hKt
          obtain ⟨q, hq⟩ : ∃ q, q = (T + 1) / 2 := ⟨_, rfl⟩
          have e1 : ((T : Int) + 1) / 2 = (q : Int) := by omega
          have HQ := Lib.hid hq
          clear hq
          go_wp2
          go_ret
          exact ⟨ret_int (by rw [HC.out, ← HQ.out]; have := HQ.out; omega), rfl⟩
set_option maxRecDepth 100000 in
set_option maxHeartbeats 1000000 in
theorem may_any (A : Option Addr) (n c : Nat) (L : List Int) (w : World) (hr : ReadsInt w .i64 A n L) :
    Calls Try.prog 54 #[.slice A n c] w fun e w' => e = .returned (.int .i64 (if 120 < n then 2 else if ∀ x ∈ L, -32767 ≤ x ∧ x ≤ 32767 then 0 else 1)) ∧ w' = w := by
  have hn : L.length = n := hr.1
  have hn9 := hr.2.1
  by_cases h1 : 120 < n
  · rw [if_pos h1]
    clear hr
    go_enter Try.func54, Try.ntmps54
    go_wp2
    go_ret
    exact ⟨rfl, rfl⟩
  · rw [if_neg h1]
    have HR := Lib.hid hr
    have HN := Lib.hid hn
    clear hr hn
    obtain ⟨E, hE⟩ : ∃ E : Int, E = if ∀ x ∈ L, -32767 ≤ x ∧ x ≤ 32767 then 0 else 1 := ⟨_, rfl⟩
    rw [← hE]
    have HE := Lib.hid hE
    clear hE
    go_enter Try.func54, Try.ntmps54
    go_wp2
    go_loopg [10] n (fun gk x W => ∃ i : Nat, i ≤ n ∧ gk = n - i ∧ x = .int .i64 i ∧ Hid (∀ j : Nat, j < i → -32767 ≤ rd L (j : Int) ∧ rd L (j : Int) ≤ 32767) ∧ W = w)
    case atStart => exact ⟨0, by omega, rfl, rfl, fun j hj => by omega, rfl⟩
    case round =>
      obtain ⟨i, hi, rfl, rfl, HP, rfl⟩ := hrel
      by_cases hlt : i < n
      · obtain ⟨ad, rfl, y⟩ := HR.out.at_ (i : Int) (by omega) (by omega)
        rw [Int.toNat_natCast] at y
        obtain ⟨x, hx⟩ : ∃ x, x = rd L (i : Int) := ⟨_, rfl⟩
        rw [← hx] at y
        have HX := Lib.hid hx
        clear hx
        by_cases hok : -32767 ≤ x ∧ x ≤ 32767
        · obtain ⟨o1, o2⟩ := hok
          go_wp2
          go_roundg (n - (i + 1))
          case measure => omega
          case rel =>
            refine ⟨i + 1, by omega, rfl, by go_num, fun j hj => ?_, rfl⟩
            rcases Nat.lt_or_ge j i with h | h
            · exact HP.out j h
            · obtain rfl : j = i := by omega
              rw [← HX.out]; exact ⟨o1, o2⟩
        · have HF : Hid (E = 1) := by
            show _ = _
            rw [HE.out, if_neg]
            intro hall
            have hil : i < L.length := by rw [HN.out]; exact hlt
            have := hall _ (List.getElem_mem hil)
            rw [← rd_mem L i hil, ← HX.out] at this
            exact hok this
          rcases (show x < -32767 ∨ 32767 < x by omega) with h | h
          · go_wp2
            go_ret
            exact ⟨ret_int HF.out.symm, rfl⟩
          · have h3 : ¬ x < -32767 := by omega
            go_wp2
            go_ret
            exact ⟨ret_int HF.out.symm, rfl⟩
      · obtain rfl : i = n := by omega
        have HF : Hid (E = 0) := by
          show _ = _
          rw [HE.out, if_pos]
          intro x hx
          obtain ⟨j, hj, rfl⟩ := List.mem_iff_getElem.1 hx
          have := HP.out j (by rw [HN.out] at hj; exact hj)
          rw [rd_mem L j hj] at this
          exact this
        go_wp2
        go_ret
        exact ⟨ret_int HF.out.symm, rfl⟩
end Go.Proofs.Ytikjolinendfgaa.Spe
namespace Go.Proofs.Ytikjolinendfgaa.Spe
open Go.RowKit Go.Proofs.YtikjolinendfgaaW.PrintWords Go.Proofs.YtikjolinendfgaaW.PrintLast Go.Proofs.YtikjolinendfgaaW.PrintMore Go.Proofs.Ytikjolinendfgaa.Bit Go.Proofs.Ytikjolinendfgaa.Ari

/-- how many bits a number has -/
def lenB (v : Nat) : Nat := if v = 0 then 0 else Nat.log2 v + 1
theorem lenB_shift (x : Nat) (h : 256 ≤ x) : lenB x = lenB (x / 256) + 8 := by
  have h1 : x / 256 ≠ 0 := by omega
  unfold lenB
  rw [if_neg (by omega), if_neg h1]
  have h2 := Nat.log2_self_le h1
  have h3 := Nat.lt_log2_self (n := x / 256)
  have e : Nat.log2 x = Nat.log2 (x / 256) + 8 := by
    rw [Nat.log2_eq_iff (by omega), Nat.pow_add, show Nat.log2 (x / 256) + 8 + 1 = (Nat.log2 (x / 256) + 1) + 8 from by omega, Nat.pow_add]
    constructor
    · show 2 ^ Nat.log2 (x / 256) * 256 ≤ x
      omega
    · show x < 2 ^ (Nat.log2 (x / 256) + 1) * 256
      omega
  rw [e]
theorem str_index8 (s : ByteArray) (i : Nat) (h : i < s.size) (W : World) : (Instr.index 9 (.string s) (.int .u8 (i : Int))).run Try.prog W = .ok (.int .u8 (rd (bytesOf s) (i : Int))) W := by
  have e : s[i]? = some (s[i]'h) := getElem?_pos s i h
  have e2 : ((s[i]'h).toNat : Int) = rd (bytesOf s) (i : Int) := by
    have h' : i < s.data.toList.length := by rw [data_length]; exact h
    simp [rd, bytesOf, List.getD_eq_getElem?_getD, List.getElem?_eq_getElem h']
    rfl
  rw [← e2]
  have hA : ∀ (k : IntKind) (i : Int) (W : World), (asIntOf (.int k i)).run Try.prog W = .ok (k, i) W := fun _ _ _ => rfl
  simp [Instr.index, Try.underlying9, e, hA, Result.andThen]
set_option maxRecDepth 100000 in
set_option maxHeartbeats 1000000 in
theorem len64_any (x : Nat) (hx : x < 65536) (w : World) : Calls Try.prog 72 #[.int .u64 x] w fun e w' => e = .returned (.int .i64 (lenB x)) ∧ w' = w := by
  have core : ∀ (y : Nat), y < 256 → lenB y ≤ 8 := by decide +kernel
  rcases Nat.lt_or_ge x 256 with h | h
  · have d1 : decide ((4294967296 : Int) ≤ (x : Int)) = false := decide_eq_false (by omega)
    have d2 : decide ((65536 : Int) ≤ (x : Int)) = false := decide_eq_false (by omega)
    have d3 : decide ((256 : Int) ≤ (x : Int)) = false := decide_eq_false (by omega)
    have e1 : IntKind.u8.wrap (x : Int) = (x : Int) := by rw [IntKind.wrap_u8]; omega
    have hix := fun (s : ByteArray) (hs : x < s.size) (W : World) => str_index8 s x hs W
    go_enter Try.func72, Try.ntmps72
    generalize hS : ByteArray.mk _ = S
    have hsz : S.size = 256 := by rw [← hS]; rfl
    have htab : ∀ i : Fin 256, rd (bytesOf S) ((i.val : Nat) : Int) = (lenB i.val : Int) := by rw [← hS]; decide +kernel
    clear hS
    have hx2 : rd (bytesOf S) (x : Int) = (lenB x : Int) := htab ⟨x, h⟩
    have hix2 := hix S (by omega)
    rw [hx2] at hix2
    have hq := core x h
    generalize lenB x = q at hix2 hq ⊢
    clear hx2 htab hix hsz h hx core
    go_wp2
    go_ret
    exact ⟨ret_int (by omega), rfl⟩
  · obtain ⟨y, hy⟩ : ∃ y, y = x / 256 := ⟨_, rfl⟩
    have h2 : y < 256 := by omega
    have d1 : decide ((4294967296 : Int) ≤ (x : Int)) = false := decide_eq_false (by omega)
    have d2 : decide ((65536 : Int) ≤ (x : Int)) = false := decide_eq_false (by omega)
    have d3 : decide ((256 : Int) ≤ (x : Int)) = true := decide_eq_true (by omega)
    have e1 : IntKind.u8.wrap (y : Int) = (y : Int) := by rw [IntKind.wrap_u8]; omega
    have e0 : (x : Int) / 2 ^ 8 = (y : Int) := by rw [hy]; push_cast; rfl
    have e00 : (x : Int) / 256 = (y : Int) := by rw [hy]; push_cast; rfl
    have hix := fun (s : ByteArray) (hs : y < s.size) (W : World) => str_index8 s y hs W
    have hl := lenB_shift x h
    rw [← hy] at hl
    rw [hl]
    go_enter Try.func72, Try.ntmps72
    generalize hS : ByteArray.mk _ = S
    have hsz : S.size = 256 := by rw [← hS]; rfl
    have htab : ∀ i : Fin 256, rd (bytesOf S) ((i.val : Nat) : Int) = (lenB i.val : Int) := by rw [← hS]; decide +kernel
    clear hS
    have hx2 : rd (bytesOf S) (y : Int) = (lenB y : Int) := htab ⟨y, h2⟩
    have hix2 := hix S (by omega)
    rw [hx2] at hix2
    have hq := core y h2
    generalize lenB y = q at hix2 hq ⊢
    clear hx2 htab hix hsz h hx hy hl core h2
    go_wp2
    go_ret
    exact ⟨ret_int (by omega), rfl⟩
set_option maxRecDepth 100000 in
set_option maxHeartbeats 1000000 in
theorem bits_any (x : Nat) (hx : x < 65536) (w : World) : Calls Try.prog 71 #[.int .u64 x] w fun e w' => e = .returned (.int .i64 (lenB x)) ∧ w' = w := by
  have HT := Lib.hid (len64_any x hx w)
  clear hx
  go_enter Try.func71, Try.ntmps71
  go_wp2_with (go_at_call 72; refine HT.out.mono ?_; rintro e w1 ⟨rfl, rfl⟩)
  go_ret
  exact ⟨rfl, rfl⟩
end Go.Proofs.Ytikjolinendfgaa.Spe
namespace Go.Proofs.Ytikjolinendfgaa.Spe
open Go.RowKit Go.Proofs.YtikjolinendfgaaW.PrintWords Go.Proofs.YtikjolinendfgaaW.PrintLast Go.Proofs.YtikjolinendfgaaW.PrintMore Go.Proofs.Ytikjolinendfgaa.Bit Go.Proofs.Ytikjolinendfgaa.Ari

theorem fr_below {g : Nat} {v : Value} {W W' : World} (hb : Below W.heap.size W W') (hg : g < W.heap.size) : Fr g v v W W' := ⟨hb.mono (Nat.le_of_lt hg), KeepBut.of_below hb _ _, .inl rfl⟩
/-- a coder at block g, a variable at block bx that points to it; w, v0: as it was at the beginning -/
structure Cl (w : World) (g bx : Nat) (v0 : Value) (s : St) (en : Bool) (v : Value) (W : World) : Prop where
  c : CS W g s en v
  box : W.heap[bx]? = some (.cells #[.pointer (some ⟨g, 0, none⟩)] 25 (0, 0))
  n1 : bx ≠ g
  n2 : v.ownBlock ≠ some bx
  fr : Fr g v0 v w W
section
variable {w : World} {g bx : Nat} {v0 : Value} {s : St} {en : Bool} {v : Value} {W W' : World}
theorem Cl.grow (h : Cl w g bx v0 s en v W) (hb : Below W.heap.size W W') : Cl w g bx v0 s en v W' :=
  ⟨⟨(hb.block _ (blk_lt h.c.at_)).trans h.c.at_, pw_own_below h.c.own hb, h.c.free⟩, (hb.block _ (blk_lt h.box)).trans h.box, h.n1, h.n2, h.fr.trans (fr_below hb (blk_lt h.c.at_))⟩
theorem Cl.glt (h : Cl w g bx v0 s en v W) : g < W.heap.size := blk_lt h.c.at_
theorem Cl.step {s' : St} {en' : Bool} {v' : Value} (h : Cl w g bx v0 s en v W) (hc : CS W' g s' en' v') (hf : Fr g v v' W W') : Cl w g bx v0 s' en' v' W' := by
  have hbl := blk_lt h.box
  refine ⟨hc, (hf.keep.2 bx hbl h.n1 (fun e => h.n2 e.symm)).trans h.box, h.n1, ?_, h.fr.trans hf⟩
  rcases hf.at_ with e | ⟨b, e, hb⟩
  · rw [e]; exact h.n2
  · rw [e]; intro e2; injection e2 with e2; omega
end
set_option maxRecDepth 100000 in
set_option maxHeartbeats 1000000 in
theorem clo_put {w : World} {g bx : Nat} {v0 : Value} {s : St} {v : Value} {W : World} (h : Cl w g bx v0 s false v W) (hs : Ari.Rest s) (hn : Q.steps s ≤ 1000000) (T : Nat) (t : List Int) (hr : ReadsInt W .i64 (some ⟨T, 0, none⟩) t.length t) (hT : T ≠ g)
    (hb : ∀ x ∈ t, -9223372036854775808 ≤ x ∧ x ≤ 9223372036854775807) (hg : Ari.Good t) (i : Nat) (x : Int) (hx : x = i) (hi : i < t.length) :
    Calls Try.prog 55 #[.slice (some ⟨T, 0, none⟩) t.length t.length, .int .i64 x, .pointer (some ⟨bx, 0, none⟩)] W fun e w' => e = .returned (.tuple #[.int .i64 x, .int .i64 0]) ∧ ∃ k s' v', Wid k (cut t i s) s' ∧ Cl w g bx v0 s' false v' w' := by
  subst hx
  have c0 : W.cell? ⟨bx, 0, none⟩ = some (.pointer (some ⟨g, 0, none⟩)) := (blk_cell h.box 0).trans rfl
  have HP := Lib.hid (put_ok g s v (some ⟨T, 0, none⟩) t.length t.length t i W h.c hr (Nat.le_refl _) hb hg hi hs (by unfold Q.steps at hn; omega) (fun ad e => by injection e with e; subst e; exact hT))
  have H := Lib.hid h
  generalize t.length = tn at HP ⊢
  clear h hr hb hg hi hs hn hT
  go_enter Try.func55, Try.ntmps55
  go_wp2_with (go_at_call 18; refine HP.out.mono ?_; rintro e w1 ⟨rfl, k, s', v', h1, h2, h3⟩; have HR := Lib.hid (And.intro h1 (H.out.step h2 h3)); clear h1 h2 h3)
  go_ret2
  exact ⟨rfl, k, s', v', HR.out.1, HR.out.2⟩
set_option maxRecDepth 100000 in
set_option maxHeartbeats 1000000 in
theorem clo_ended {w : World} {g bx : Nat} {v0 : Value} {s : St} {v : Value} {W : World} (h : Cl w g bx v0 s true v W) (u : Value) (x : Int) :
    Calls Try.prog 55 #[u, .int .i64 x, .pointer (some ⟨bx, 0, none⟩)] W fun e w' => e = .returned (.tuple #[.int .i64 x, .int .i64 250]) ∧ w' = W := by
  have c0 : W.cell? ⟨bx, 0, none⟩ = some (.pointer (some ⟨g, 0, none⟩)) := (blk_cell h.box 0).trans rfl
  have HP := Lib.hid (put_ended g s v u (.int .i64 x) W h.c)
  clear h
  go_enter Try.func55, Try.ntmps55
  go_wp2_with (go_at_call 18; refine HP.out.mono ?_; rintro e w1 ⟨rfl, rfl⟩)
  go_ret2
  exact ⟨rfl, rfl⟩
set_option maxRecDepth 100000 in
set_option maxHeartbeats 1000000 in
theorem clo_nil {bx : Nat} {W : World} (h : W.heap[bx]? = some (.cells #[.pointer none] 25 (0, 0))) (u : Value) (x : Int) :
    Calls Try.prog 55 #[u, .int .i64 x, .pointer (some ⟨bx, 0, none⟩)] W fun e w' => e = .returned (.tuple #[.int .i64 x, .int .i64 3]) ∧ w' = W := by
  have c0 : W.cell? ⟨bx, 0, none⟩ = some (.pointer none) := (blk_cell h 0).trans rfl
  clear h
  go_enter Try.func55, Try.ntmps55
  go_wp2_with (go_at_call 18; refine (put_nil u (.int .i64 x) _).mono ?_; rintro e w1 ⟨rfl, rfl⟩)
  go_ret2
  exact ⟨rfl, rfl⟩
end Go.Proofs.Ytikjolinendfgaa.Spe
