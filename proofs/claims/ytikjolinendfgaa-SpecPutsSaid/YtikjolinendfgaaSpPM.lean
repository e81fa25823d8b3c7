/- Steps: the document's functions, their walks; the walk of the statement SpecPuts. -/
import Derived.Test.YtikjolinendfgaaSpC
import Derived.Test.YtikjolinendfgaaAr21M
set_option linter.unusedVariables false
set_option linter.unusedSimpArgs false
namespace Go.Proofs.Ytikjolinendfgaa.Spe
open Go.RowKit Go.Proofs.YtikjolinendfgaaW.PrintWords Go.Proofs.YtikjolinendfgaaW.PrintLast Go.Proofs.YtikjolinendfgaaW.PrintMore Go.Proofs.Ytikjolinendfgaa.Bit Go.Proofs.Ytikjolinendfgaa.Ari

set_option maxRecDepth 100000 in
theorem rabs_any (x : Int) (hx : -9223372036854775808 < x ∧ x ≤ 9223372036854775807) (w : World) : Calls Try.prog 58 #[.int .i64 x] w fun e w' => e = .returned (.int .i64 x.natAbs) ∧ w' = w := by
  rcases Int.lt_or_le x 0 with h | h
  · obtain ⟨m, hm⟩ : ∃ m, m = x.natAbs := ⟨_, rfl⟩
    have e : -x = (m : Int) := by omega
    rw [← hm]
    have HM := Lib.hid hm
    clear hm
    go_enter Try.func58, Try.ntmps58
    go_wp2
    go_ret
    exact ⟨ret_int (by omega), rfl⟩
  · obtain ⟨m, rfl⟩ := Int.eq_ofNat_of_zero_le h
    go_enter Try.func58, Try.ntmps58
    go_wp2
    go_ret
    exact ⟨ret_int (by simp), rfl⟩
/-- a table that the document made -/
def MadeR (t : List Int) (w : World) (e : Ending) (w' : World) : Prop := ∃ T, w.heap.size ≤ T ∧ e = .returned (.slice (some ⟨T, 0, none⟩) t.length t.length) ∧ ReadsInt w' .i64 (some ⟨T, 0, none⟩) t.length t ∧ Below w.heap.size w w'
theorem lit_at (W : World) (B : Nat) (hB : W.heap.size = B) (t : List Int) (ht : t.length ≤ 1000) : ReadsInt (W.alloc (.cells (nums .i64 t).toArray 3)) .i64 (some ⟨B, 0, none⟩) t.length t := hB ▸ lit_reads W t ht
set_option maxRecDepth 100000 in
set_option maxHeartbeats 1000000 in
theorem rtable_any (k : Nat) (x : Int) (hx : x = k) (hk : k ≤ 3) (w : World) : Calls Try.prog 59 #[.int .i64 x] w (MadeR (tabS k) w) := by
  subst hx
  have HM : Hid (∀ (W : World) (B : Nat), W.heap.size = B → ∀ t : List Int, t.length ≤ 1000 → ReadsInt (W.alloc (.cells (nums .i64 t).toArray 3)) .i64 (some ⟨B, 0, none⟩) t.length t) := fun W B hB t ht => lit_at W B hB t ht
  rcases (show k = 0 ∨ k = 1 ∨ k = 2 ∨ k = 3 by omega) with rfl | rfl | rfl | rfl
  · go_enter Try.func59, Try.ntmps59
    go_wp2
    go_ret
    exact ⟨w.heap.size, Nat.le_refl _, rfl, ((((HM.out _ _ rfl (tabS 0) (by decide)).allocS _).allocS _).allocS _).allocS _, ba (ba (ba (ba (ba (br w) _) _) _) _) _⟩
  · go_enter Try.func59, Try.ntmps59
    go_wp2
    go_ret
    exact ⟨w.heap.size + 1, by omega, rfl, (((HM.out _ _ (by simp) (tabS 1) (by decide)).allocS _).allocS _).allocS _, ba (ba (ba (ba (ba (br w) _) _) _) _) _⟩
  · go_enter Try.func59, Try.ntmps59
    go_wp2
    go_ret
    exact ⟨w.heap.size + 1 + 1, by omega, rfl, ((HM.out _ _ (by simp) (tabS 2) (by decide)).allocS _).allocS _, ba (ba (ba (ba (ba (br w) _) _) _) _) _⟩
  · go_enter Try.func59, Try.ntmps59
    go_wp2
    go_ret
    exact ⟨w.heap.size + 1 + 1 + 1, by omega, rfl, (HM.out _ _ (by simp) (tabS 3) (by decide)).allocS _, ba (ba (ba (ba (ba (br w) _) _) _) _) _⟩
theorem lastN_up (L : List Int) (n : Nat) : lastN L (n + 1) = if rd L (n : Int) = 0 then lastN L n else n + 1 := rfl
set_option maxRecDepth 100000 in
set_option maxHeartbeats 1000000 in
theorem rlast_any (A : Option Addr) (n c : Nat) (L : List Int) (w : World) (hr : ReadsInt w .i64 A n L) :
    Calls Try.prog 37 #[.slice A n c] w fun e w' => e = .returned (.int .i64 (lastN L n)) ∧ w' = w := by
  have HR := Lib.hid hr
  have hn9 := hr.2.1
  clear hr
  go_enter Try.func37, Try.ntmps37
  go_wp2
  go_loopg [3, 4] n (fun gk x y W => ∃ i R : Nat, i ≤ n ∧ gk = n - i ∧ x = .int .i64 R ∧ y = .int .i64 i ∧ Hid (R = lastN L i) ∧ W = w)
  case atStart => exact ⟨0, 0, by omega, rfl, rfl, rfl, Lib.hid rfl, rfl⟩
  case round =>
    obtain ⟨i, R, hi, rfl, rfl, rfl, HI, rfl⟩ := hrel
    by_cases hlt : i < n
    · obtain ⟨ad, rfl, y⟩ := HR.out.at_ (i : Int) (by omega) (by omega)
      rw [Int.toNat_natCast] at y
      obtain ⟨x, hx⟩ : ∃ x, x = rd L (i : Int) := ⟨_, rfl⟩
      rw [← hx] at y
      have HX := Lib.hid hx
      clear hx
      by_cases hz : x = 0
      · have HI2 : Hid (R = lastN L (i + 1)) := by
          show _ = _
          rw [lastN_up, if_pos (by rw [← HX.out]; exact hz), HI.out]
        subst hz
        clear HI
        go_wp2
        go_roundg (n - (i + 1))
        case measure => omega
        case rel => exact ⟨i + 1, R, by omega, rfl, rfl, by go_num, HI2, rfl⟩
      · have HI2 : Hid (i + 1 = lastN L (i + 1)) := by
          show _ = _
          rw [lastN_up, if_neg (by rw [← HX.out]; exact hz)]
        have hxz : (x == 0) = false := beq_eq_false_iff_ne.2 hz
        clear HI
        go_wp2
        go_roundg (n - (i + 1))
        case measure => omega
        case rel => exact ⟨i + 1, i + 1, by omega, rfl, by go_num, by go_num, HI2, rfl⟩
    · obtain rfl : i = n := by omega
      go_wp2
      go_ret
      exact ⟨ret_int (by rw [HI.out]), rfl⟩
set_option maxRecDepth 100000 in
set_option maxHeartbeats 1000000 in
theorem rmay_any (A : Option Addr) (n c : Nat) (L : List Int) (w : World) (hr : ReadsInt w .i64 A n L) :
    Calls Try.prog 57 #[.slice A n c] w fun e w' => e = .returned (.int .i64 (mayS n L)) ∧ w' = w := by
  have hn : L.length = n := hr.1
  have hn9 := hr.2.1
  by_cases h1 : 120 < n
  · unfold mayS
    rw [if_pos h1]
    clear hr
    go_enter Try.func57, Try.ntmps57
    go_wp2
    go_ret
    exact ⟨rfl, rfl⟩
  · have HR := Lib.hid hr
    have HN := Lib.hid hn
    clear hr hn
    obtain ⟨E, hE⟩ : ∃ E : Int, E = if ∀ x ∈ L, -32767 ≤ x ∧ x ≤ 32767 then 0 else 1 := ⟨_, rfl⟩
    unfold mayS
    rw [if_neg h1, ← hE]
    have HE := Lib.hid hE
    clear hE
    go_enter Try.func57, Try.ntmps57
    go_wp2
    go_loopg [3] n (fun gk x W => ∃ i : Nat, i ≤ n ∧ gk = n - i ∧ x = .int .i64 i ∧ Hid (∀ j : Nat, j < i → -32767 ≤ rd L (j : Int) ∧ rd L (j : Int) ≤ 32767) ∧ W = w)
    case atStart => exact ⟨0, by omega, rfl, rfl, fun j hj => by omega, rfl⟩
    case round =>
      obtain ⟨i, hi, rfl, rfl, HP, rfl⟩ := hrel
      by_cases hlt : i < n
      · obtain ⟨ad, rfl, y⟩ := HR.out.at_ (i : Int) (by omega) (by omega)
        rw [Int.toNat_natCast] at y
        obtain ⟨x, hx⟩ : ∃ x, x = rd L (i : Int) := ⟨_, rfl⟩
        rw [← hx] at y
        have HX := Lib.hid hx
        clear hx
        by_cases hok : -32767 ≤ x ∧ x ≤ 32767
        · obtain ⟨o1, o2⟩ := hok
          go_wp2
          go_roundg (n - (i + 1))
          case measure => omega
          case rel =>
            refine ⟨i + 1, by omega, rfl, by go_num, fun j hj => ?_, rfl⟩
            rcases Nat.lt_or_ge j i with h | h
            · exact HP.out j h
            · obtain rfl : j = i := by omega
              rw [← HX.out]; exact ⟨o1, o2⟩
        · have HF : Hid (E = 1) := by
            show _ = _
            rw [HE.out, if_neg]
            intro hall
            have hil : i < L.length := by rw [HN.out]; exact hlt
            have := hall _ (List.getElem_mem hil)
            rw [← rd_mem L i hil, ← HX.out] at this
            exact hok this
          rcases (show 32767 < x ∨ x < -32767 by omega) with h | h
          · go_wp2
            go_ret
            exact ⟨ret_int HF.out.symm, rfl⟩
          · have h3 : ¬ 32767 < x := by omega
            go_wp2
            go_ret
            exact ⟨ret_int HF.out.symm, rfl⟩
      · obtain rfl : i = n := by omega
        have HF : Hid (E = 0) := by
          show _ = _
          rw [HE.out, if_pos]
          intro x hx
          obtain ⟨j, hj, rfl⟩ := List.mem_iff_getElem.1 hx
          have := HP.out j (by rw [HN.out] at hj; exact hj)
          rw [rd_mem L j hj] at this
          exact this
        go_wp2
        go_ret
        exact ⟨ret_int HF.out.symm, rfl⟩
theorem lenB_half (x : Nat) (h : 0 < x) : lenB x = lenB (x / 2) + 1 := by
  unfold lenB
  rw [if_neg (by omega)]
  by_cases h1 : x / 2 = 0
  · obtain rfl : x = 1 := by omega
    rfl
  · rw [if_neg h1]
    have : Nat.log2 x = Nat.log2 (x / 2) + 1 := by
      rw [Nat.log2_def]
      rw [if_pos (by omega)]
    omega
set_option maxRecDepth 100000 in
set_option maxHeartbeats 1000000 in
theorem rbits_any (x : Nat) (hx : x < 65536) (w : World) : Calls Try.prog 61 #[.int .u64 x] w fun e w' => e = .returned (.int .i64 (lenB x)) ∧ w' = w := by
  have hl : lenB x ≤ 16 := by
    unfold lenB
    split
    · omega
    · rename_i h
      have := (Nat.log2_lt h).2 (show x < 2 ^ 16 from hx)
      omega
  obtain ⟨M, hM⟩ : ∃ M, M = lenB x := ⟨_, rfl⟩
  rw [← hM] at hl ⊢
  have HM := Lib.hid hM
  go_enter Try.func61, Try.ntmps61
  go_wp2
  go_loopg [0, 3] x (fun gk u v W => ∃ y k : Nat, y ≤ 65535 ∧ gk = y ∧ u = .int .u64 y ∧ v = .int .i64 k ∧ k ≤ 16 ∧ Hid (M = k + lenB y) ∧ W = w)
  case atStart => exact ⟨x, 0, by omega, rfl, rfl, rfl, by omega, Lib.hid (by rw [HM.out]; omega), rfl⟩
  case round =>
    obtain ⟨y, k, hy, rfl, rfl, rfl, hk, HK, rfl⟩ := hrel
    clear HM hM
    rcases Nat.eq_zero_or_pos gk with h0 | h0
    · subst h0
      have e : M = k := HK.out
      clear HK
      go_wp2
      go_ret
      exact ⟨ret_int (by omega), rfl⟩
    · have h1 : k + 1 ≤ 16 := by have := HK.out; rw [lenB_half gk h0] at this; omega
      have HK2 : Hid (M = k + 1 + lenB (gk / 2)) := by show _ = _; rw [HK.out, lenB_half gk h0]; omega
      clear HK hl
      go_wp2
      go_roundg (gk / 2)
      case measure => omega
      case rel => exact ⟨gk / 2, k + 1, by omega, rfl, by go_num, by go_num, h1, HK2, rfl⟩
end Go.Proofs.Ytikjolinendfgaa.Spe
namespace Go.Proofs.Ytikjolinendfgaa.Spe
open Go.RowKit Go.Proofs.YtikjolinendfgaaW.PrintWords Go.Proofs.YtikjolinendfgaaW.PrintLast Go.Proofs.YtikjolinendfgaaW.PrintMore Go.Proofs.Ytikjolinendfgaa.Bit Go.Proofs.Ytikjolinendfgaa.Ari

theorem ctx_take2 (L : List Int) (i : Nat) (h : i + 2 ≤ L.length) : ctx (L.take (i + 2)) = (min (rd L (i : Int)).natAbs 3 + min (rd L ((i + 1 : Nat) : Int)).natAbs 3 + 1) / 2 := by
  have h1 : i < L.length := by omega
  have h2 : i + 1 < L.length := by omega
  have e : L.take (i + 2) = L.take i ++ [L[i], L[i + 1]] := by
    rw [List.take_succ_eq_append_getElem h2, List.take_succ_eq_append_getElem h1, List.append_assoc]
    rfl
  have hl : (L.take i).length = i := by rw [List.length_take]; omega
  rw [rd_mem L i h1, rd_mem L (i + 1) h2, e]
  unfold ctx
  rw [List.length_append, hl]
  show (ctxT ((L.take i ++ _).drop (i + 2 - 2)) + 1) / 2 = _
  rw [Nat.add_sub_cancel, List.drop_append_of_le_length (by omega), List.drop_eq_nil_of_le (by omega)]
  simp [ctxT]
theorem ctx_take1 (L : List Int) (h : 1 ≤ L.length) : ctx (L.take 1) = (min (rd L 0).natAbs 3 + 1) / 2 := by
  obtain ⟨x, L', rfl⟩ : ∃ x L', L = x :: L' := by cases L with
    | nil => simp at h
    | cons x L' => exact ⟨x, L', rfl⟩
  simp [ctx, ctxT, rd]
theorem ctx_le (L : List Int) : ctx L ≤ 3 := by
  unfold ctx
  have h2 : (L.drop (L.length - 2)).length ≤ 2 := by rw [List.length_drop]; omega
  generalize L.drop (L.length - 2) = M at h2
  rcases M with _ | ⟨x, _ | ⟨y, _ | ⟨z, M⟩⟩⟩
  · decide
  · simp [ctxT]; omega
  · simp [ctxT]; omega
  · simp at h2
set_option maxRecDepth 100000 in
set_option maxHeartbeats 4000000 in
theorem rcontext_two (A : Option Addr) (n c : Nat) (L : List Int) (w : World) (hr : ReadsInt w .i64 A n L) (hb : ∀ x ∈ L, -32767 ≤ x ∧ x ≤ 32767) (i : Nat) (hi : i + 2 ≤ n) (x : Int) (hx : x = ((i + 2 : Nat) : Int)) :
    Calls Try.prog 60 #[.slice A n c, .int .i64 x] w fun e w' => e = .returned (.int .i64 (ctx (L.take (i + 2)))) ∧ w' = w := by
  have hn : L.length = n := hr.1
  have hn9 := hr.2.1
  have HC := Lib.hid (ctx_take2 L i (by omega))
  obtain ⟨ad, rfl, y1⟩ := hr.at_ (i : Int) (by omega) (by omega)
  obtain ⟨ad', e, y2⟩ := hr.at_ ((i + 1 : Nat) : Int) (by omega) (by omega)
  injection e with e
  subst e
  rw [Int.toNat_natCast] at y1 y2
  have b1 := hb _ (List.getElem_mem (show i < L.length by omega))
  have b2 := hb _ (List.getElem_mem (show i + 1 < L.length by omega))
  rw [← rd_mem L i (by omega)] at b1
  rw [← rd_mem L (i + 1) (by omega)] at b2
  obtain ⟨j, hj⟩ : ∃ j, j = i + 1 := ⟨_, rfl⟩
  obtain ⟨k, hk⟩ : ∃ k, k = i + 2 := ⟨_, rfl⟩
  rw [← hj] at y2 b2 HC
  rw [← hk] at hx HC ⊢
  generalize rd L (i : Int) = u at y1 b1 HC
  generalize rd L (j : Int) = v at y2 b2 HC
  obtain ⟨R, hR⟩ : ∃ R, R = ctx (L.take k) := ⟨_, rfl⟩
  rw [← hR] at HC ⊢
  obtain ⟨p, hp⟩ : ∃ p, u.natAbs = p := ⟨_, rfl⟩
  obtain ⟨q, hq⟩ : ∃ q, v.natAbs = q := ⟨_, rfl⟩
  have HU := Lib.hid (fun W => rabs_any u (by omega) W)
  have HV := Lib.hid (fun W => rabs_any v (by omega) W)
  rw [hp] at HU HC
  rw [hq] at HV HC
  have e1 : (k : Int) - 1 = (j : Int) := by omega
  have e2 : (k : Int) - 2 = (i : Int) := by omega
  have g1 : (0 : Int) < (k : Int) := by omega
  have g2 : (1 : Int) < (k : Int) := by omega
  have g3 : i < n := by omega
  have g4 : j < n := by omega
  subst hx
  clear hR hp hq b1 b2 hr hb hn hj hk hi
  rcases (show p = 0 ∨ p = 1 ∨ p = 2 ∨ p = 3 ∨ 3 < p by omega) with rfl | rfl | rfl | rfl | hp <;>
  rcases (show q = 0 ∨ q = 1 ∨ q = 2 ∨ q = 3 ∨ 3 < q by omega) with rfl | rfl | rfl | rfl | hq <;>
  · have HR2 : Hid (∃ r : Nat, R = r) := ⟨_, rfl⟩
    go_enter Try.func60, Try.ntmps60
    go_wp2_with (first
      | (go_at_call 58; refine (HV.out _).mono ?_; rintro e w1 ⟨rfl, rfl⟩)
      | (go_at_call 58; refine (HU.out _).mono ?_; rintro e w1 ⟨rfl, rfl⟩))
    go_ret
    exact ⟨ret_int (by have := HC.out; omega), rfl⟩
set_option maxRecDepth 100000 in
set_option maxHeartbeats 4000000 in
theorem rcontext_one (A : Option Addr) (n c : Nat) (L : List Int) (w : World) (hr : ReadsInt w .i64 A n L) (hb : ∀ x ∈ L, -32767 ≤ x ∧ x ≤ 32767) (hi : 1 ≤ n) (x : Int) (hx : x = 1) :
    Calls Try.prog 60 #[.slice A n c, .int .i64 x] w fun e w' => e = .returned (.int .i64 (ctx (L.take 1))) ∧ w' = w := by
  have hn : L.length = n := hr.1
  have hn9 := hr.2.1
  have HC := Lib.hid (ctx_take1 L (by omega))
  obtain ⟨ad, rfl, y1⟩ := hr.at_ 0 (by omega) (by omega)
  have b1 := hb _ (List.getElem_mem (show 0 < L.length by omega))
  rw [← rd_mem L 0 (by omega)] at b1
  change -32767 ≤ rd L 0 ∧ rd L 0 ≤ 32767 at b1
  generalize rd L 0 = u at y1 b1 HC
  obtain ⟨R, hR⟩ : ∃ R, R = ctx (L.take 1) := ⟨_, rfl⟩
  rw [← hR] at HC ⊢
  obtain ⟨p, hp⟩ : ∃ p, u.natAbs = p := ⟨_, rfl⟩
  have HU := Lib.hid (fun W => rabs_any u (by omega) W)
  rw [hp] at HU HC
  subst hx
  have y2 := y1
  rw [show ad.add (Int.toNat 0) = ad from add_zero0 ad] at y2
  clear hR hp b1 hr hb hn
  rcases (show p = 0 ∨ p = 1 ∨ p = 2 ∨ p = 3 ∨ 3 < p by omega) with rfl | rfl | rfl | rfl | hp <;>
  · go_enter Try.func60, Try.ntmps60
    go_wp2_with (go_at_call 58; refine (HU.out _).mono ?_; rintro e w1 ⟨rfl, rfl⟩)
    go_ret
    exact ⟨ret_int (by have := HC.out; omega), rfl⟩
set_option maxRecDepth 100000 in
set_option maxHeartbeats 1000000 in
theorem rcontext_none (u : Value) (w : World) (x : Int) (hx : x = 0) :
    Calls Try.prog 60 #[u, .int .i64 x] w fun e w' => e = .returned (.int .i64 0) ∧ w' = w := by
  subst hx
  go_enter Try.func60, Try.ntmps60
  go_wp2
  go_ret
  exact ⟨rfl, rfl⟩
theorem rcontext_any (A : Option Addr) (n c : Nat) (L : List Int) (w : World) (hr : ReadsInt w .i64 A n L) (hb : ∀ x ∈ L, -32767 ≤ x ∧ x ≤ 32767) (i : Nat) (hi : i ≤ n) (x : Int) (hx : x = (i : Int)) :
    Calls Try.prog 60 #[.slice A n c, .int .i64 x] w fun e w' => e = .returned (.int .i64 (ctx (L.take i))) ∧ w' = w := by
  rcases i with _ | _ | i
  · exact (rcontext_none _ w x hx).mono fun e w' h => ⟨by rw [h.1]; simp [ctx, ctxT], h.2⟩
  · exact rcontext_one A n c L w hr hb hi x hx
  · exact rcontext_two A n c L w hr hb i hi x hx
end Go.Proofs.Ytikjolinendfgaa.Spe
namespace Go.Proofs.Ytikjolinendfgaa.Spe
open Go.RowKit Go.Proofs.YtikjolinendfgaaW.PrintWords Go.Proofs.YtikjolinendfgaaW.PrintLast Go.Proofs.YtikjolinendfgaaW.PrintMore Go.Proofs.Ytikjolinendfgaa.Bit Go.Proofs.Ytikjolinendfgaa.Ari

/-- symbols were put by the document's coder at block m since the state s; the table of two lies at block E -/
def RAdv (w : World) (m E : Nat) (v0 : Value) (s : St) (ds : List (List Int × Nat)) (W : World) : Prop :=
  ∃ s' v', Q.Enc ds s s' ∧ Ari.Rest s' ∧ offOf s' = none ∧ RCo W m s'.lo s'.wd s'.ow false s'.bits v' ∧ Fr m v0 v' w W ∧ ReadsInt W .i64 (some ⟨E, 0, none⟩) 2 evenS ∧ E ≠ m ∧ v'.ownBlock ≠ some E ∧ E < W.heap.size
section
variable {w : World} {m E : Nat} {v0 : Value} {s : St} {ds : List (List Int × Nat)} {W W' : World}
theorem RAdv.fr (h : RAdv w m E v0 s ds W) : Below m w W := by obtain ⟨s', v', -, -, -, -, h5, -⟩ := h; exact h5.below
theorem RAdv.grow (h : RAdv w m E v0 s ds W) (hb : Below W.heap.size W W') : RAdv w m E v0 s ds W' := by
  obtain ⟨s', v', h1, h2, h3, h4, h5, h6, h7, h8, h9⟩ := h
  have hm := blk_lt h4.at_
  exact ⟨s', v', h1, h2, h3, ⟨(hb.block _ hm).trans h4.at_, pw_own_below h4.own hb⟩, h5.trans (fr_below hb hm), h6.below hb, h7, h8, Nat.lt_of_lt_of_le h9 hb.size⟩
theorem RAdv.drew (h : RAdv w m E v0 s ds W) : RAdv w m E v0 s ds W.drew := h.grow ⟨rfl, rfl, rfl, Nat.le_refl _, fun _ _ => rfl⟩
theorem RAdv.drewN (h : RAdv w m E v0 s ds W) (k : Nat) : RAdv w m E v0 s ds (W.drewN k) := h.grow (pw_below_drewN (Below.refl _ _) k)
theorem RAdv.put (h : RAdv w m E v0 s ds W) (hs : Ari.Rest s) (hn : Q.steps s + 14 * ds.length ≤ 1000000) (T : Nat) (t : List Int) (c : Nat) (hr : ReadsInt W .i64 (some ⟨T, 0, none⟩) t.length t)
    (hb : ∀ x ∈ t, -9223372036854775808 ≤ x ∧ x ≤ 9223372036854775807) (hg : Ari.Good t) (i : Nat) (x : Int) (hx : x = i) (hi : i < t.length) :
    Calls Try.prog 19 #[.pointer (some ⟨m, 0, none⟩), .slice (some ⟨T, 0, none⟩) t.length c, .int .i64 x] W fun e w' => e = .returned (.int .i64 0) ∧ RAdv w m E v0 s (ds ++ [(t, i)]) w' := by
  subst hx
  obtain ⟨s', v', h1, h2, h3, h4, h5, h6, h7, h8, h9⟩ := h
  have h10 := enc_len h1 hs
  refine (rput_ok m s' v' _ t.length c t i W h4 hr hb hg hi h2 (by unfold Q.steps at h10 hn; omega)).mono fun e w' ⟨k1, k, s2, v2, k2, k3, k4⟩ => ⟨k1, s2, v2, Q.Enc.snoc hg hi h1 k2, Wid.rest k2 (cut_in hg hi h2).1, k2.2, k3, h5.trans k4, reads_keep h6 k4.keep (fun ad e => by injection e with e; subst e; exact ⟨h7, fun e => h8 e.symm⟩), h7, ?_, Nat.lt_of_lt_of_le h9 k4.below.size⟩
  rcases k4.at_ with e | ⟨b, e, hb⟩
  · rw [e]; exact h8
  · rw [e]; intro e2; injection e2 with e2; omega
/-- a bit is put -/
theorem RAdv.bit (h : RAdv w m E v0 s ds W) (hs : Ari.Rest s) (hn : Q.steps s + 14 * ds.length ≤ 1000000) (b : Nat) (x : Int) (hx : x = b) (hb : b < 2) :
    Calls Try.prog 19 #[.pointer (some ⟨m, 0, none⟩), .slice (some ⟨E, 0, none⟩) 2 2, .int .i64 x] W fun e w' => e = .returned (.int .i64 0) ∧ RAdv w m E v0 s (ds ++ [(evenS, b)]) w' := by
  have h6 : ReadsInt W .i64 (some ⟨E, 0, none⟩) 2 evenS := by obtain ⟨s', v', h1, h2, h3, h4, h5, h6, h7, h8, h9⟩ := h; exact h6
  exact h.put hs hn E evenS 2 h6 evenS_in evenS_good b x hx hb
/-- a size is put -/
theorem RAdv.tab (h : RAdv w m E v0 s ds W') (hs : Ari.Rest s) (hn : Q.steps s + 14 * ds.length ≤ 1000000) {T k : Nat} (hr : ReadsInt W .i64 (some ⟨T, 0, none⟩) 15 (tabS k)) (hb : Below W'.heap.size W' W) (i : Nat) (x : Int) (hx : x = i) (hi : i < 15) :
    Calls Try.prog 19 #[.pointer (some ⟨m, 0, none⟩), .slice (some ⟨T, 0, none⟩) 15 15, .int .i64 x] W fun e w' => e = .returned (.int .i64 0) ∧ RAdv w m E v0 s (ds ++ [(tabS k, i)]) w' := by
  have hl := tabS_len k
  have := (h.grow hb).put hs hn T (tabS k) 15 (by rw [hl]; exact hr) (tabS_in k) (tabS_good k) i x hx (by rw [hl]; exact hi)
  rw [hl] at this
  exact this
end
theorem rtable15 (k : Nat) (x : Int) (hx : x = k) (hk : k ≤ 3) (w : World) : Calls Try.prog 59 #[.int .i64 x] w fun e w' => ∃ T, e = .returned (.slice (some ⟨T, 0, none⟩) 15 15) ∧ ReadsInt w' .i64 (some ⟨T, 0, none⟩) 15 (tabS k) ∧ Below w.heap.size w w' :=
  (rtable_any k x hx hk w).mono fun e w' ⟨T, h1, h2, h3, h4⟩ => by
    rw [tabS_len] at h2 h3
    exact ⟨T, h2, h3, h4⟩
set_option maxRecDepth 100000 in
set_option maxHeartbeats 1000000 in
theorem rput_bad (p : Value) (A : Option Addr) (n c : Nat) (L : List Int) (w : World) (hr : ReadsInt w .i64 A n L) (hm : mayS n L ≠ 0) :
    Calls Try.prog 35 #[p, .slice A n c] w fun e w' => e = .returned (.int .i64 (mayS n L)) ∧ Below w.heap.size w w' := by
  have HM := Lib.hid (rmay_any A n c L w hr)
  generalize mayS n L = e at HM hm
  have he : (e == 0) = false := beq_eq_false_iff_ne.2 hm
  have hn9 := hr.2.1
  clear hr hm
  go_enter Try.func35, Try.ntmps35
  go_wp2_with (go_at_call 57; refine HM.out.mono ?_; rintro e w1 ⟨rfl, rfl⟩)
  go_loopg [5, 7] 0 (fun gk x y W => gk = 0 ∧ x = .int .i64 e ∧ y = .int .i64 0 ∧ Hid (Below w1.heap.size w1 W))
  case atStart => exact ⟨rfl, rfl, rfl, ba (br w1) _⟩
  case round =>
    obtain ⟨rfl, rfl, rfl, HB⟩ := hrel
    rcases Nat.eq_zero_or_pos n with h0 | h0
    · subst h0
      go_wp2
      go_ret
      exact ⟨rfl, HB.out⟩
    · go_wp2
      go_ret
      exact ⟨rfl, HB.out⟩
end Go.Proofs.Ytikjolinendfgaa.Spe
namespace Go.Proofs.Ytikjolinendfgaa.Spe
open Go.RowKit Go.Proofs.YtikjolinendfgaaW.PrintWords Go.Proofs.YtikjolinendfgaaW.PrintLast Go.Proofs.YtikjolinendfgaaW.PrintMore Go.Proofs.Ytikjolinendfgaa.Bit Go.Proofs.Ytikjolinendfgaa.Ari

theorem log14 {V : Nat} (h1 : 1 ≤ V) (h2 : V < 32768) : Nat.log2 V ≤ 14 := by
  rcases Nat.lt_or_ge 14 (Nat.log2 V) with h | h
  · exfalso
    have h3 := Nat.log2_self_le (n := V) (by omega)
    have h4 : 2 ^ 15 ≤ 2 ^ Nat.log2 V := Nat.pow_le_pow_right (by decide) h
    omega
  · exact h
set_option maxRecDepth 100000 in
set_option maxHeartbeats 16000000 in
theorem rput_good (m : Nat) (s : St) (v : Value) (A : Option Addr) (n c : Nat) (L : List Int) (w : World) (h : RCo w m s.lo s.wd s.ow false s.bits v) (hs : Ari.Rest s) (ho : offOf s = none) (hr : ReadsInt w .i64 A n L) (hA : 0 < n → ∀ ad, A = some ad → ad.block < m) (hm : mayS n L = 0) (hn : Q.steps s + 14 * (40 * n + 100) ≤ 1000000) :
    Calls Try.prog 35 #[.pointer (some ⟨m, 0, none⟩), .slice A n c] w fun e w' => e = .returned (.int .i64 0) ∧ ∃ s' v', Q.Enc (symsQ L n) s s' ∧ Ari.Rest s' ∧ offOf s' = none ∧ RCo w' m s'.lo s'.wd s'.ow false s'.bits v' ∧ Fr m v v' w w' := by
  have HM := Lib.hid (rmay_any A n c L w hr)
  rw [hm] at HM
  obtain ⟨hn120, hbL⟩ := mayS_ok.1 hm
  have hlen : L.length = n := hr.1
  have HLEN := Lib.hid hlen
  have HBL := Lib.hid hbL
  have HR := Lib.hid hr
  have HAA := Lib.hid hA
  have HS := Lib.hid hs
  have hml : m < w.heap.size := blk_lt h.at_
  have HSL : Hid (∀ i, i ≤ n → (symsQ L i).length ≤ 40 * i) := fun i hi => symsQ_len L hbL i (by rw [hlen]; exact hi)
  have HN := Lib.hid hn
  have HA0 : Hid (∀ o, o = Obj.cells (nums .i64 evenS).toArray 3 → RAdv w m w.heap.size v s [] (w.alloc o)) := fun o hoo =>
    ⟨s, v, rfl, hs, ho, ⟨((ba (br w) o).block _ hml).trans h.at_, pw_own_below h.own (ba (br w) o)⟩, fr_below (ba (br w) o) hml, by rw [hoo]; exact lit_reads w evenS (by decide), by omega, fun e => by have := own_lt h.own _ e; omega, by simp⟩
  clear h hs ho hr hA hm hbL hlen hn
  go_enter Try.func35, Try.ntmps35
  go_wp2_with (go_at_call 57; refine HM.out.mono ?_; rintro e w1 ⟨rfl, rfl⟩)
  generalize hE : w1.heap.size = E at HA0 ⊢
  go_loopg [5, 7] n (fun gk x y W => ∃ i : Nat, i ≤ n ∧ gk = n - i ∧ x = .int .i64 0 ∧ y = .int .i64 i ∧ Hid (RAdv w1 m E v s (symsQ L i) W))
  case atStart => exact ⟨0, by omega, by omega, rfl, rfl, HA0.out _ rfl⟩
  case round =>
    clear HA0 hE
    obtain ⟨i, hi, rfl, rfl, rfl, HAi⟩ := hrel
    by_cases hlt : i < n
    · obtain ⟨ad, hAd, y⟩ := HR.out.at_ (i : Int) (by omega) (by omega)
      subst hAd
      rw [Int.toNat_natCast] at y
      have hiL : i < L.length := by rw [HLEN.out]; exact hlt
      have hx := HBL.out _ (List.getElem_mem hiL)
      rw [← rd_mem L i hiL] at hx
      obtain ⟨x, hxe⟩ : ∃ x, x = rd L (i : Int) := ⟨_, rfl⟩
      rw [← hxe] at y hx
      have HY : Hid (∀ {ds W}, RAdv w1 m E v s ds W → W.cell? (ad.add i) = some (.int .i64 x)) := fun {ds W} h => by
        rw [← y]
        exact World.cell?_of_block (h.fr.block _ (by rw [Bit.add_block]; exact HAA.out (by omega) ad rfl))
      have HRW : Hid (∀ {ds W}, RAdv w1 m E v s ds W → ReadsInt W .i64 (some ad) n L) := fun {ds W} h => reads_under HR.out (HAA.out (by omega)) h.fr
      have hsl := HSL.out i (by omega)
      have HCX : Hid (∀ {ds W}, RAdv w1 m E v s ds W → Calls Try.prog 60 #[.slice (some ad) n c, .int .i64 (i : Int)] W fun e w' => e = .returned (.int .i64 (ctx (L.take i))) ∧ w' = W) := fun {ds W} h => rcontext_any _ n c L W (HRW.out h) HBL.out i (by omega) _ rfl
      have hcx := ctx_le (L.take i)
      have HNX : Hid (symsQ L (i + 1) = symsQ L i ++ symsL (L.take i) x) := by show _ = _; rw [hxe]; rfl
      have HSX : Hid (symsL (L.take i) x = (tabS (ctx (L.take i)), min x.natAbs 14) :: ((if 14 ≤ x.natAbs then symsB (x.natAbs - 13) else []) ++ (if x = 0 then [] else [(evenS, if x < 0 then 1 else 0)]))) := rfl
      obtain ⟨a, ha⟩ : ∃ a, x.natAbs = a := ⟨_, rfl⟩
      have HAB := Lib.hid (fun W => rabs_any x (by omega) W)
      rw [ha] at HAB HSX
      have ha2 : a ≤ 32767 := by omega
      have HXA := Lib.hid ha
      have y0 := HY.out HAi.out
      have hn1 : Q.steps s + 14 * ((symsQ L i).length + 60) ≤ 1000000 := by have := HN.out; omega
      have HN1 := Lib.hid hn1
      generalize ctx (L.take i) = K at HCX HSX hcx
      have HK3 := Lib.hid hcx
      generalize hds : symsQ L i = ds at HAi HN1 HNX
      clear hxe hsl hiL y hx hn1 hcx ha hds
      rcases (show a < 14 ∨ a = 14 ∨ 14 < a by omega) with ha14 | rfl | ha14
      · skip
        go_upto_region 7 with (go_at_call 58; refine (HAB.out _).mono ?_; rintro e w2 ⟨rfl, rfl⟩)
        go_wp2_with (go_at_call 60; refine (HCX.out HAi.out).mono ?_; rintro e w3 ⟨rfl, rfl⟩)
        refine (rtable15 K _ rfl HK3.out _).mono ?_
        rintro e w4 ⟨T, rfl, hT, hb4⟩
        have HT := Lib.hid hT
        have HA4 := Lib.hid (HAi.out.grow hb4)
        clear hT hb4
        go_wp2_with fail
        refine (RAdv.tab HA4.out HS.out (by have := HN1.out; omega) HT.out (Below.refl _ _) a _ rfl (by omega)).mono ?_
        rintro e w5 ⟨rfl, h5⟩
        have HA5 := Lib.hid h5
        clear h5 HT HA4
        have HA14 := Lib.hid ha14
        have hd : decide ((14 : Int) ≤ (a : Int)) = false := decide_eq_false (by omega)
        have HA2 := Lib.hid ha2
        clear ha14 ha2
        go_upto_region 20 with fail
        obtain ⟨wx, rfl⟩ : ∃ wx, wx = w5 := ⟨_, rfl⟩
        obtain ⟨dx, HX⟩ : ∃ dx, Hid (RAdv w1 m E v s dx wx ∧ dx.length ≤ ds.length + 50 ∧ dx ++ (if x = 0 then [] else [(evenS, if x < 0 then 1 else 0)]) = symsQ L (i + 1)) := by
          refine ⟨_, HA5.out, by simp, ?_⟩
          have := HA14.out
          rw [HNX.out, HSX.out, if_neg (show ¬ 14 ≤ a by omega), show min a 14 = a from by omega]
          simp
        clear HA5
        have y1 := HY.out HX.out.1
        have HLN : Hid (Q.steps s + 14 * dx.length ≤ 1000000) := by show _ ≤ _; have := HN1.out; have := HX.out.2.1; omega
        clear y0
        rcases Int.lt_trichotomy x 0 with hx0 | hx0 | hx0
        · have HE : Hid (dx ++ [(evenS, 1)] = symsQ L (i + 1)) := by show _ = _; rw [← HX.out.2.2, if_neg (by omega), if_pos hx0]
          have hxd : decide ((0 : Int) < x) = false := decide_eq_false (by omega)
          go_upto_region 22 with fail
          clear hxd
          go_upto_region 23 with fail
          clear hx0
          go_wp2_with fail
          refine (HX.out.1.bit HS.out HLN.out 1 1 rfl (by decide)).mono ?_
          rintro e w9 ⟨rfl, h9⟩
          have HA9 := Lib.hid h9
          clear h9
          go_wp2
          go_roundg (n - (i + 1))
          case measure => omega
          case rel => exact ⟨i + 1, by omega, rfl, rfl, by go_num, by rw [← HE.out]; exact HA9⟩
        · have HE : Hid (dx = symsQ L (i + 1)) := by show _ = _; rw [← HX.out.2.2, if_pos hx0, List.append_nil]
          subst hx0
          go_wp2
          go_roundg (n - (i + 1))
          case measure => omega
          case rel => exact ⟨i + 1, by omega, rfl, rfl, by go_num, by rw [← HE.out]; exact Lib.hid HX.out.1⟩
        · have HE : Hid (dx ++ [(evenS, 0)] = symsQ L (i + 1)) := by show _ = _; rw [← HX.out.2.2, if_neg (by omega), if_neg (by omega)]
          have hxd : decide (x < 0) = false := decide_eq_false (by omega)
          go_upto_region 21 with fail
          have HX0 := Lib.hid hx0
          clear hx0
          go_wp2_with fail
          refine (HX.out.1.bit HS.out HLN.out 0 0 rfl (by decide)).mono ?_
          rintro e w9 ⟨rfl, h9⟩
          have y2 := HY.out h9
          have HA9 := Lib.hid h9
          clear h9
          go_wp2
          go_roundg (n - (i + 1))
          case measure => omega
          case rel => exact ⟨i + 1, by omega, rfl, rfl, by go_num, by rw [← HE.out]; exact HA9⟩
      · skip
        have HB1 := Lib.hid (rbits_any 1 (by omega))
        rw [show lenB 1 = 1 from by decide] at HB1
        go_upto_region 7 with (go_at_call 58; refine (HAB.out _).mono ?_; rintro e w2 ⟨rfl, rfl⟩)
        go_wp2_with (go_at_call 60; refine (HCX.out HAi.out).mono ?_; rintro e w3 ⟨rfl, rfl⟩)
        refine (rtable15 K _ rfl HK3.out _).mono ?_
        rintro e w4 ⟨T, rfl, hT, hb4⟩
        have HT := Lib.hid hT
        have HA4 := Lib.hid (HAi.out.grow hb4)
        clear hT hb4
        go_wp2_with fail
        refine (RAdv.tab HA4.out HS.out (by have := HN1.out; omega) HT.out (Below.refl _ _) 14 _ rfl (by omega)).mono ?_
        rintro e w5 ⟨rfl, h5⟩
        have HA5 := Lib.hid h5
        clear h5 HT HA4
        clear ha2
        go_wp2_with (first
          | (go_at_call 61; refine (HB1.out _).mono ?_; rintro e w6 ⟨rfl, rfl⟩)
          | fail)
        go_loopg [11] 0 (fun gk z W => gk = 0 ∧ z = .int .i64 0 ∧ Hid (RAdv w1 m E v s (ds ++ [(tabS K, 14)]) W))
        case atStart => exact ⟨rfl, rfl, HA5⟩
        case round =>
          clear HA5
          obtain ⟨rfl, rfl, HAj⟩ := hrel
          go_upto_region 15 with fail
          go_wp2_with fail
          refine (HAj.out.bit HS.out (by have := HN1.out; simp only [List.length_append, List.length_singleton]; omega) 0 0 rfl (by decide)).mono ?_
          rintro e w7 ⟨rfl, h7⟩
          have HA7 := Lib.hid h7
          clear h7 HAj
          go_wp2
          go_loopg [12] 0 (fun gk z W => gk = 0 ∧ z = .int .i64 (-1) ∧ Hid (RAdv w1 m E v s (ds ++ [(tabS K, 14)] ++ [(evenS, 0)]) W))
          case atStart => exact ⟨rfl, rfl, HA7⟩
          case round =>
            clear HA7
            obtain ⟨rfl, rfl, HAq⟩ := hrel
            go_upto_region 20 with fail
            obtain ⟨dx, HX⟩ : ∃ dx, Hid (RAdv w1 m E v s dx wr ∧ dx.length ≤ ds.length + 50 ∧ dx ++ (if x = 0 then [] else [(evenS, if x < 0 then 1 else 0)]) = symsQ L (i + 1)) := by
              refine ⟨_, HAq.out, by simp only [List.length_append, List.length_singleton]; omega, ?_⟩
              rw [HNX.out, HSX.out, if_pos (show 14 ≤ 14 by omega), show symsB (14 - 13) = [(evenS, 0)] from by decide]
              simp
            clear HAq
            have y1 := HY.out HX.out.1
            have HLN : Hid (Q.steps s + 14 * dx.length ≤ 1000000) := by show _ ≤ _; have := HN1.out; have := HX.out.2.1; omega
            clear y0
            rcases Int.lt_trichotomy x 0 with hx0 | hx0 | hx0
            · have HE : Hid (dx ++ [(evenS, 1)] = symsQ L (i + 1)) := by show _ = _; rw [← HX.out.2.2, if_neg (by omega), if_pos hx0]
              have hxd : decide ((0 : Int) < x) = false := decide_eq_false (by omega)
              go_upto_region 22 with fail
              clear hxd
              go_upto_region 23 with fail
              clear hx0
              go_wp2_with fail
              refine (HX.out.1.bit HS.out HLN.out 1 1 rfl (by decide)).mono ?_
              rintro e w9 ⟨rfl, h9⟩
              have HA9 := Lib.hid h9
              clear h9
              go_wp2
              go_roundg (n - (i + 1))
              case measure => omega
              case rel => exact ⟨i + 1, by omega, rfl, rfl, by go_num, by rw [← HE.out]; exact HA9⟩
            · have HE : Hid (dx = symsQ L (i + 1)) := by show _ = _; rw [← HX.out.2.2, if_pos hx0, List.append_nil]
              subst hx0
              go_wp2
              go_roundg (n - (i + 1))
              case measure => omega
              case rel => exact ⟨i + 1, by omega, rfl, rfl, by go_num, by rw [← HE.out]; exact Lib.hid HX.out.1⟩
            · have HE : Hid (dx ++ [(evenS, 0)] = symsQ L (i + 1)) := by show _ = _; rw [← HX.out.2.2, if_neg (by omega), if_neg (by omega)]
              have hxd : decide (x < 0) = false := decide_eq_false (by omega)
              go_upto_region 21 with fail
              have HX0 := Lib.hid hx0
              clear hx0
              go_wp2_with fail
              refine (HX.out.1.bit HS.out HLN.out 0 0 rfl (by decide)).mono ?_
              rintro e w9 ⟨rfl, h9⟩
              have y2 := HY.out h9
              have HA9 := Lib.hid h9
              clear h9
              go_wp2
              go_roundg (n - (i + 1))
              case measure => omega
              case rel => exact ⟨i + 1, by omega, rfl, rfl, by go_num, by rw [← HE.out]; exact HA9⟩
      · skip
        have hab : 14 < a ∧ a ≤ 32767 := ⟨ha14, ha2⟩
        clear ha14 ha2
        go_upto_region 7 with (go_at_call 58; refine (HAB.out _).mono ?_; rintro e w2 ⟨rfl, rfl⟩)
        go_wp2_with (go_at_call 60; refine (HCX.out HAi.out).mono ?_; rintro e w3 ⟨rfl, rfl⟩)
        refine (rtable15 K _ rfl HK3.out _).mono ?_
        rintro e w4 ⟨T, rfl, hT, hb4⟩
        have HT := Lib.hid hT
        have HA4 := Lib.hid (HAi.out.grow hb4)
        clear hT hb4
        go_wp2_with fail
        refine (RAdv.tab HA4.out HS.out (by have := HN1.out; omega) HT.out (Below.refl _ _) 14 _ rfl (by omega)).mono ?_
        rintro e w5 ⟨rfl, h5⟩
        have HA5 := Lib.hid h5
        clear h5 HT HA4
        have HAB2 := Lib.hid hab
        have hd : (14 : Int) ≤ (a : Int) := by omega
        obtain ⟨V, hV⟩ : ∃ V, V = a - 13 := ⟨_, rfl⟩
        have hVI : (a : Int) - 13 = (V : Int) := by omega
        have hV1 : 1 ≤ V ∧ V < 32768 := by omega
        obtain ⟨k, hk⟩ : ∃ k, k = Nat.log2 V := ⟨_, rfl⟩
        have hk14 : k ≤ 14 := by rw [hk]; exact log14 hV1.1 hV1.2
        have HBT := Lib.hid (rbits_any V (by omega))
        rw [show lenB V = k + 1 from by unfold lenB; rw [if_neg (by omega), hk]] at HBT
        have e0 : IntKind.u64.wrap (V : Int) = (V : Int) := by rw [IntKind.wrap_u64]; omega
        have HV := Lib.hid (And.intro hV (And.intro hV1 hk))
        clear hV hV1 hk hab
        go_upto_region 9 with fail
        clear hd
        have hab := HAB2.out
        go_wp2_with (first
          | (go_at_call 61; refine (HBT.out _).mono ?_; rintro e w6 ⟨rfl, rfl⟩)
          | fail)
        clear hab hVI e0
        have HN2 : Hid (∀ q, q ≤ k → Q.steps s + 14 * ((ds ++ [(tabS K, 14)] ++ List.replicate k (evenS, 1) ++ [(evenS, 0)]) ++ tailS V k q).length ≤ 1000000) := fun q hq => by
          have := HN1.out
          simp only [List.length_append, List.length_replicate, List.length_singleton, tailS, List.length_map, List.length_range]
          omega
        have HN3 : Hid (∀ j, j ≤ k → Q.steps s + 14 * (ds ++ [(tabS K, 14)] ++ List.replicate j (evenS, 1)).length ≤ 1000000) := fun j hj => by
          have := HN1.out
          simp only [List.length_append, List.length_replicate, List.length_singleton]
          omega
        go_loopg [11] k (fun gk z W => ∃ j : Nat, j ≤ k ∧ gk = k - j ∧ z = .int .i64 j ∧ Hid (RAdv w1 m E v s (ds ++ [(tabS K, 14)] ++ List.replicate j (evenS, 1)) W))
        case atStart => exact ⟨0, by omega, by omega, rfl, by show RAdv _ _ _ _ _ _ _; simpa using HA5.out⟩
        case round =>
          clear HA5
          obtain ⟨j, hj, rfl, rfl, HAj⟩ := hrel
          by_cases hjk : j < k
          · go_upto_region 14 with fail
            go_wp2_with fail
            refine (HAj.out.bit HS.out (HN3.out j hj) 1 1 rfl (by decide)).mono ?_
            rintro e w7 ⟨rfl, h7⟩
            have HA7 := Lib.hid h7
            clear h7
            go_wp2
            go_roundg (k - (j + 1))
            case measure => omega
            case rel => exact ⟨j + 1, by omega, rfl, by go_num, by show RAdv _ _ _ _ _ _ _; rw [List.replicate_succ', ← List.append_assoc]; exact HA7.out⟩
          · obtain rfl : j = k := by omega
            go_wp2_with (go_at_call 19; refine (HAj.out.bit HS.out (HN3.out j hj) 0 0 rfl (by decide)).mono ?_; rintro e w7 ⟨rfl, h7⟩; have HA7 := Lib.hid h7; clear h7)
            clear HAj
            go_loopg [12] j (fun gk z W => ∃ q : Nat, q ≤ j ∧ gk = j - q ∧ z = .int .i64 ((j : Int) - 1 - q) ∧ Hid (RAdv w1 m E v s ((ds ++ [(tabS K, 14)] ++ List.replicate j (evenS, 1) ++ [(evenS, 0)]) ++ tailS V j q) W))
            case atStart => exact ⟨0, by omega, by omega, by congr 1; omega, by show RAdv _ _ _ _ _ _ _; simpa [tailS] using HA7.out⟩
            case round =>
              clear HA7
              obtain ⟨q, hq, rfl, rfl, HAq⟩ := hrel
              by_cases hlq : q < j
              · obtain ⟨r, hr⟩ : ∃ r, r = j - 1 - q := ⟨_, rfl⟩
                have hrI : (j : Int) - 1 - q = (r : Int) := by omega
                rw [hrI]
                obtain ⟨b, hb⟩ : ∃ b, b = V / 2 ^ r % 2 := ⟨_, rfl⟩
                have hb2 : b < 2 := by omega
                have hmin : min r 64 = r := by omega
                obtain ⟨zz, hzz⟩ : ∃ zz, zz = V / 2 ^ r := ⟨_, rfl⟩
                have hzI : (V : Int) / 2 ^ r = (zz : Int) := by rw [hzz]; push_cast; rfl
                have hzI2 : (V : Int) / 2 ^ min r 64 = (zz : Int) := by rw [hmin]; exact hzI
                have hbI : (zz : Int) % 2 = (b : Int) := by rw [hb, ← hzz]; omega
                have hbT : (zz : Int).tmod 2 = (b : Int) := by rw [Int.tmod_eq_emod_of_nonneg (by omega)]; exact hbI
                have hr0 : (0 : Int) ≤ (r : Int) := by omega
                have hr64 : IntKind.u64.wrap (r : Int) = (r : Int) := by rw [IntKind.wrap_u64]; omega
                have hz3 : zz < 32768 := by rw [hzz]; exact Nat.lt_of_le_of_lt (Nat.div_le_self _ _) HV.out.2.1.2
                have hr14 : r ≤ 14 := by omega
                have HB := Lib.hid (And.intro hb hr)
                clear hb hr hrI hzz hmin
                go_upto_region 19 with fail
                go_wp2_with fail
                refine (HAq.out.bit HS.out (HN2.out q hq) b _ rfl hb2).mono ?_
                rintro e w8 ⟨rfl, h8⟩
                have HA8 := Lib.hid h8
                clear h8 hbI hbT hzI hzI2 hz3
                go_wp2
                go_roundg (j - (q + 1))
                case measure => omega
                case rel =>
                  refine ⟨q + 1, by omega, rfl, ?_, ?_⟩
                  · congr 1
                    have h1 := HB.out.2
                    omega
                  · show RAdv _ _ _ _ _ _ _
                    rw [tailS_snoc, ← List.append_assoc, ← HB.out.2, ← HB.out.1]
                    exact HA8.out
              · obtain rfl : q = j := by omega
                rw [show (q : Int) - 1 - q = -1 from by omega]
                go_upto_region 20 with fail
                obtain ⟨dx, HX⟩ : ∃ dx, Hid (RAdv w1 m E v s dx wr ∧ dx.length ≤ ds.length + 50 ∧ dx ++ (if x = 0 then [] else [(evenS, if x < 0 then 1 else 0)]) = symsQ L (i + 1)) := by
                  refine ⟨_, HAq.out, by simp only [List.length_append, List.length_singleton, List.length_replicate, tailS, List.length_map, List.length_range]; omega, ?_⟩
                  have h1 := HAB2.out
                  have h2 := HV.out
                  rw [HNX.out, HSX.out, if_pos (show 14 ≤ a by omega), show min a 14 = 14 from by omega, ← h2.1]
                  unfold symsB
                  rw [← h2.2.2]
                  simp
                clear HAq
                have y1 := HY.out HX.out.1
                have HLN : Hid (Q.steps s + 14 * dx.length ≤ 1000000) := by show _ ≤ _; have := HN1.out; have := HX.out.2.1; omega
                clear y0
                rcases Int.lt_trichotomy x 0 with hx0 | hx0 | hx0
                · have HE : Hid (dx ++ [(evenS, 1)] = symsQ L (i + 1)) := by show _ = _; rw [← HX.out.2.2, if_neg (by omega), if_pos hx0]
                  have hxd : decide ((0 : Int) < x) = false := decide_eq_false (by omega)
                  go_upto_region 22 with fail
                  clear hxd
                  go_upto_region 23 with fail
                  clear hx0
                  go_wp2_with fail
                  refine (HX.out.1.bit HS.out HLN.out 1 1 rfl (by decide)).mono ?_
                  rintro e w9 ⟨rfl, h9⟩
                  have HA9 := Lib.hid h9
                  clear h9
                  go_wp2
                  go_roundg (n - (i + 1))
                  case measure => omega
                  case rel => exact ⟨i + 1, by omega, rfl, rfl, by go_num, by rw [← HE.out]; exact HA9⟩
                · have HE : Hid (dx = symsQ L (i + 1)) := by show _ = _; rw [← HX.out.2.2, if_pos hx0, List.append_nil]
                  subst hx0
                  go_wp2
                  go_roundg (n - (i + 1))
                  case measure => omega
                  case rel => exact ⟨i + 1, by omega, rfl, rfl, by go_num, by rw [← HE.out]; exact Lib.hid HX.out.1⟩
                · have HE : Hid (dx ++ [(evenS, 0)] = symsQ L (i + 1)) := by show _ = _; rw [← HX.out.2.2, if_neg (by omega), if_neg (by omega)]
                  have hxd : decide (x < 0) = false := decide_eq_false (by omega)
                  go_upto_region 21 with fail
                  have HX0 := Lib.hid hx0
                  clear hx0
                  go_wp2_with fail
                  refine (HX.out.1.bit HS.out HLN.out 0 0 rfl (by decide)).mono ?_
                  rintro e w9 ⟨rfl, h9⟩
                  have y2 := HY.out h9
                  have HA9 := Lib.hid h9
                  clear h9
                  go_wp2
                  go_roundg (n - (i + 1))
                  case measure => omega
                  case rel => exact ⟨i + 1, by omega, rfl, rfl, by go_num, by rw [← HE.out]; exact HA9⟩
    · obtain rfl : i = n := by omega
      obtain ⟨s', v', k1, k2, k3, k4, k5, -⟩ := HAi.out
      have HK := Lib.hid (And.intro k1 (And.intro k2 (And.intro k3 (And.intro k4 k5))))
      clear k1 k2 k3 k4 k5
      go_wp2
      go_ret
      exact ⟨rfl, s', v', HK.out.1, HK.out.2.1, HK.out.2.2.1, HK.out.2.2.2.1, HK.out.2.2.2.2⟩
end Go.Proofs.Ytikjolinendfgaa.Spe
namespace Go.Proofs.Ytikjolinendfgaa.Spe
open Go.RowKit Go.Proofs.YtikjolinendfgaaW.PrintWords Go.Proofs.YtikjolinendfgaaW.PrintLast Go.Proofs.YtikjolinendfgaaW.PrintMore Go.Proofs.Ytikjolinendfgaa.Bit Go.Proofs.Ytikjolinendfgaa.Ari

theorem fin_len3 (s : St) : (fin s).bits.length = Q.steps s + 2 := by unfold fin tellB Q.steps; simp; omega
set_option maxRecDepth 100000 in
set_option maxHeartbeats 1000000 in
theorem rcost_good (A : Option Addr) (n c : Nat) (L : List Int) (w : World) (hr : ReadsInt w .i64 A n L) (hm : mayS n L = 0) :
    Calls Try.prog 38 #[.slice A n c] w fun e w' => (∃ s', Q.Enc (symsQ L n) s0 s' ∧ e = .returned (.int .i64 (Q.steps s' + 2 : Nat))) ∧ Below w.heap.size w w' := by
  have HR := Lib.hid hr
  have hA : Hid (0 < n → ∀ ad, A = some ad → ad.block < w.heap.size) := fun h => M.reads_lt hr h
  have HMM := Lib.hid hm
  obtain ⟨hn120, hbL⟩ := mayS_ok.1 hm
  have hSL := symsQ_len L hbL n (by rw [hr.1]; exact Nat.le_refl _)
  have HSL := Lib.hid hSL
  have HN := Lib.hid hn120
  have hs0 : Ari.Rest s0 ∧ offOf s0 = none ∧ Q.steps s0 = 0 := ⟨⟨by decide, by decide⟩, by decide, rfl⟩
  have HS0 := Lib.hid hs0
  clear hr hm hbL hSL hs0 hn120
  go_enter Try.func38, Try.ntmps38
  go_wp2_with fail
  refine (rnewCoder_any _).mono ?_
  rintro e w1 ⟨rfl, hc1, hb1⟩
  have HC1 : Hid (RCo w1 w.heap.size s0.lo s0.wd s0.ow false s0.bits (.slice none 0 0)) := hc1
  have HB1 := Lib.hid hb1
  clear hc1 hb1
  go_wp2_with fail
  refine (rput_good w.heap.size s0 (.slice none 0 0) A n c L w1 HC1.out HS0.out.1 HS0.out.2.1 (HR.out.below HB1.out) hA.out HMM.out (by rw [HS0.out.2.2]; have := HN.out; omega)).mono ?_
  rintro e w2 ⟨rfl, s', v', h1, h2, h3, h4, h5⟩
  have hst := enc_len h1 HS0.out.1
  rw [HS0.out.2.2] at hst
  have hst2 : Q.steps s' ≤ 14 * (40 * n) := by have := HSL.out; omega
  have HK := Lib.hid (And.intro h1 (And.intro h4 h5))
  have HBN : Hid (s'.bits.length + s'.ow + 65536 < 100000000) := by show _ < _; have := HN.out; unfold Q.steps at hst2; omega
  clear h1 h2 h3 h4 h5 hst hst2
  go_wp2_with fail
  refine (rend_any w.heap.size s'.lo s'.wd s'.ow s'.bits v' _ HK.out.2.1 HBN.out).mono ?_
  rintro e w3 ⟨rfl, v3, h3, hf3⟩
  have hl : (fin ⟨s'.lo, s'.wd, s'.ow, s'.bits⟩).bits.length = Q.steps s' + 2 := fin_len3 s'
  have h3o := h3.own
  obtain ⟨A3, c3, rfl⟩ : ∃ A3 c3, v3 = .slice A3 (Q.steps s' + 2) c3 := by
    obtain ⟨A, c, h, -⟩ := own_reads h3o
    rw [bitsZ_len, hl] at h
    exact ⟨A, c, h⟩
  have y4 := h3.c4
  have HF3 := Lib.hid ((HB1.out.trans HK.out.2.2.below).trans hf3.below)
  clear h3o h3 hf3 hl
  obtain ⟨K, hK⟩ : ∃ K, K = Q.steps s' + 2 := ⟨_, rfl⟩
  have HKK := Lib.hid hK
  rw [← hK] at y4
  have HE := Lib.hid HK.out.1
  clear hK HK
  go_wp2
  go_ret
  exact ⟨⟨s', HE.out, by rw [HKK.out]; rfl⟩, HF3.out⟩
set_option maxRecDepth 100000 in
set_option maxHeartbeats 4000000 in
/-- a line that is put behind a closure that answers an error -/
theorem line_err (bx : Nat) (E : Int) (hE : (E != 0) = true) (u : Value) (A : Option Addr) (c : Nat) (x : Int) (hx : -32767 ≤ x ∧ x ≤ 32767) (W : World)
    (HP : ∀ W', Below W.heap.size W W' → ∀ (u : Value) (x : Int), Calls Try.prog 55 #[u, .int .i64 x, .pointer (some ⟨bx, 0, none⟩)] W' fun e w' => e = .returned (.tuple #[.int .i64 x, .int .i64 E]) ∧ w' = W') :
    Calls Try.prog 56 #[.func (.func 55) #[] #[.pointer (some ⟨bx, 0, none⟩)], .slice A 0 c, .int .i64 x] W fun e w' => e = .returned (.tuple #[.int .i64 0, .int .i64 E]) ∧ Below W.heap.size W w' := by
  have HPH := Lib.hid HP
  obtain ⟨a, ha⟩ : ∃ a, x.natAbs = a := ⟨_, rfl⟩
  have HSZ := Lib.hid (fun W => size_any x (by omega) W)
  rw [ha] at HSZ
  have hab : a ≤ 32767 := by omega
  have HCX := Lib.hid (context_any A 0 c [] W ⟨rfl, by omega, fun h => by omega⟩ (Nat.zero_le _) (by simp))
  rw [show ctx [] = 0 from by simp [ctx, ctxT]] at HCX
  clear HP ha hx
  rcases (show a < 14 ∨ a = 14 ∨ 14 < a by omega) with h | rfl | h <;>
  · go_enter Try.func56, Try.ntmps56
    go_wp2_with (first
      | (go_at_call 66; refine HCX.out.mono ?_; rintro e w1 ⟨rfl, rfl⟩)
      | (go_at_call 65; refine (table_any 0 _ rfl _).mono ?_; rintro e w2 hm; have HB2 := Lib.hid hm.2.2.1; obtain rfl := hm.1; clear hm)
      | (go_at_call 67; refine (HSZ.out _).mono ?_; rintro e w3 ⟨rfl, rfl⟩)
      | (go_at_call 55; refine (HPH.out _ HB2.out _ _).mono ?_; rintro e w4 ⟨rfl, rfl⟩))
    go_ret2
    exact ⟨rfl, HB2.out⟩
set_option maxRecDepth 100000 in
set_option maxHeartbeats 2000000 in
theorem put_err (p : Option Addr) (E : Int) (hE : (E != 0) = true) (A : Option Addr) (n c : Nat) (L : List Int) (w : World) (hr : ReadsInt w .i64 A n L) (hm : mayS n L = 0) (h0 : 0 < n)
    (HP : ∀ W', Below w.heap.size w W' → W'.heap[w.heap.size]? = some (.cells #[.pointer p] 25 (0, 0)) → ∀ (u : Value) (x : Int), Calls Try.prog 55 #[u, .int .i64 x, .pointer (some ⟨w.heap.size, 0, none⟩)] W' fun e w' => e = .returned (.tuple #[.int .i64 x, .int .i64 E]) ∧ w' = W') :
    Calls Try.prog 34 #[.pointer p, .slice A n c] w fun e w' => e = .returned (.int .i64 E) ∧ Below w.heap.size w w' := by
  have HM := Lib.hid (fun W (hW : ReadsInt W .i64 A n L) => may_any A n c L W hW)
  change Hid (∀ W, ReadsInt W .i64 A n L → Calls Try.prog 54 #[.slice A n c] W fun e w' => e = .returned (.int .i64 (mayS n L)) ∧ w' = W) at HM
  rw [hm] at HM
  obtain ⟨hn120, hbL⟩ := mayS_ok.1 hm
  have hx := hbL _ (List.getElem_mem (show 0 < L.length by rw [hr.1]; exact h0))
  rw [← rd_mem L 0 (by rw [hr.1]; exact h0)] at hx
  change -32767 ≤ rd L 0 ∧ rd L 0 ≤ 32767 at hx
  have HR := Lib.hid hr
  obtain ⟨ad, rfl, y⟩ := hr.at_ 0 (by omega) (by omega)
  rw [show ad.add (Int.toNat 0) = ad from add_zero0 ad] at y
  have HY := Lib.hid (fun o => pw_cell_below (ba (br w) o) y)
  obtain ⟨x, hxe⟩ : ∃ x, x = rd L 0 := ⟨_, rfl⟩
  rw [← hxe] at HY hx
  have HPH := Lib.hid HP
  have HX := Lib.hid hx
  clear hr hm hbL hxe HP hx y
  go_enter Try.func34, Try.ntmps34
  go_wp2_with (go_at_call 54; refine (HM.out _ (HR.out.allocS _)).mono ?_; rintro e w1 ⟨rfl, hw1⟩; have HW1 := Lib.hid hw1; clear hw1)
  have hbx : w1.heap[w.heap.size]? = some (.cells #[.pointer p] 25 (0, 0)) := by rw [HW1.out]; exact heap_alloc_new w _
  have hb1 : Below w.heap.size w w1 := by rw [HW1.out]; exact ba (br w) _
  have hlt1 : w.heap.size < w1.heap.size := by rw [HW1.out]; simp
  have y1 : w1.cell? ad = some (.int .i64 x) := by rw [HW1.out]; exact HY.out _
  have HB1 := Lib.hid hb1
  have HL := Lib.hid (line_err w.heap.size E hE (.pointer p) (some ad) c x HX.out w1 (fun W' hW' => HPH.out W' (HB1.out.trans (hW'.mono HB1.out.size)) ((hW'.block _ hlt1).trans hbx)))
  have y2 : w1.cell? (ad.add 0) = some (.int .i64 x) := by rw [add_zero0]; exact y1
  clear hbx hb1 hlt1 HW1 HY
  go_loopg [19] n (fun gk x W => gk = n ∧ x = .int .i64 0 ∧ W = w1)
  case atStart => exact ⟨rfl, rfl, rfl⟩
  case round =>
    obtain ⟨rfl, rfl, rfl⟩ := hrel
    go_wp2_with (go_at_call 56; refine HL.out.mono ?_; rintro e w2 ⟨rfl, h2⟩; have HB2 := Lib.hid h2; clear h2)
    go_ret
    exact ⟨rfl, HB1.out.trans (HB2.out.mono HB1.out.size)⟩
theorem put_over (g : Nat) (s : St) (v : Value) (A : Option Addr) (n c : Nat) (L : List Int) (w : World) (h : CS w g s true v) (hr : ReadsInt w .i64 A n L) (hm : mayS n L = 0) (h0 : 0 < n) :
    Calls Try.prog 34 #[.pointer (some ⟨g, 0, none⟩), .slice A n c] w fun e w' => e = .returned (.int .i64 250) ∧ Below w.heap.size w w' :=
  put_err _ 250 (by decide) A n c L w hr hm h0 fun W' hb hbx u x =>
    clo_ended (w := W') (g := g) (bx := w.heap.size) (v0 := v) (s := s) (v := v) (W := W') ⟨⟨(hb.block _ (blk_lt h.at_)).trans h.at_, pw_own_below h.own hb, h.free⟩, hbx, by have := blk_lt h.at_; omega, fun e => by have := own_lt h.own _ e; omega, Fr.refl g v W'⟩ u x
theorem put_none (A : Option Addr) (n c : Nat) (L : List Int) (w : World) (hr : ReadsInt w .i64 A n L) (hm : mayS n L = 0) (h0 : 0 < n) :
    Calls Try.prog 34 #[.pointer none, .slice A n c] w fun e w' => e = .returned (.int .i64 3) ∧ Below w.heap.size w w' :=
  put_err _ 3 (by decide) A n c L w hr hm h0 fun W' hb hbx u x => clo_nil hbx u x
end Go.Proofs.Ytikjolinendfgaa.Spe
namespace Go.Proofs.Ytikjolinendfgaa.Spe
open Go.RowKit Go.Proofs.YtikjolinendfgaaW.PrintWords Go.Proofs.YtikjolinendfgaaW.PrintLast Go.Proofs.YtikjolinendfgaaW.PrintMore Go.Proofs.Ytikjolinendfgaa.Bit Go.Proofs.Ytikjolinendfgaa.Ari

set_option maxRecDepth 100000 in
set_option maxHeartbeats 16000000 in
theorem puts_walk (A : Option Addr) (n c : Nat) (L : List Int) (w : World) (h : ReadsInt w .i64 A n L) (hc : n ≤ c) :
    Calls Try.prog 9 #[.slice A n c] w fun e w' => e = .returned (.bool true) ∧ Below w.heap.size w w' := by
  have HQ := Lib.hid h
  have HQA : Hid (0 < n → ∀ ad, A = some ad → ad.block < w.heap.size) := fun h0 => M.reads_lt h h0
  have hn9 := h.2.1
  clear h
  by_cases h300 : 300 < n
  · go_enter Try.func9, Try.ntmps9
    go_wp2_with fail
    refine (alive _).mono ?_
    rintro e w1 ⟨rfl, hb1⟩
    go_wp2
    go_ret
    exact ⟨rfl, hb1⟩
  by_cases hm : mayS n L = 0
  rotate_left
  · have hE : (mayS n L != 0) = true := bne_iff_ne.2 hm
    obtain ⟨M, hM⟩ : ∃ M, M = mayS n L := ⟨_, rfl⟩
    rw [← hM] at hE
    have HMM := Lib.hid hM
    have HM0 := Lib.hid hm
    obtain ⟨T, hT⟩ : ∃ T, T = lastN L n := ⟨_, rfl⟩
    have HT := Lib.hid hT
    clear hM hm hT
    go_enter Try.func9, Try.ntmps9
    go_wp2_with fail
    refine (alive _).mono ?_
    rintro e w1 ⟨rfl, hb1⟩
    have HB1 := Lib.hid hb1
    go_wp2_with fail
    refine (newCoder_any _).mono ?_
    rintro e w2 ⟨rfl, hc2, hb2⟩
    have HC2 : Hid (CS w2 w1.heap.size s0 false (.slice none 0 0)) := ⟨hc2.at_, World.ownsRow_nil _ _ _ _, fun _ _ => rfl⟩
    have HB2 := Lib.hid (bt HB1.out hb2)
    clear hb2 hb1 hc2
    generalize w1.heap.size = g at HC2 ⊢
    go_wp2_with fail
    refine (rnewCoder_any _).mono ?_
    rintro e w3 ⟨rfl, -, hb3⟩
    have HC3 : Hid (CS w3 g s0 false (.slice none 0 0)) := ⟨(hb3.block _ (blk_lt HC2.out.at_)).trans HC2.out.at_, World.ownsRow_nil _ _ _ _, fun _ _ => rfl⟩
    have HB3 := Lib.hid (bt HB2.out hb3)
    clear hb3 HC2 HB2
    go_wp2_with fail
    refine (put_bad _ A n c L _ (HQ.out.below HB3.out) HM0.out).mono ?_
    rw [← HMM.out]
    rintro e w4 ⟨rfl, hb4⟩
    have HC4 : Hid (CS w4 g s0 false (.slice none 0 0)) := ⟨(hb4.block _ (blk_lt HC3.out.at_)).trans HC3.out.at_, World.ownsRow_nil _ _ _ _, fun _ _ => rfl⟩
    have HB4 := Lib.hid (bt HB3.out hb4)
    clear hb4 HC3 HB3
    go_wp2_with fail
    refine (rput_bad _ A n c L _ (HQ.out.below HB4.out) HM0.out).mono ?_
    rw [← HMM.out]
    rintro e w5 ⟨rfl, hb5⟩
    have HC5 : Hid (CS w5 g s0 false (.slice none 0 0)) := ⟨(hb5.block _ (blk_lt HC4.out.at_)).trans HC4.out.at_, World.ownsRow_nil _ _ _ _, fun _ _ => rfl⟩
    have HB5 := Lib.hid (bt HB4.out hb5)
    clear hb5 HC4 HB4
    go_wp2_with fail
    refine (cost_bad A n c L _ (HQ.out.below HB5.out) HM0.out).mono ?_
    rw [← HMM.out]
    rintro e w6 ⟨rfl, hb6⟩
    have HC6 : Hid (CS w6 g s0 false (.slice none 0 0)) := ⟨(hb6.block _ (blk_lt HC5.out.at_)).trans HC5.out.at_, World.ownsRow_nil _ _ _ _, fun _ _ => rfl⟩
    have HB6 := Lib.hid (bt HB5.out hb6)
    have hq6 := HQ.out.below HB6.out
    have HQ6 := Lib.hid hq6
    clear hb6 HC5 HB5 hq6
    go_wp2_with fail
    refine (last_any A n c L _ HQ6.out).mono ?_
    rw [← HT.out]
    rintro e w7 ⟨rfl, rfl⟩
    go_wp2_with fail
    refine (rlast_any A n c L _ HQ6.out).mono ?_
    rw [← HT.out]
    rintro e w8 ⟨rfl, rfl⟩
    go_wp2_with fail
    refine (len_any g s0 false _ _ HC6.out).mono ?_
    rintro e w9 ⟨rfl, rfl⟩
    go_wp2
    go_ret
    exact ⟨rfl, HB6.out⟩
  have HM := Lib.hid hm
  obtain ⟨hn120, hbq⟩ := mayS_ok.1 hm
  have hsl := symsQ_len L hbq n (by rw [HQ.out.1]; exact Nat.le_refl _)
  have HSL := Lib.hid hsl
  have HS0 : Hid (Ari.Rest s0 ∧ offOf s0 = none ∧ Q.steps s0 + 14 * (40 * n + 100) ≤ 1000000) := ⟨⟨by decide, by decide⟩, by decide, by rw [show Q.steps s0 = 0 from rfl]; omega⟩
  obtain ⟨T, hT⟩ : ∃ T, T = lastN L n := ⟨_, rfl⟩
  have HT := Lib.hid hT
  have HN := Lib.hid hn120
  clear hm hbq hsl hT h300
  go_enter Try.func9, Try.ntmps9
  go_wp2_with fail
  refine (alive _).mono ?_
  rintro e w1 ⟨rfl, hb1⟩
  have HB1 := Lib.hid hb1
  have HG : Hid (w.heap.size ≤ w1.heap.size) := hb1.size
  go_wp2_with fail
  refine (newCoder_any _).mono ?_
  rintro e w2 ⟨rfl, hc2, hb2⟩
  have HC2 := Lib.hid hc2
  have HB2 := Lib.hid (bt HB1.out hb2)
  clear hb2 hb1 hc2
  go_wp2_with fail
  refine (rnewCoder_any _).mono ?_
  rintro e w3 ⟨rfl, hr3, hb3⟩
  have hg2 := blk_lt HC2.out.at_
  have HBo : Hid (Bo w w1.heap.size w2.heap.size s0 false (.slice none 0 0) (.slice none 0 0) w3) :=
    ⟨bt HB2.out hb3, HG.out, hg2, ⟨(hb3.block _ hg2).trans HC2.out.at_, World.ownsRow_nil _ _ _ _, fun _ _ => rfl⟩, hr3, by simp [Value.ownBlock], fun b hb => by simp [Value.ownBlock] at hb, fun _ => ⟨by decide, by decide⟩⟩
  clear HC2 HB2 HB1 hr3 hb3 hg2
  have HGG : Hid (w.heap.size ≤ w1.heap.size ∧ w.heap.size ≤ w2.heap.size) := ⟨HG.out, by have := HBo.out.gm; have := HG.out; omega⟩
  clear HG
  generalize w1.heap.size = g at HBo HGG ⊢
  generalize w2.heap.size = m at HBo HGG ⊢
  go_wp2_with fail
  refine (put_good g s0 (.slice none 0 0) A n c L w3 HBo.out.c HS0.out.1 HS0.out.2.1 (HQ.out.below HBo.out.base) hc (fun h0 ad e => by have := HQA.out h0 ad e; have := HGG.out.1; omega) HM.out HS0.out.2.2).mono ?_
  rintro e w4 ⟨rfl, s, v4, h1, h2, h3, h4, h5⟩
  have hst := enc_len h1 HS0.out.1
  rw [show Q.steps s0 = 0 from rfl] at hst
  have hst2 : Q.steps s ≤ 100000 := by have := HSL.out; have := HN.out; omega
  have HST := Lib.hid hst2
  have HENC := Lib.hid h1
  have HRE := Lib.hid h2
  have HH4 := Lib.hid (HBo.out.one h4 h5)
  clear h1 h2 h3 h4 h5 hst hst2 HBo HSL
  go_wp2_with fail
  refine (rput_good m s0 (.slice none 0 0) A n c L w4 HH4.out.r HS0.out.1 HS0.out.2.1 (HQ.out.below HH4.out.base) (fun h0 ad e => by have := HQA.out h0 ad e; have := HGG.out.2; omega) HM.out HS0.out.2.2).mono ?_
  rintro e w5 ⟨rfl, s', v5, h1, h2, h3, h4, h5⟩
  obtain rfl : s' = s := (enc_eq h1 rest_s0).trans (enc_eq HENC.out rest_s0).symm
  have HB5 : Hid (Bo w g m s' false v4 v5 w5) := HH4.out.two h4 h5 (fun _ => HRE.out)
  clear h1 h2 h3 h4 h5 HH4
  go_wp2_with fail
  refine (cost_good A n c L w5 (HQ.out.below HB5.out.base) hc HM.out).mono ?_
  rintro e w6 ⟨⟨s2, h1, h2, rfl⟩, hb6⟩
  obtain rfl : s2 = s' := (enc_eq h1 rest_s0).trans (enc_eq HENC.out rest_s0).symm
  have HB6 := Lib.hid (HB5.out.kept hb6)
  clear h1 h2 hb6 HB5
  obtain ⟨K, hK⟩ : ∃ K, K = Q.steps s2 + 2 := ⟨_, rfl⟩
  have HK := Lib.hid hK
  rw [← hK]
  have hK9 : K ≤ 100002 := by have := HST.out; omega
  clear hK
  go_wp2_with fail
  refine (last_any A n c L _ (HQ.out.below HB6.out.base)).mono ?_
  rw [← HT.out]
  rintro e w7 ⟨rfl, rfl⟩
  go_wp2_with fail
  refine (rlast_any A n c L _ (HQ.out.below HB6.out.base)).mono ?_
  rw [← HT.out]
  rintro e w8 ⟨rfl, rfl⟩
  go_upto_region 13 with fail
  have hbits : Hid (s2.bits.length ≤ 100000 ∧ s2.bits.length < 100000000 ∧ s2.bits.length + s2.ow + 65536 < 100000000) := by have := HST.out; unfold Q.steps at this; show _ ∧ _; omega
  go_region_with
    (first
      | (go_at_call 23; refine (Ari.bits_any g s2 false v4 _ (show Bo w g m s2 false v4 v5 _ from (by first | exact HB6.out | exact HB6.out.drewN 1)).c hbits.out.2.1).mono ?_; rintro e w13 ⟨v13, rfl, hown13, hb13⟩; have HB13 := Lib.hid (Bo.kept (show Bo w g m s2 false v4 v5 _ from (by first | exact HB6.out | exact HB6.out.drewN 1)) hb13); obtain ⟨A13, c13, rfl⟩ := own_slice hown13; have cv13 := conv_own hown13; have HOW13 := Lib.hid hown13; clear hown13 hb13)
      | (go_at_call 24; refine (rcbytes_any m s2.lo s2.wd s2.ow false s2.bits _ _ HB13.out.r hbits.out.1).mono ?_; rintro e w14 ⟨rfl, hb14⟩; have HB14 := Lib.hid (HB13.out.kept hb14); have cv14 := conv_own (pw_own_below HOW13.out hb14); clear hb14)
      | (go_at_call 38; refine (rcost_good A n c L _ (HQ.out.below HB14.out.base) HM.out).mono ?_; rintro e w15 ⟨⟨s3, h1, rfl⟩, hb15⟩; have e3 : Q.steps s3 + 2 = K := (by rw [HK.out, (enc_eq h1 rest_s0).trans (enc_eq HENC.out rest_s0).symm]); rw [e3]; have HB15 := Lib.hid (HB14.out.kept hb15); clear hb15 h1 e3)
      | fail)
  all_goals
    go_wp2_with fail
    refine (end_any g s2 v4 _ HB15.out.c hbits.out.2.2).mono ?_
    rintro e w16 ⟨rfl, v16, hc16, hf16⟩
    have HC16 := Lib.hid hc16
    have HB16 : Hid (Below w.heap.size w w16) := HB15.out.base.trans (hf16.below.mono HGG.out.1)
    clear hc16 hf16 HB15
    rcases Nat.eq_zero_or_pos n with hn0 | hn0
    · subst hn0
      go_wp2
      go_ret
      exact ⟨rfl, HB16.out⟩
    · have hn0I : ((n : Int) == 0) = false := beq_eq_false_iff_ne.2 (by omega)
      have HN0 := Lib.hid hn0
      clear hn0
      go_wp2_with fail
      refine (put_over g _ v16 A n c L w16 HC16.out (HQ.out.below HB16.out) HM.out HN0.out).mono ?_
      rintro e w17 ⟨rfl, hb17⟩
      have HB17 := Lib.hid (bt HB16.out hb17)
      clear hb17 HB16 HC16
      go_wp2_with fail
      refine (put_none A n c L w17 (HQ.out.below HB17.out) HM.out HN0.out).mono ?_
      rintro e w18 ⟨rfl, hb18⟩
      have HB18 := Lib.hid (bt HB17.out hb18)
      clear hb18
      go_wp2
      go_ret
      exact ⟨rfl, HB18.out⟩
theorem puts_of (A : Option Addr) (n c : Nat) (z : List Int) (w : World) (h1 : ReadsInt w .i64 A n z ∧ z.length = n ∧ (∀ n ∈ z, (Lit.int .i64 n).wf = true) ∧ n ≤ c) :
    Calls Try.prog 9 #[.slice A n c] w fun e w' => e = .returned (.bool true) ∧ Below w.heap.size w w' := puts_walk A n c z w h1.1 h1.2.2.2
end Go.Proofs.Ytikjolinendfgaa.Spe
