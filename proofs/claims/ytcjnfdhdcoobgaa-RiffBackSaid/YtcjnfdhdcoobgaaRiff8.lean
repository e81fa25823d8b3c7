/- The walk of the package riff: pieces of a file. -/
import Derived.Test.YtcjnfdhdcoobgaaRiff5
set_option linter.unusedVariables false
set_option linter.unusedSimpArgs false
namespace Go.Proofs.Ytcjnfdhdcoobgaa.Rif
open Go.RowKit Go.Proofs.YtcjnfdhdcoobgaaW.PrintWords Go.Proofs.YtcjnfdhdcoobgaaW.PrintLast Go.Proofs.YtcjnfdhdcoobgaaW.PrintMore Go.Proofs.Ytcjnfdhdcoobgaa.Chk

/-- a chunk's number of bytes -/
def szN (L : List Int) : Nat := leV ((L.take 8).drop 4)
/-- does a chunk stand ahead? -/
def Fits (L : List Int) : Prop := 8 ≤ L.length ∧ 8 + (szN L + szN L % 2) ≤ L.length ∧ (szN L % 2 = 1 → rd L ((8 + szN L : Nat) : Int) = 0)
instance (L : List Int) : Decidable (Fits L) := by unfold Fits; infer_instance
/-- the chunks: names and bytes -/
def pcs (L : List Int) : Option (List (List Int × List Int)) :=
  if h0 : L.length = 0 then some []
  else if h : Fits L then (pcs (L.drop (8 + (szN L + szN L % 2)))).map (List.cons (L.take 4, (L.take (8 + szN L)).drop 8))
  else none
termination_by L.length
decreasing_by rw [List.length_drop]; omega
theorem pcs_nil : pcs [] = some [] := by rw [pcs]; rfl
theorem pcs_bad {L : List Int} (h0 : 0 < L.length) (h : ¬ Fits L) : pcs L = none := by rw [pcs, dif_neg (by omega), dif_neg h]
theorem pcs_more {L : List Int} (h : Fits L) : pcs L = (pcs (L.drop (8 + (szN L + szN L % 2)))).map (List.cons (L.take 4, (L.take (8 + szN L)).drop 8)) := by
  have h8 := h.1
  rw [pcs, dif_neg (by omega), dif_pos h]
/-- is it a file's head? -/
def Head (M : List Int) : Prop := 12 ≤ M.length ∧ M.take 4 = [82, 73, 70, 70] ∧ szN M = M.length - 8 ∧ (M.take 12).drop 8 = [87, 65, 86, 69]
instance (M : List Int) : Decidable (Head M) := by unfold Head; infer_instance
def filesP (M : List Int) : Option (List (List Int × List Int)) := if Head M then pcs (M.drop 12) else none

/-- a piece in memory -/
structure PV where
  p : List Int × List Int
  A : Option Addr
  n : Nat
  c : Nat
def pcells (qs : List PV) : List Value := qs.flatMap fun q => [.string (strOfNums q.p.1), .slice q.A q.n q.c]
theorem pcells_length (qs : List PV) : (pcells qs).length = qs.length * 2 := by
  induction qs with
  | nil => rfl
  | cons q t ih => unfold pcells at ih ⊢; simp only [List.flatMap_cons, List.length_append, List.length_cons, List.length_nil, ih]; omega
theorem pcells_snoc (qs : List PV) (q : PV) : pcells (qs ++ [q]) = pcells qs ++ [.string (strOfNums q.p.1), .slice q.A q.n q.c] := by simp [pcells]
def PV.ok (w : World) (q : PV) : Prop := ReadsInt w .u8 q.A q.n q.p.2 ∧ q.n ≤ q.c
/-- what pieces answers -/
def PcsOut (o : Option (List (List Int × List Int))) (w : World) (e : Ending) (w' : World) : Prop :=
  match o with
  | none => e = .returned (.tuple #[.slice none 0 0, .bool false]) ∧ Below w.heap.size w w'
  | some ps => ∃ v qs, qs.map PV.p = ps ∧ e = .returned (.tuple #[v, .bool true]) ∧ w'.ownsRow w.heap.size 121 2 v qs.length (pcells qs) ∧ (∀ q ∈ qs, q.ok w) ∧ Below w.heap.size w w'

theorem size8 : ∃ i, Try.prog.info? 5 = some i ∧ i.size = 1 := by
  obtain ⟨i0, hi, hzz⟩ := Option.map_eq_some_iff.1 info8
  simp only [Prod.mk.injEq] at hzz
  exact ⟨i0, hi, hzz.2.1⟩
theorem cut8 (A : Option Addr) (c : Nat) (M : List Int) (a b : Int) (h0 : 0 ≤ a) (h : a ≤ b) (hb : b ≤ M.length) (hc : M.length ≤ c) :
    ∃ A' : Option Addr, (∀ W : World, (Instr.slice 37 (.slice A M.length c) (some (.int .i64 a)) (some (.int .i64 b)) none).run Try.prog W = .ok (.slice A' (b.toNat - a.toNat) (c - a.toNat)) W) ∧
      ∀ w : World, ReadsInt w .u8 A M.length M → ReadsInt w .u8 A' (b.toNat - a.toNat) ((M.take b.toNat).drop a.toNat) := by
  obtain ⟨i, hi, hs⟩ := size8
  obtain ⟨A', h1, h2, h3⟩ := print_mid_int (P := Try.prog) (k := .u8) 37 5 Try.underlying37 hi hs A c M a b h0 h hb hc
  have hl : ((M.take b.toNat).drop a.toNat).length = b.toNat - a.toNat := by rw [List.length_drop, List.length_take]; omega
  rw [hl] at h1 h2
  exact ⟨A', h1, h2⟩
theorem cut8_to (A : Option Addr) (c : Nat) (M : List Int) (b : Int) (h0 : 0 ≤ b) (hb : b ≤ M.length) (hc : M.length ≤ c) :
    (∀ W : World, (Instr.slice 37 (.slice A M.length c) none (some (.int .i64 b)) none).run Try.prog W = .ok (.slice A b.toNat c) W) ∧
      ∀ w : World, ReadsInt w .u8 A M.length M → ReadsInt w .u8 A b.toNat (M.take b.toNat) := by
  obtain ⟨i, hi, hs⟩ := size8
  obtain ⟨h1, h2, h3⟩ := print_take_int (P := Try.prog) (k := .u8) 37 5 Try.underlying37 hi hs A c M b h0 hb hc
  have hl : (M.take b.toNat).length = b.toNat := by rw [List.length_take]; omega
  rw [hl] at h1 h2
  exact ⟨h1, h2⟩
theorem cut8_from (A : Option Addr) (c : Nat) (M : List Int) (a : Int) (h0 : 0 ≤ a) (hb : a ≤ M.length) (hc : M.length ≤ c) :
    ∃ A' : Option Addr, (∀ W : World, (Instr.slice 37 (.slice A M.length c) (some (.int .i64 a)) none none).run Try.prog W = .ok (.slice A' (M.drop a.toNat).length (c - a.toNat)) W) ∧
      (∀ w : World, ReadsInt w .u8 A M.length M → ReadsInt w .u8 A' (M.drop a.toNat).length (M.drop a.toNat)) ∧ (M.drop a.toNat).length ≤ c - a.toNat := by
  obtain ⟨i, hi, hs⟩ := size8
  exact print_cut_int (P := Try.prog) (k := .u8) 37 5 Try.underlying37 hi hs A c M a h0 hb hc
theorem conv8 {w : World} {A : Option Addr} {n c : Nat} {xs : List Int} (h : ReadsInt w .u8 A n xs) : (convert 37 9 (.slice A n c)).run Try.prog w = .ok (.string (strOfNums xs)) w :=
  string_of_reads Try.underlying37 Try.underlying5 Try.underlying9 h
theorem szN_lt {L : List Int} (h : Bytes L) : szN L < 4294967296 := by
  have h1 := leV_lt ((h.take 8).drop 4)
  unfold szN
  refine Nat.lt_of_lt_of_le h1 ?_
  have : ((L.take 8).drop 4).length ≤ 4 := by rw [List.length_drop, List.length_take]; omega
  exact Nat.le_trans (Nat.pow_le_pow_right (by decide) this) (by decide)
theorem infoP : (Try.prog.info? 121).map (fun i => (i.zero, i.size, i.bytes)) = some (some (.agg #[.string ⟨#[]⟩, .slice none 0 0]), 2, 40) := by kernel_rfl

theorem tl4 (a b c d : UInt8) : (⟨#[a, b, c, d]⟩ : ByteArray).toList = [a, b, c, d] := by rw [Go.ByteArray.toList_eq]
theorem str4 {L : List Int} (hL : Bytes L) (m : List Int) (hm : Bytes m) (a b c d : UInt8) (e : strOfNums m = ⟨#[a, b, c, d]⟩) : ((strOfNums L).toList == [a, b, c, d]) = decide (L = m) := by
  have h := str_eq hL hm
  rw [e, tl4] at h
  exact h
/-- how the loop stands -/
def Stands (o : Option (List (List Int × List Int))) (qs : List PV) (L : List Int) : Prop := o = (pcs L).map (qs.map PV.p ++ ·)
theorem Stands.step {o : Option (List (List Int × List Int))} {qs : List PV} {L : List Int} (h : Stands o qs L) (hf : Fits L) (q : PV) (hq : q.p = (L.take 4, (L.take (8 + szN L)).drop 8)) : Stands o (qs ++ [q]) (L.drop (8 + (szN L + szN L % 2))) := by
  unfold Stands at h ⊢
  rw [h, pcs_more hf]
  cases pcs (L.drop (8 + (szN L + szN L % 2))) with
  | none => rfl
  | some t => simp [hq]
theorem Stands.bad {o : Option (List (List Int × List Int))} {qs : List PV} {L : List Int} (h : Stands o qs L) (h0 : 0 < L.length) (hf : ¬ Fits L) : o = none := by unfold Stands at h; rw [h, pcs_bad h0 hf]; rfl
theorem Stands.done {o : Option (List (List Int × List Int))} {qs : List PV} {L : List Int} (h : Stands o qs L) (h0 : L.length = 0) : o = some (qs.map PV.p) := by
  obtain rfl := List.eq_nil_of_length_eq_zero h0
  unfold Stands at h; rw [h, pcs_nil]; simp

set_option maxRecDepth 100000 in
set_option maxHeartbeats 2000000 in
theorem pieces_any (A : Option Addr) (n c : Nat) (M : List Int) (w : World) (hl : M.length ≤ 8192) (hc : M.length ≤ c) (hB : Bytes M) (hr : ReadsInt w .u8 A n M) :
    Calls Try.prog 70 #[.slice A n c] w (PcsOut (filesP M) w) := by
  obtain rfl := hr.1
  have hHB := Lib.hid hB
  by_cases h12 : 12 ≤ M.length
  · obtain ⟨q1, q2⟩ := cut8_to A c M 4 (by omega) (by omega) hc
    obtain ⟨A2, q3, q4⟩ := cut8 A c M 4 8 (by omega) (by omega) (by omega) hc
    obtain ⟨A3, q5, q6⟩ := cut8 A c M 8 12 (by omega) (by omega) (by omega) hc
    obtain ⟨A4, q7, q8, q9⟩ := cut8_from A c M 12 (by omega) (by omega) hc
    have r1 : (convert 37 9 (.slice A 4 c)).run Try.prog w = .ok (.string (strOfNums (M.take 4))) w := conv8 (q2 w hr)
    have r3 : (convert 37 9 (.slice A3 4 (c - 8))).run Try.prog w = .ok (.string (strOfNums ((M.take 12).drop 8))) w := conv8 (q6 w hr)
    have T := get_any A2 4 (c - 4) _ w (by decide) ((hB.take 8).drop 4) (q4 w hr)
    change Calls Try.prog 81 #[.slice A2 4 (c - 4)] w (fun e w' => e = .returned (.int .i64 (szN M)) ∧ w' = w) at T
    have hsz := szN_lt hB
    have b1 := str4 (hB.take 4) [82, 73, 70, 70] (by intro x hx; simp at hx; omega) 82 73 70 70 rfl
    have b3 := str4 ((hB.take 12).drop 8) [87, 65, 86, 69] (by intro x hx; simp at hx; omega) 87 65 86 69 rfl
    have d12 : decide ((M.length : Int) < 12) = false := decide_eq_false (by omega)
    have Q8 := Lib.hid (And.intro (q8 w hr) q9)
    clear q2 q4 q6 q8 q9
    rcases Classical.em (¬ M.take 4 = [82, 73, 70, 70]) with h1 | h1
    · have HN : filesP M = none := by unfold filesP; rw [if_neg (fun h => h1 h.2.1)]
      rw [HN]
      rw [decide_eq_false h1] at b1
      generalize strOfNums (M.take 4) = S1 at b1 r1
      clear HN hB h1
      go_enter Try.func70, Try.ntmps70
      go_wp2
      go_ret2
      exact ⟨rfl, br w⟩
    replace h1 := Classical.not_not.1 h1
    rw [decide_eq_true h1] at b1
    generalize strOfNums (M.take 4) = S1 at b1 r1
    rcases Classical.em (¬ szN M = M.length - 8) with h2 | h2
    · have HN : filesP M = none := by unfold filesP; rw [if_neg (fun h => h2 h.2.2.1)]
      rw [HN]
      clear HN hB h1
      have hne : ((szN M : Int) != (M.length : Int) - 8) = true := bne_iff_ne.2 (by omega)
      have hne2 : ((szN M : Int) == (M.length : Int) - 8) = false := beq_eq_false_iff_ne.2 (by omega)
      generalize szN M = V at T hsz hne hne2 h2
      clear h2
      go_enter Try.func70, Try.ntmps70
      go_wp2_with fail
      refine T.mono ?_
      rintro e w2 ⟨rfl, rfl⟩
      clear T
      go_wp2
      go_ret2
      exact ⟨rfl, br _⟩
    replace h2 := Classical.not_not.1 h2
    rcases Classical.em (¬ (M.take 12).drop 8 = [87, 65, 86, 69]) with h3 | h3
    · have HN : filesP M = none := by unfold filesP; rw [if_neg (fun h => h3 h.2.2.2)]
      rw [HN]
      rw [decide_eq_false h3] at b3
      clear HN hB h1
      generalize strOfNums ((M.take 12).drop 8) = S3 at b3 r3
      have hne : ((szN M : Int) != (M.length : Int) - 8) = false := bne_eq_false_iff_eq.2 (by omega)
      generalize szN M = V at T hsz hne h2
      clear h2 h3
      go_enter Try.func70, Try.ntmps70
      go_wp2_with fail
      refine T.mono ?_
      rintro e w2 ⟨rfl, rfl⟩
      clear T
      go_wp2
      go_ret2
      exact ⟨rfl, br _⟩
    replace h3 := Classical.not_not.1 h3
    rw [decide_eq_true h3] at b3
    have HN : Hid (filesP M = pcs (M.drop 12)) := by show _ = _; unfold filesP; rw [if_pos ⟨h12, h1, h2, h3⟩]
    clear hB h1
    generalize strOfNums ((M.take 12).drop 8) = S3 at b3 r3
    have hne : ((szN M : Int) != (M.length : Int) - 8) = false := bne_eq_false_iff_eq.2 (by omega)
    generalize szN M = V at T hsz hne h2
    clear h2 h3
    obtain ⟨O, hO⟩ : ∃ O, O = filesP M := ⟨_, rfl⟩
    rw [← hO] at HN ⊢
    clear hO
    have hL0 : Stands O [] (M.drop 12) := by unfold Stands; rw [HN.out]; cases pcs (M.drop 12) <;> simp
    have hBL : Bytes (M.drop 12) := hHB.out.drop 12
    have HL0 := Lib.hid (And.intro hL0 (And.intro hBL Q8.out))
    clear Q8
    have hdl : (M.drop 12).length ≤ 8192 := by rw [List.length_drop]; omega
    replace q7 : ∀ W : World, (Instr.slice 37 (.slice A M.length c) (some (.int .i64 12)) none none).run Try.prog W = .ok (.slice A4 (M.drop 12).length (c - 12)) W := q7
    generalize hLd : M.drop 12 = L0 at hdl q7
    have HLd := Lib.hid hLd
    clear hLd
    clear HN hL0 hBL
    go_enter Try.func70, Try.ntmps70
    go_wp2_with fail
    refine T.mono ?_
    rintro e w2 ⟨rfl, rfl⟩
    clear T
    go_wp2
    go_loopg [0, 4] L0.length (fun gk b l W => ∃ (L : List Int) (A' : Option Addr) (c' : Nat) (qs : List PV), b = .slice A' L.length c' ∧ gk = L.length ∧ L.length ≤ L0.length ∧ qs.length * 8 + L.length ≤ L0.length ∧ Hid (Stands O qs L ∧ Bytes L ∧ ReadsInt w2 .u8 A' L.length L ∧ L.length ≤ c' ∧ ∀ q ∈ qs, q.ok w2) ∧ W.ownsRow w2.heap.size 121 2 l qs.length (pcells qs) ∧ Below w2.heap.size w2 W)
    case atStart => exact ⟨L0, A4, c - 12, [], rfl, rfl, Nat.le_refl _, by simp, ⟨by rw [← HLd.out]; exact HL0.out.1, by rw [← HLd.out]; exact HL0.out.2.1, by have := HL0.out.2.2.1; change ReadsInt w2 .u8 A4 (M.drop 12).length (M.drop 12) at this; rw [HLd.out] at this; exact this, by have := HL0.out.2.2.2; change (M.drop 12).length ≤ c - 12 at this; rw [HLd.out] at this; exact this, by simp⟩, World.ownsRow_nil _ _ _ _, br _⟩
    case round =>
      obtain ⟨L, A', c', qs, rfl, rfl, hLl, hqL, HS, hown, hb⟩ := hrel
      rcases Nat.eq_zero_or_pos L.length with h0 | h0
      · have HO := Lib.hid (HS.out.1.done h0)
        have HOK := Lib.hid HS.out.2.2.2.2
        have d0 : decide (0 < L.length) = false := decide_eq_false (by omega)
        obtain ⟨A5, c5, rfl⟩ := own_slice hown
        clear HS h0
        go_wp2
        go_ret2
        show PcsOut O w2 _ _
        rw [HO.out]
        exact ⟨_, qs, rfl, rfl, hown, HOK.out, hb⟩
      · obtain ⟨A5, c5, rfl⟩ := own_slice hown
        rcases Nat.lt_or_ge L.length 8 with h8 | h8
        · have HN : Hid (O = none) := HS.out.1.bad h0 (fun h => by have := h.1; omega)
          clear HS
          go_wp2
          go_ret2
          rw [HN.out]
          exact ⟨rfl, hb⟩
        · obtain ⟨A2', p3, p4⟩ := cut8 A' c' L 4 8 (by omega) (by omega) (by omega) HS.out.2.2.2.1
          have hrL := HS.out.2.2.1.below hb
          have T := get_any A2' 4 (c' - 4) _ wr (by decide) ((HS.out.2.1.take 8).drop 4) (p4 wr hrL)
          change Calls Try.prog 81 #[.slice A2' 4 (c' - 4)] wr (fun e w' => e = .returned (.int .i64 (szN L)) ∧ w' = wr) at T
          have hsz := szN_lt HS.out.2.1
          have HRL := Lib.hid hrL
          obtain ⟨V, hV⟩ : ∃ V, V = szN L := ⟨_, rfl⟩
          rw [← hV] at T hsz
          have HV := Lib.hid hV
          clear p4 hrL hV
          go_wp2_with fail
          refine T.mono ?_
          rintro e w3 ⟨rfl, rfl⟩
          clear T p3
          rcases Nat.mod_two_eq_zero_or_one V with hp | hp
          · have hv2 : (V : Int) % 2 = 0 := by omega
            by_cases hfit : 8 + V ≤ L.length
            · have HF : Hid (Fits L) := ⟨h8, by rw [← HV.out]; omega, fun h => by rw [← HV.out] at h; omega⟩
              have dgt : decide ((L.length : Int) - 8 < (V : Int)) = false := decide_eq_false (by omega)
              obtain ⟨u1, u2⟩ := cut8_to A' c' L 4 (by omega) (by omega) HS.out.2.2.2.1
              obtain ⟨A8, u3, u4⟩ := cut8 A' c' L 8 (8 + (V : Int)) (by omega) (by omega) (by omega) HS.out.2.2.2.1
              obtain ⟨A9, u5, u6, u7⟩ := cut8_from A' c' L (8 + (V : Int)) (by omega) (by omega) HS.out.2.2.2.1
              rw [show (8 + (V : Int)).toNat = 8 + V from by omega, show (8 : Int).toNat = 8 from rfl, Nat.add_sub_cancel_left] at u3 u4
              rw [show (8 + (V : Int)).toNat = 8 + V from by omega] at u5 u6 u7
              have HC : Hid (∀ W, Below w2.heap.size w2 W → (convert 37 9 (.slice A' 4 c')).run Try.prog W = .ok (.string (strOfNums (L.take 4))) W) := fun W h => conv8 (u2 W (HS.out.2.2.1.below h))
              have HQ : Hid (PV.ok w2 ⟨(L.take 4, (L.take (8 + szN L)).drop 8), A8, V, c' - 8⟩) := ⟨by rw [← HV.out]; exact u4 w2 HS.out.2.2.1, by have := HS.out.2.2.2.1; show V ≤ c' - 8; omega⟩
              have HD : Hid (ReadsInt w2 .u8 A9 (L.drop (8 + V)).length (L.drop (8 + V)) ∧ (L.drop (8 + V)).length ≤ c' - (8 + V)) := ⟨u6 w2 HS.out.2.2.1, u7⟩
              have HST := Lib.hid (HS.out.1.step HF.out ⟨(L.take 4, (L.take (8 + szN L)).drop 8), A8, V, c' - 8⟩ rfl)
              have HB5 := Lib.hid HS.out.2.1
              have HOK := Lib.hid HS.out.2.2.2.2
              have hDl : (L.drop (8 + V)).length = L.length - (8 + V) := List.length_drop
              have e8 : IntKind.i64.wrap (8 + (V : Int)) = 8 + (V : Int) := IntWalk.i64_in _ (by omega)
              have HDl : Hid (∃ D, D = L.drop (8 + V)) := ⟨_, rfl⟩
              obtain ⟨D, hD⟩ := HDl.out
              rw [← hD] at u5 HD hDl
              have HDD := Lib.hid hD
              have hDl2 : D.length + 8 ≤ L.length := by omega
              generalize hNM : strOfNums (L.take 4) = NM at HC
              have HNM := Lib.hid hNM
              clear hNM
              clear hD hDl u2 u4 u6 u7 HS
              go_upto_region 12 with fail
              go_region_held3 (fun w' => (convert 37 9 (.slice A' 4 c')).run Try.prog w' = .ok (.string NM) w')
                (first | exact HC.out _ (below_drew hb) | exact HC.out _ (ba (below_drew hb) _) | exact HC.out _ (by assumption))
                (first
                  | ((refine step_append_cells (W := w3.drew) w2.heap.size rfl (.tmp 64) (.tmp 73) 117 121 (.agg #[.string ⟨#[]⟩, .slice none 0 0]) 2 40 rfl Try.underlying117 infoP rfl (by decide) (by decide) _ qs.length (pcells qs) [.string NM, .slice A8 V (c' - 8)] rfl rfl rfl (by intro u hu; simp only [List.mem_cons, List.not_mem_nil, or_false] at hu; rcases hu with rfl | rfl <;> rfl) (own_drew hown) (below_drew hb) hb.size (by omega) ?_); intro v6 w6 hown6 hb6 hg6 hat6)
                  | fail)
              go_wp2
              go_roundg D.length
              case measure => omega
              case rel =>
                refine ⟨D, A9, c' - (8 + V), qs ++ [⟨(L.take 4, (L.take (8 + szN L)).drop 8), A8, V, c' - 8⟩], rfl, rfl, by omega, by simp; omega, ⟨?_, ?_, HD.out.1, HD.out.2, ?_⟩, ?_, hb6⟩
                · have := HST.out
                  rw [← HV.out, hp, Nat.add_zero, ← HDD.out] at this
                  rw [HV.out] at this ⊢
                  exact this
                · rw [HDD.out]; exact HB5.out.drop _
                · intro q hq
                  rcases List.mem_append.1 hq with h | h
                  · exact HOK.out q h
                  · rw [List.mem_singleton.1 h]; exact HQ.out
                · rw [pcells_snoc, List.length_append]
                  show w6.ownsRow _ _ _ _ (qs.length + 1) (pcells qs ++ [.string (strOfNums (L.take 4)), .slice A8 V (c' - 8)])
                  rw [HNM.out]
                  exact hown6
            · have HN : Hid (O = none) := HS.out.1.bad h0 (fun h => by have h2 := h.2.1; rw [← HV.out] at h2; omega)
              have dgt : decide ((L.length : Int) - 8 < (V : Int)) = true := decide_eq_true (by omega)
              clear HS
              go_wp2
              go_ret2
              rw [HN.out]
              exact ⟨rfl, hb⟩
          · have hv2 : (V : Int) % 2 = 1 := by omega
            by_cases hfit : 8 + (V + 1) ≤ L.length
            · obtain ⟨ad, rfl, y⟩ := (HS.out.2.2.1.below hb).at_ ((8 + V : Nat) : Int) (by omega) (by omega)
              rw [Int.toNat_natCast] at y
              have hyy : (8 + (V : Int)).toNat = 8 + V := by omega
              have hy0 : (0 : Int) ≤ 8 + (V : Int) := by omega
              have hy1 : 8 + (V : Int) < (L.length : Int) := by omega
              have dgt : decide ((L.length : Int) - 8 < (V : Int) + 1) = false := decide_eq_false (by omega)
              rcases Classical.em (rd L ((8 + V : Nat) : Int) = 0) with hx | hx
              · have HF : Hid (Fits L) := ⟨h8, by rw [← HV.out]; omega, fun h => by rw [← HV.out]; exact hx⟩
                obtain ⟨u1, u2⟩ := cut8_to (some ad) c' L 4 (by omega) (by omega) HS.out.2.2.2.1
                obtain ⟨A8, u3, u4⟩ := cut8 (some ad) c' L 8 (8 + (V : Int)) (by omega) (by omega) (by omega) HS.out.2.2.2.1
                obtain ⟨A9, u5, u6, u7⟩ := cut8_from (some ad) c' L (8 + ((V : Int) + 1)) (by omega) (by omega) HS.out.2.2.2.1
                rw [show (8 + (V : Int)).toNat = 8 + V from by omega, show (8 : Int).toNat = 8 from rfl, Nat.add_sub_cancel_left] at u3 u4
                rw [show (8 + ((V : Int) + 1)).toNat = 8 + (V + 1) from by omega] at u5 u6 u7
                have HC : Hid (∀ W, Below w2.heap.size w2 W → (convert 37 9 (.slice (some ad) 4 c')).run Try.prog W = .ok (.string (strOfNums (L.take 4))) W) := fun W h => conv8 (u2 W (HS.out.2.2.1.below h))
                have HQ : Hid (PV.ok w2 ⟨(L.take 4, (L.take (8 + szN L)).drop 8), A8, V, c' - 8⟩) := ⟨by rw [← HV.out]; exact u4 w2 HS.out.2.2.1, by have := HS.out.2.2.2.1; show V ≤ c' - 8; omega⟩
                have HD : Hid (ReadsInt w2 .u8 A9 (L.drop (8 + (V + 1))).length (L.drop (8 + (V + 1))) ∧ (L.drop (8 + (V + 1))).length ≤ c' - (8 + (V + 1))) := ⟨u6 w2 HS.out.2.2.1, u7⟩
                have HST := Lib.hid (HS.out.1.step HF.out ⟨(L.take 4, (L.take (8 + szN L)).drop 8), A8, V, c' - 8⟩ rfl)
                have HB5 := Lib.hid HS.out.2.1
                have HOK := Lib.hid HS.out.2.2.2.2
                have hDl : (L.drop (8 + (V + 1))).length = L.length - (8 + (V + 1)) := List.length_drop
                have e8 : IntKind.i64.wrap (8 + (V : Int)) = 8 + (V : Int) := IntWalk.i64_in _ (by omega)
                have HDl : Hid (∃ D, D = L.drop (8 + (V + 1))) := ⟨_, rfl⟩
                obtain ⟨D, hD⟩ := HDl.out
                rw [← hD] at u5 HD hDl
                have HDD := Lib.hid hD
                have hDl2 : D.length + 8 ≤ L.length := by omega
                generalize hNM : strOfNums (L.take 4) = NM at HC
                have HNM := Lib.hid hNM
                clear hNM
                clear hD hDl u2 u4 u6 u7 HS
                have e9 : IntKind.i64.wrap (8 + ((V : Int) + 1)) = 8 + ((V : Int) + 1) := IntWalk.i64_in _ (by omega)
                rw [hx] at y
                clear hx
                go_upto_region 12 with fail
                go_region_held3 (fun w' => (convert 37 9 (.slice (some ad) 4 c')).run Try.prog w' = .ok (.string NM) w')
                  (first | exact HC.out _ (below_drew hb) | exact HC.out _ (ba (below_drew hb) _) | exact HC.out _ (by assumption))
                  (first
                    | ((refine step_append_cells (W := w3.drew) w2.heap.size rfl (.tmp 64) (.tmp 73) 117 121 (.agg #[.string ⟨#[]⟩, .slice none 0 0]) 2 40 rfl Try.underlying117 infoP rfl (by decide) (by decide) _ qs.length (pcells qs) [.string NM, .slice A8 V (c' - 8)] rfl rfl rfl (by intro u hu; simp only [List.mem_cons, List.not_mem_nil, or_false] at hu; rcases hu with rfl | rfl <;> rfl) (own_drew hown) (below_drew hb) hb.size (by omega) ?_); intro v6 w6 hown6 hb6 hg6 hat6)
                    | fail)
                go_wp2
                go_roundg D.length
                case measure => omega
                case rel =>
                  refine ⟨D, A9, c' - (8 + (V + 1)), qs ++ [⟨(L.take 4, (L.take (8 + szN L)).drop 8), A8, V, c' - 8⟩], rfl, rfl, by omega, by simp; omega, ⟨?_, ?_, HD.out.1, HD.out.2, ?_⟩, ?_, hb6⟩
                  · have := HST.out
                    rw [← HV.out, hp, ← HDD.out] at this
                    rw [HV.out] at this ⊢
                    exact this
                  · rw [HDD.out]; exact HB5.out.drop _
                  · intro q hq
                    rcases List.mem_append.1 hq with h | h
                    · exact HOK.out q h
                    · rw [List.mem_singleton.1 h]; exact HQ.out
                  · rw [pcells_snoc, List.length_append]
                    show w6.ownsRow _ _ _ _ (qs.length + 1) (pcells qs ++ [.string (strOfNums (L.take 4)), .slice A8 V (c' - 8)])
                    rw [HNM.out]
                    exact hown6
              · have HN : Hid (O = none) := HS.out.1.bad h0 (fun h => hx (by have h2 := h.2.2; rw [← HV.out] at h2; exact h2 hp))
                generalize rd L ((8 + V : Nat) : Int) = x at hx y
                have hbx : (x != 0) = true := bne_iff_ne.2 hx
                have hbx2 : (x == 0) = false := beq_eq_false_iff_ne.2 hx
                clear HS hx
                go_wp2
                go_ret2
                rw [HN.out]
                exact ⟨rfl, hb⟩
            · have HN : Hid (O = none) := HS.out.1.bad h0 (fun h => by have h2 := h.2.1; rw [← HV.out] at h2; omega)
              have dgt : decide ((L.length : Int) - 8 < (V : Int) + 1) = true := decide_eq_true (by omega)
              clear HS
              go_wp2
              go_ret2
              rw [HN.out]
              exact ⟨rfl, hb⟩
  · have HN : filesP M = none := by unfold filesP; rw [if_neg (fun h => h12 h.1)]
    rw [HN]
    clear HN hB
    go_enter Try.func70, Try.ntmps70
    go_wp2
    go_ret2
    exact ⟨rfl, br w⟩
end Go.Proofs.Ytcjnfdhdcoobgaa.Rif
