/- The walks of the package riff: Chunks and Parse. -/
import Derived.Test.YtcjnfdhdcoobgaaRiff10
set_option linter.unusedVariables false
set_option linter.unusedSimpArgs false
namespace Go.Proofs.Ytcjnfdhdcoobgaa.Rif
open Go.RowKit Go.Proofs.YtcjnfdhdcoobgaaW.PrintWords Go.Proofs.YtcjnfdhdcoobgaaW.PrintLast Go.Proofs.YtcjnfdhdcoobgaaW.PrintMore Go.Proofs.Ytcjnfdhdcoobgaa.Chk

def fmtL : List Int := [102, 109, 116, 32]
def dataL : List Int := [100, 97, 116, 97]
def isPart (p : List Int × List Int) : Bool := decide (p.1 = fmtL) || decide (p.1 = dataL)
/-- the song of two chunks -/
def twoP : List (List Int × List Int) → Option (Int × Int × List Int)
  | [a, b] => if a.1 = fmtL ∧ b.1 = dataL then songP a.2 b.2 else none
  | _ => none
def parseP (M : List Int) : Option (Int × Int × List Int) := (filesP M).bind fun ps => twoP (ps.filter isPart)

theorem pcs_props (L : List Int) : ∀ ps, pcs L = some ps → Bytes L → (∀ p ∈ ps, Bytes p.1 ∧ Bytes p.2 ∧ p.2.length ≤ L.length ∧ p.1.length = 4) ∧ ps.length * 8 ≤ L.length := by
  induction hn : L.length using Nat.strongRecOn generalizing L with
  | _ n ih =>
    intro ps h hB
    subst hn
    rcases Nat.eq_zero_or_pos L.length with h0 | h0
    · obtain rfl := List.eq_nil_of_length_eq_zero h0
      rw [pcs_nil] at h
      injection h with h
      subst h
      simp
    · by_cases hf : Fits L
      · rw [pcs_more hf] at h
        cases hm : pcs (L.drop (8 + (szN L + szN L % 2))) with
        | none => rw [hm] at h; cases h
        | some qs =>
          rw [hm] at h
          injection h with h
          subst h
          have h8 := hf.1
          have hfit := hf.2.1
          have hdl : (L.drop (8 + (szN L + szN L % 2))).length = L.length - (8 + (szN L + szN L % 2)) := List.length_drop
          obtain ⟨k1, k2⟩ := ih _ (by omega) (L.drop (8 + (szN L + szN L % 2))) rfl qs hm (hB.drop _)
          refine ⟨fun p hp => ?_, by simp only [List.length_cons]; omega⟩
          rcases List.mem_cons.1 hp with rfl | hp
          · exact ⟨hB.take _, (hB.take _).drop _, by simp only [List.length_drop, List.length_take]; omega, by simp only [List.length_take]; omega⟩
          · obtain ⟨a, b, c, d⟩ := k1 p hp
            exact ⟨a, b, by omega, d⟩
      · rw [pcs_bad h0 hf] at h
        cases h
theorem files_props (M : List Int) (ps : List (List Int × List Int)) (h : filesP M = some ps) (hB : Bytes M) : (∀ p ∈ ps, Bytes p.1 ∧ Bytes p.2 ∧ p.2.length ≤ M.length ∧ p.1.length = 4) ∧ ps.length * 8 ≤ M.length := by
  unfold filesP at h
  split at h
  · obtain ⟨h1, h2⟩ := pcs_props _ ps h (hB.drop 12)
    rw [List.length_drop] at h2
    refine ⟨fun p hp => ?_, by omega⟩
    obtain ⟨a, b, c, d⟩ := h1 p hp
    rw [List.length_drop] at c
    exact ⟨a, b, by omega, d⟩
  · cases h

theorem pcells_at : ∀ (qs : List PV) (i : Nat) (h : i < qs.length), (pcells qs)[i * 2]? = some (.string (strOfNums qs[i].p.1)) ∧ (pcells qs)[i * 2 + 1]? = some (.slice qs[i].A qs[i].n qs[i].c)
  | [], i, h => absurd h (by simp)
  | q :: t, 0, h => ⟨rfl, rfl⟩
  | q :: t, i + 1, h => by
    have ih := pcells_at t i (by simpa using h)
    have e1 : (i + 1) * 2 = i * 2 + 2 := by omega
    rw [e1]
    exact ih
/-- pieces as they are read -/
def ReadsP (w : World) (A : Option Addr) (qs : List PV) : Prop := ∀ (i : Nat) (h : i < qs.length), ∃ ad, A = some ad ∧ w.cell? (ad.add (i * 2)) = some (.string (strOfNums qs[i].p.1)) ∧ w.cell? ⟨(ad.add (i * 2)).block, (ad.add (i * 2)).off + 1, none⟩ = some (.slice qs[i].A qs[i].n qs[i].c)
theorem ReadsP.of {w : World} {base : Nat} {v : Value} {qs : List PV} (h : w.ownsRow base 121 2 v qs.length (pcells qs)) : ∃ A c, v = .slice A qs.length c ∧ ReadsP w A qs := by
  obtain ⟨A, c, rfl⟩ := own_slice h
  refine ⟨A, c, rfl, fun i hi => ?_⟩
  rcases h.2 with ⟨h1, h2⟩ | ⟨g, cap, cur, h1, -, -, -, -, -, -⟩
  · omega
  · simp only [Value.slice.injEq] at h1
    obtain ⟨rfl, -, rfl⟩ := h1
    have hc := World.ownsRow.cells (g := g) h rfl
    obtain ⟨p1, p2⟩ := pcells_at qs i hi
    refine ⟨_, rfl, hc _ _ p1, ?_⟩
    rw [← add_field _ _ _ (by decide)]
    exact hc _ _ p2
theorem ReadsP.below {w w1 : World} {A : Option Addr} {qs : List PV} (h : ReadsP w A qs) (hb : Below w.heap.size w w1) : ReadsP w1 A qs := fun i hi => by
  obtain ⟨ad, e, h1, h2⟩ := h i hi
  exact ⟨ad, e, pw_cell_below hb h1, pw_cell_below hb h2⟩
/-- pieces' answer, in one form -/
theorem pieces_one (A : Option Addr) (n c : Nat) (M : List Int) (w : World) (hl : M.length ≤ 8192) (hc : M.length ≤ c) (hB : Bytes M) (hr : ReadsInt w .u8 A n M) :
    Calls Try.prog 70 #[.slice A n c] w fun e w' => ∃ (A' : Option Addr) (c' : Nat) (qs : List PV), e = .returned (.tuple #[.slice A' qs.length c', .bool (filesP M).isSome]) ∧ ((filesP M = none ∧ qs = []) ∨ filesP M = some (qs.map PV.p)) ∧ ReadsP w' A' qs ∧ (∀ q ∈ qs, q.ok w) ∧ Below w.heap.size w w' := by
  refine (pieces_any A n c M w hl hc hB hr).mono fun e w' h => ?_
  unfold PcsOut at h
  cases ho : filesP M with
  | none =>
    rw [ho] at h
    obtain ⟨rfl, hb⟩ := h
    exact ⟨none, 0, [], rfl, .inl ⟨rfl, rfl⟩, fun i hi => absurd hi (by simp), by simp, hb⟩
  | some ps =>
    rw [ho] at h
    obtain ⟨v, qs, rfl, rfl, hown, hok, hb⟩ := h
    obtain ⟨A', c', rfl, hR⟩ := ReadsP.of hown
    exact ⟨A', c', qs, rfl, .inr rfl, hR, hok, hb⟩
theorem infoS : (Try.prog.info? 9).map (fun i => (i.zero, i.size, i.bytes)) = some (some (.string ⟨#[]⟩), 1, 16) := by kernel_rfl

/-- what Chunks answers -/
def names (ps : List (List Int × List Int)) : List Value := ps.map fun p => .string (strOfNums p.1)
def ChunksOut (o : Option (List (List Int × List Int))) (w : World) (e : Ending) (w' : World) : Prop :=
  match o with
  | none => e = .returned (.tuple #[.slice none 0 0, .int .i64 140]) ∧ Below w.heap.size w w'
  | some ps => ∃ v, e = .returned (.tuple #[v, .int .i64 0]) ∧ w'.ownsRow w.heap.size 9 1 v ps.length (names ps) ∧ Below w.heap.size w w'
set_option maxRecDepth 100000 in
set_option maxHeartbeats 2000000 in
theorem chunks_any (A : Option Addr) (n c : Nat) (M : List Int) (w : World) (hl : M.length ≤ 8192) (hc : M.length ≤ c) (hB : Bytes M) (hr : ReadsInt w .u8 A n M) :
    Calls Try.prog 39 #[.slice A n c] w (ChunksOut (filesP M) w) := by
  have T := pieces_one A n c M w hl hc hB hr
  have HPP := Lib.hid (fun ps h => files_props M ps h hB)
  go_enter Try.func39, Try.ntmps39
  go_wp2_with fail
  refine T.mono ?_
  rintro e w1 ⟨A', c', qs, rfl, hcase, hR, hok, hb1⟩
  clear T hok
  rcases hcase with ⟨h1, rfl⟩ | h1
  · have HN := Lib.hid h1
    have h2 : (filesP M).isSome = false := by rw [h1]; rfl
    rw [h2]
    clear h1 h2 hR
    go_wp2
    go_ret2
    rw [HN.out]
    exact ⟨rfl, hb1⟩
  · have HN := Lib.hid h1
    have h2 : (filesP M).isSome = true := by rw [h1]; rfl
    rw [h2]
    have hql : qs.length ≤ 1024 := by have := (HPP.out _ h1).2; rw [List.length_map] at this; omega
    clear h1 h2
    go_wp2
    go_loopg [6, 18] qs.length (fun gk v x W => ∃ i : Nat, i ≤ qs.length ∧ gk = qs.length - i ∧ x = .int .i64 i ∧ W.ownsRow w1.heap.size 9 1 v i (names ((qs.take i).map PV.p)) ∧ Below w1.heap.size w1 W)
    case atStart => exact ⟨0, by omega, by omega, rfl, World.ownsRow_nil _ _ _ _, br w1⟩
    case round =>
      obtain ⟨i, hi, rfl, rfl, hown, hb⟩ := hrel
      obtain ⟨A5, c5, rfl⟩ := own_slice hown
      by_cases hlt : i < qs.length
      · obtain ⟨ad, rfl, y1, y2⟩ := (hR.below hb) i hlt
        have HT : Hid (names ((qs.take (i + 1)).map PV.p) = names ((qs.take i).map PV.p) ++ [.string (strOfNums qs[i].p.1)]) := by
          show _ = _
          rw [List.take_succ_eq_append_getElem hlt, List.map_append]
          unfold names
          rw [List.map_append]
          rfl
        generalize qs[i] = q at y1 y2 HT
        obtain ⟨⟨nm, ys⟩, qA, qn, qc⟩ := q
        generalize strOfNums nm = s at y1 HT
        generalize names ((qs.take i).map PV.p) = xs at hown HT
        go_wp2_with (at_builtin; go_loud (refine print_append_cells w1.heap.size rfl (.tmp 22) (.tmp 25) 69 9 (.string ⟨#[]⟩) 1 16 rfl Try.underlying69 infoS rfl (by decide) (by decide) _ i xs [.string s] rfl (by show Value.slice (some ⟨wr.heap.size + 1, 0, none⟩) 1 1 = _; simp) rfl (by intro u hu; simp only [List.mem_singleton] at hu; subst hu; rfl) (own_alloc hown _) (ba hb _) (Nat.le_trans hb.size (by simp)) (by omega) ?_); intro v6 w6 hown6 hb6 hg6 hat6)
        go_roundg (qs.length - (i + 1))
        case measure => omega
        case rel => exact ⟨i + 1, by omega, rfl, by go_num, by rw [HT.out]; exact hown6, hb6⟩
      · obtain rfl : i = qs.length := by omega
        go_wp2
        go_ret2
        rw [HN.out]
        refine ⟨_, rfl, ?_, bt hb1 hb⟩
        rw [List.take_length] at hown
        rw [List.length_map]
        exact own_less hown hb1.size
end Go.Proofs.Ytcjnfdhdcoobgaa.Rif
