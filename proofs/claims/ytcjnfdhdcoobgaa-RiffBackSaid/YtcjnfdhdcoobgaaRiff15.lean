/- What the walk of the document's Parse of a song uses. -/
import Derived.Test.YtcjnfdhdcoobgaaRiff14
set_option linter.unusedVariables false
set_option linter.unusedSimpArgs false
namespace Go.Proofs.Ytcjnfdhdcoobgaa.Rif
open Go.RowKit Go.Proofs.YtcjnfdhdcoobgaaW.PrintWords Go.Proofs.YtcjnfdhdcoobgaaW.PrintLast Go.Proofs.YtcjnfdhdcoobgaaW.PrintMore Go.Proofs.Ytcjnfdhdcoobgaa.Chk

theorem both_at : ∀ (ps : List (List Int × List Int)) (i : Nat) (h : i < ps.length), (both ps)[2 * i]? = some (.string (strOfNums ps[i].1)) ∧ (both ps)[2 * i + 1]? = some (.string (strOfNums ps[i].2))
  | [], i, h => absurd h (by simp)
  | q :: t, 0, h => ⟨rfl, rfl⟩
  | q :: t, i + 1, h => by
    have ih := both_at t i (by simpa using h)
    have e1 : 2 * (i + 1) = 2 * i + 2 := by omega
    rw [e1]
    exact ih
def ReadsB (w : World) (A : Option Addr) (ps : List (List Int × List Int)) : Prop := ∀ (i : Nat) (h : i < ps.length), ∃ ad, A = some ad ∧ w.cell? (ad.add (2 * i)) = some (.string (strOfNums ps[i].1)) ∧ w.cell? (ad.add (2 * i + 1)) = some (.string (strOfNums ps[i].2))
theorem ReadsB.of {w : World} {base : Nat} {v : Value} {ps : List (List Int × List Int)} (h : w.ownsRow base 9 1 v (ps.length * 2) (both ps)) : ∃ A c, v = .slice A (ps.length * 2) c ∧ ReadsB w A ps := by
  obtain ⟨A, c, rfl⟩ := own_slice h
  refine ⟨A, c, rfl, fun i hi => ?_⟩
  rcases h.2 with ⟨h1, h2⟩ | ⟨g, cap, cur, h1, -, -, -, -, -, -⟩
  · omega
  · simp only [Value.slice.injEq] at h1
    obtain ⟨rfl, -, rfl⟩ := h1
    have hc := World.ownsRow.cells (g := g) h rfl
    obtain ⟨p1, p2⟩ := both_at ps i hi
    exact ⟨_, rfl, hc _ _ p1, hc _ _ p2⟩
theorem ReadsB.below {w w1 : World} {A : Option Addr} {ps : List (List Int × List Int)} (h : ReadsB w A ps) (hb : Below w.heap.size w w1) : ReadsB w1 A ps := fun i hi => by
  obtain ⟨ad, e, h1, h2⟩ := h i hi
  exact ⟨ad, e, pw_cell_below hb h1, pw_cell_below hb h2⟩
theorem rchunks_one (s : ByteArray) (w : World) (hs : s.size ≤ 4096) : Calls Try.prog 40 #[.string s] w fun e w' => ∃ (A' : Option Addr) (c' : Nat) (ps : List (List Int × List Int)), e = .returned (.tuple #[.slice A' (ps.length * 2) c', .bool (filesP (bytesOf s)).isSome]) ∧ ((filesP (bytesOf s) = none ∧ ps = []) ∨ filesP (bytesOf s) = some ps) ∧ ReadsB w' A' ps ∧ Below w.heap.size w w' := by
  refine (rchunks_any s w hs).mono fun e w' h => ?_
  unfold RChunksOut at h
  cases ho : filesP (bytesOf s) with
  | none =>
    rw [ho] at h
    obtain ⟨rfl, hb⟩ := h
    exact ⟨none, 0, [], rfl, .inl ⟨rfl, rfl⟩, fun i hi => absurd hi (by simp), hb⟩
  | some ps =>
    rw [ho] at h
    obtain ⟨v, rfl, hown, hb⟩ := h
    obtain ⟨A', c', rfl, hR⟩ := ReadsB.of hown
    exact ⟨A', c', ps, rfl, .inr rfl, hR, hb⟩

abbrev Pc := List Int × List Int
/-- what was found among the parts -/
def Found (ps : List Pc) (F : List Pc) (fo da : Int) : Prop :=
  (F = [] ∧ fo = -1 ∧ da = -1) ∨ (∃ (ia : Nat) (a : Pc), ps[ia]? = some a ∧ F = [a] ∧ a.1 = fmtL ∧ fo = 2 * ia + 1 ∧ da = -1) ∨
  (∃ (ib : Nat) (b : Pc), ps[ib]? = some b ∧ F = [b] ∧ b.1 = dataL ∧ fo = -1 ∧ da = 2 * ib + 1) ∨
  (∃ (ia : Nat) (a : Pc) (ib : Nat) (b : Pc), ps[ia]? = some a ∧ ps[ib]? = some b ∧ F = [a, b] ∧ a.1 = fmtL ∧ b.1 = dataL ∧ fo = 2 * ia + 1 ∧ da = 2 * ib + 1)
theorem Found.signs {ps F : List Pc} {fo da : Int} (h : Found ps F fo da) : -1 ≤ fo ∧ -1 ≤ da := by
  rcases h with ⟨-, rfl, rfl⟩ | ⟨ia, a, -, -, -, rfl, rfl⟩ | ⟨ib, b, -, -, -, rfl, rfl⟩ | ⟨ia, a, ib, b, -, -, -, -, -, rfl, rfl⟩ <;> omega
theorem fmt_ne : fmtL ≠ dataL := by decide
/-- a form behind something -/
theorem Found.bad_form {ps F t : List Pc} {fo da : Int} {p : Pc} (h : Found ps F fo da) (hp : p.1 = fmtL) (hs : 0 ≤ fo ∨ 0 ≤ da) : twoP (F ++ p :: t) = none := by
  rcases h with ⟨rfl, rfl, rfl⟩ | ⟨ia, a, -, rfl, ha, rfl, rfl⟩ | ⟨ib, b, -, rfl, hb, rfl, rfl⟩ | ⟨ia, a, ib, b, -, -, rfl, ha, hb, rfl, rfl⟩
  · omega
  · rcases t with _ | ⟨c, t⟩
    · show (if a.1 = fmtL ∧ p.1 = dataL then _ else none) = none
      rw [if_neg (fun h => fmt_ne (by rw [← hp, h.2]))]
    · rfl
  · rcases t with _ | ⟨c, t⟩
    · show (if b.1 = fmtL ∧ p.1 = dataL then _ else none) = none
      rw [if_neg (fun h => fmt_ne (by rw [← hp, h.2]))]
    · rfl
  · rfl
/-- samples behind samples -/
theorem Found.bad_data {ps F t : List Pc} {fo da : Int} {p : Pc} (h : Found ps F fo da) (hp : p.1 = dataL) (hs : 0 ≤ da) : twoP (F ++ p :: t) = none := by
  rcases h with ⟨rfl, rfl, rfl⟩ | ⟨ia, a, -, rfl, ha, rfl, rfl⟩ | ⟨ib, b, -, rfl, hb, rfl, rfl⟩ | ⟨ia, a, ib, b, -, -, rfl, ha, hb, rfl, rfl⟩
  · omega
  · omega
  · rcases t with _ | ⟨c, t⟩
    · show (if b.1 = fmtL ∧ p.1 = dataL then _ else none) = none
      rw [if_neg (fun h => fmt_ne (by rw [← hb, h.1]))]
    · rfl
  · rfl
theorem Found.form {ps F : List Pc} {fo da : Int} {p : Pc} {k : Nat} (h : Found ps F fo da) (hp : p.1 = fmtL) (hk : ps[k]? = some p) (h1 : fo < 0) (h2 : da < 0) : Found ps (F ++ [p]) (2 * (k : Int) + 1) da := by
  rcases h with ⟨rfl, rfl, rfl⟩ | ⟨ia, a, -, rfl, ha, rfl, rfl⟩ | ⟨ib, b, -, rfl, hb, rfl, rfl⟩ | ⟨ia, a, ib, b, -, -, rfl, ha, hb, rfl, rfl⟩
  · exact .inr (.inl ⟨k, p, hk, rfl, hp, rfl, rfl⟩)
  · omega
  · omega
  · omega
theorem Found.data {ps F : List Pc} {fo da : Int} {p : Pc} {k : Nat} (h : Found ps F fo da) (hp : p.1 = dataL) (hk : ps[k]? = some p) (h2 : da < 0) : Found ps (F ++ [p]) fo (2 * (k : Int) + 1) := by
  rcases h with ⟨rfl, rfl, rfl⟩ | ⟨ia, a, hia, rfl, ha, rfl, rfl⟩ | ⟨ib, b, -, rfl, hb, rfl, rfl⟩ | ⟨ia, a, ib, b, -, -, rfl, ha, hb, rfl, rfl⟩
  · exact .inr (.inr (.inl ⟨k, p, hk, rfl, hp, rfl, rfl⟩))
  · exact .inr (.inr (.inr ⟨ia, a, k, p, hia, hk, rfl, ha, hp, rfl, rfl⟩))
  · omega
  · omega
theorem Found.none_ {ps F : List Pc} {fo da : Int} (h : Found ps F fo da) (hs : fo < 0 ∨ da < 0) : twoP F = none := by
  rcases h with ⟨rfl, rfl, rfl⟩ | ⟨ia, a, hia, rfl, ha, rfl, rfl⟩ | ⟨ib, b, -, rfl, hb, rfl, rfl⟩ | ⟨ia, a, ib, b, -, -, rfl, ha, hb, rfl, rfl⟩
  · rfl
  · rfl
  · rfl
  · omega
theorem Found.both_ {ps F : List Pc} {fo da : Int} (h : Found ps F fo da) (h1 : 0 ≤ fo) (h2 : 0 ≤ da) : ∃ (ia : Nat) (a : Pc) (ib : Nat) (b : Pc), ps[ia]? = some a ∧ ps[ib]? = some b ∧ fo = 2 * ia + 1 ∧ da = 2 * ib + 1 ∧ twoP F = songP a.2 b.2 := by
  rcases h with ⟨rfl, rfl, rfl⟩ | ⟨ia, a, hia, rfl, ha, rfl, rfl⟩ | ⟨ib, b, -, rfl, hb, rfl, rfl⟩ | ⟨ia, a, ib, b, hia, hib, rfl, ha, hb, rfl, rfl⟩
  · omega
  · omega
  · omega
  · exact ⟨ia, a, ib, b, hia, hib, rfl, rfl, by show (if a.1 = fmtL ∧ b.1 = dataL then _ else none) = _; rw [if_pos ⟨ha, hb⟩]⟩
/-- the parts among the first k chunks, and the others -/
theorem parts_split (ps : List Pc) (k : Nat) (h : k < ps.length) : ps.filter isPart = (ps.take k).filter isPart ++ ((if isPart ps[k] then [ps[k]] else []) ++ (ps.drop (k + 1)).filter isPart) := by
  have h1 : ps = ps.take k ++ (ps[k] :: ps.drop (k + 1)) := by rw [← List.drop_eq_getElem_cons h, List.take_append_drop]
  have h2 : ps.filter isPart = (ps.take k ++ (ps[k] :: ps.drop (k + 1))).filter isPart := congrArg _ h1
  rw [h2, List.filter_append]
  congr 1
  generalize ps.drop (k + 1) = T
  generalize ps[k] = x
  by_cases hp : isPart x
  · simp [List.filter_cons, hp]
  · simp [List.filter_cons, hp]
theorem take_parts (ps : List Pc) (k : Nat) (h : k < ps.length) : (ps.take (k + 1)).filter isPart = (ps.take k).filter isPart ++ (if isPart ps[k] then [ps[k]] else []) := by
  rw [List.take_succ_eq_append_getElem h, List.filter_append]
  congr 1
  by_cases hp : isPart ps[k]
  · simp [hp]
  · simp [hp]
/-- the form lies in the file -/
theorem riff_form (R C : Int) (xs : List Int) : ((riffL R C xs).take 36).drop 20 = formL R C := by
  unfold riffL restL chunkL
  rw [formL_length, if_neg (by omega)]
  have h := formL_length R C
  generalize formL R C = f at h
  generalize hr : le _ 4 = r1
  have hr1 : r1.length = 4 := by rw [← hr, le_length]
  generalize hr' : le ((16 : Nat) : Int) 4 = r2
  have hr2 : r2.length = 4 := by rw [← hr', le_length]
  simp only [List.append_nil, List.append_assoc]
  have e1 : ([82, 73, 70, 70] ++ (r1 ++ ([87, 65, 86, 69] ++ ([102, 109, 116, 32] ++ r2))) : List Int).length = 20 := by simp [hr1, hr2]
  have e2 : ∀ X : List Int, [82, 73, 70, 70] ++ (r1 ++ ([87, 65, 86, 69] ++ ([102, 109, 116, 32] ++ (r2 ++ (f ++ X))))) = ([82, 73, 70, 70] ++ (r1 ++ ([87, 65, 86, 69] ++ ([102, 109, 116, 32] ++ r2)))) ++ (f ++ X) := fun X => by simp only [List.append_assoc]
  rw [e2]
  generalize [82, 73, 70, 70] ++ (r1 ++ ([87, 65, 86, 69] ++ ([102, 109, 116, 32] ++ r2))) = Z at e1
  rw [List.drop_take, List.drop_append_of_le_length (by omega), List.drop_of_length_le (by omega), List.nil_append, List.take_append_of_le_length (by omega), List.take_of_length_le (by omega)]
end Go.Proofs.Ytcjnfdhdcoobgaa.Rif
