/- The plain law of a strange chunk among a song's; the walk of the statement RiffBack. -/
import Derived.Test.YtcjnfdhdcoobgaaRiff19
set_option linter.unusedVariables false
set_option linter.unusedSimpArgs false
namespace Go.Proofs.Ytcjnfdhdcoobgaa.Rif
open Go.RowKit Go.Proofs.YtcjnfdhdcoobgaaW.PrintWords Go.Proofs.YtcjnfdhdcoobgaaW.PrintLast Go.Proofs.YtcjnfdhdcoobgaaW.PrintMore Go.Proofs.Ytcjnfdhdcoobgaa.Chk

/-- four bytes that name neither -/
def nameL (nm : Nat) : List Int := [((nm % 256 : Nat) : Int), ((nm / 256 % 256 : Nat) : Int), ((nm / 65536 % 256 : Nat) : Int), 33]
def oddP (nm : Nat) (ys : List Int) : Pc := (nameL nm, ys)
theorem le_small (m : Nat) (h : m < 256) : le (m : Int) 4 = [(m : Int), 0, 0, 0] := by
  show [(m : Int) / 1 % 256, (m : Int) / 256 % 256, (m : Int) / 65536 % 256, (m : Int) / 16777216 % 256] = _
  simp only [List.cons.injEq, and_true]
  refine ⟨?_, ?_, ?_, ?_⟩ <;> omega
theorem oddP_not (nm : Nat) (ys : List Int) : isPart (oddP nm ys) = false := by
  have h1 : ¬ nameL nm = fmtL := fun h => by simp [nameL, fmtL] at h
  have h2 : ¬ nameL nm = dataL := fun h => by simp [nameL, dataL] at h
  unfold isPart oddP
  simp [h1, h2]
theorem odd_ck (nm : Nat) (ys : List Int) (h : ys.length < 256) : ck (oddP nm ys) = nameL nm ++ [(ys.length : Int), 0, 0, 0] ++ ys ++ (if ys.length % 2 = 1 then [0] else []) := by
  unfold ck oddP
  show nameL nm ++ le ys.length 4 ++ ys ++ _ = _
  rw [le_small _ h]
/-- the three chunks, the strange one at its place -/
def threeP (wh : Nat) (f d p : Pc) : List Pc := if wh % 3 = 0 then [p, f, d] else if wh % 3 = 1 then [f, p, d] else [f, d, p]
def fP (R C : Int) : Pc := (fmtL, formL R C)
def dP (xs : List Int) : Pc := (dataL, smpL xs xs.length)
theorem three_files (wh nm : Nat) (R C : Int) (xs ys : List Int) (hy : ys.length ≤ 100) (hx : xs.length ≤ 4096) : filesP (fileOf (threeP wh (fP R C) (dP xs) (oddP nm ys))) = some (threeP wh (fP R C) (dP xs) (oddP nm ys)) := by
  have h1 : (formL R C).length = 16 := formL_length R C
  have h2 : (smpL xs xs.length).length = 2 * xs.length := smpL_length _ _
  have hf : ∀ q ∈ threeP wh (fP R C) (dP xs) (oddP nm ys), q = fP R C ∨ q = dP xs ∨ q = oddP nm ys := by
    intro q hq
    unfold threeP at hq
    split at hq
    · simp only [List.mem_cons, List.not_mem_nil, or_false] at hq; rcases hq with h | h | h <;> simp [h]
    · split at hq <;> simp only [List.mem_cons, List.not_mem_nil, or_false] at hq <;> rcases hq with h | h | h <;> simp [h]
  have hp : ∀ q ∈ threeP wh (fP R C) (dP xs) (oddP nm ys), q.1.length = 4 ∧ q.2.length < 4294967296 := by
    intro q hq
    rcases hf q hq with rfl | rfl | rfl
    · exact ⟨rfl, by show (formL R C).length < _; omega⟩
    · exact ⟨rfl, by show (smpL xs xs.length).length < _; omega⟩
    · exact ⟨rfl, by show ys.length < _; omega⟩
  have c1 : (ck (fP R C)).length ≤ 100 := by rw [ck_length _ rfl]; show 8 + ((formL R C).length + (formL R C).length % 2) ≤ 100; omega
  have c2 : (ck (dP xs)).length ≤ 9000 := by rw [ck_length _ rfl]; show 8 + ((smpL xs xs.length).length + (smpL xs xs.length).length % 2) ≤ 9000; omega
  have c3 : (ck (oddP nm ys)).length ≤ 200 := by rw [ck_length _ rfl]; show 8 + (ys.length + ys.length % 2) ≤ 200; omega
  refine files_fileOf _ hp ?_
  unfold threeP
  split
  · simp only [List.flatMap_cons, List.flatMap_nil, List.length_append, List.length_nil]; omega
  · split <;> simp only [List.flatMap_cons, List.flatMap_nil, List.length_append, List.length_nil] <;> omega
theorem fP_part (R C : Int) : isPart (fP R C) = true := rfl
theorem dP_part (xs : List Int) : isPart (dP xs) = true := rfl
theorem three_parse (wh nm : Nat) (R C : Int) (xs ys : List Int) (hy : ys.length ≤ 100) (hm : May R C xs.length) (hx : ∀ x ∈ xs, -32768 ≤ x ∧ x ≤ 32767) : parseP (fileOf (threeP wh (fP R C) (dP xs) (oddP nm ys))) = some (R, C, xs) := by
  have hn := oddP_not nm ys
  have hf := fP_part R C
  have hd := dP_part xs
  unfold parseP
  rw [three_files wh nm R C xs ys hy hm.2.2.2.1]
  have e : (threeP wh (fP R C) (dP xs) (oddP nm ys)).filter isPart = [fP R C, dP xs] := by
    unfold threeP
    split
    · simp [List.filter_cons, hn, hf, hd]
    · split <;> simp [List.filter_cons, hn, hf, hd]
  show twoP ((threeP wh (fP R C) (dP xs) (oddP nm ys)).filter isPart) = _
  rw [e]
  show (if fmtL = fmtL ∧ dataL = dataL then songP (formL R C) (smpL xs xs.length) else none) = _
  rw [if_pos ⟨rfl, rfl⟩]
  exact song_back R C xs hm hx
theorem riff_parse (R C : Int) (xs : List Int) (hm : May R C xs.length) (hx : ∀ x ∈ xs, -32768 ≤ x ∧ x ≤ 32767) : parseP (riffL R C xs) = some (R, C, xs) := by
  have h1 : (formL R C).length = 16 := formL_length R C
  have h2 : (smpL xs xs.length).length = 2 * xs.length := smpL_length _ _
  have hx4 := hm.2.2.2.1
  rw [riff_file]
  unfold parseP
  rw [files_fileOf [(fmtL, formL R C), (dataL, smpL xs xs.length)] (by
    intro q hq
    simp only [List.mem_cons, List.not_mem_nil, or_false] at hq
    rcases hq with rfl | rfl
    · exact ⟨rfl, by show (formL R C).length < _; omega⟩
    · exact ⟨rfl, by show (smpL xs xs.length).length < _; omega⟩) (by
    have c1 : (ck (fP R C)).length ≤ 100 := by rw [ck_length _ rfl]; show 8 + ((formL R C).length + (formL R C).length % 2) ≤ 100; omega
    have c2 : (ck (dP xs)).length ≤ 9000 := by rw [ck_length _ rfl]; show 8 + ((smpL xs xs.length).length + (smpL xs xs.length).length % 2) ≤ 9000; omega
    show ([fP R C, dP xs].flatMap ck).length < _
    simp only [List.flatMap_cons, List.flatMap_nil, List.length_append, List.length_nil]; omega)]
  exact song_back R C xs hm hx
/-- four bytes put anew -/
theorem set_four (X : List Int) (z0 z1 z2 z3 a b c d : Int) : (((([82, 73, 70, 70] ++ [z0, z1, z2, z3] ++ X : List Int).set 4 a).set 5 b).set 6 c).set 7 d = [82, 73, 70, 70] ++ [a, b, c, d] ++ X := rfl
theorem four (Z : List Int) (h : Z.length = 4) : ∃ a b c d, Z = [a, b, c, d] := by
  rcases Z with _ | ⟨a, _ | ⟨b, _ | ⟨c, _ | ⟨d, _ | ⟨e, t⟩⟩⟩⟩⟩
  all_goals simp at h
  exact ⟨_, _, _, _, rfl⟩
/-- where the strange chunk goes -/
def atN (wh : Nat) (l : Nat) : Nat := if wh % 3 = 0 then 12 else if wh % 3 = 1 then 36 else l
theorem long_file (wh nm : Nat) (R C : Int) (xs ys : List Int) (hy : ys.length ≤ 100) (hx : xs.length ≤ 4096) (n : Nat)
    (hn : n + 8 = ((riffL R C xs).take (atN wh (riffL R C xs).length) ++ ck (oddP nm ys) ++ (riffL R C xs).drop (atN wh (riffL R C xs).length)).length) :
    ((((((riffL R C xs).take (atN wh (riffL R C xs).length) ++ ck (oddP nm ys) ++ (riffL R C xs).drop (atN wh (riffL R C xs).length)).set 4 ((n % 256 : Nat) : Int)).set 5 ((n / 256 % 256 : Nat) : Int)).set 6 ((n / 65536 % 256 : Nat) : Int)).set 7 0) = fileOf (threeP wh (fP R C) (dP xs) (oddP nm ys)) := by
  have h1 : (formL R C).length = 16 := formL_length R C
  have h2 : (smpL xs xs.length).length = 2 * xs.length := smpL_length _ _
  have c1 : (ck (fP R C)).length = 24 := by rw [ck_length _ rfl]; show 8 + ((formL R C).length + (formL R C).length % 2) = 24; omega
  have c2 : (ck (dP xs)).length ≤ 9000 := by rw [ck_length _ rfl]; show 8 + ((smpL xs xs.length).length + (smpL xs xs.length).length % 2) ≤ 9000; omega
  have c3 : (ck (oddP nm ys)).length ≤ 200 := by rw [ck_length _ rfl]; show 8 + (ys.length + ys.length % 2) ≤ 200; omega
  have hL : riffL R C xs = [82, 73, 70, 70] ++ le ((4 + ([fP R C, dP xs].flatMap ck).length : Nat) : Int) 4 ++ [87, 65, 86, 69] ++ (ck (fP R C) ++ ck (dP xs)) := by
    rw [riff_file]
    unfold fileOf
    show [82, 73, 70, 70] ++ le ((4 + ([fP R C, dP xs].flatMap ck).length : Nat) : Int) 4 ++ ([87, 65, 86, 69] ++ [fP R C, dP xs].flatMap ck) = _
    simp only [List.flatMap_cons, List.flatMap_nil, List.append_nil, List.append_assoc]
  obtain ⟨z0, z1, z2, z3, hz⟩ := four _ (le_length ((4 + ([fP R C, dP xs].flatMap ck).length : Nat) : Int) 4)
  rw [hz] at hL
  have hn4 : ∀ ps : List Pc, n = 4 + (ps.flatMap ck).length → le ((4 + (ps.flatMap ck).length : Nat) : Int) 4 = [((n % 256 : Nat) : Int), ((n / 256 % 256 : Nat) : Int), ((n / 65536 % 256 : Nat) : Int), 0] := fun ps h => by
    rw [← h]
    have hn2 : n < 16777216 := by
      rw [List.length_append, List.length_append, List.length_take, List.length_drop] at hn
      have : (riffL R C xs).length ≤ 9300 := by rw [hL]; simp only [List.length_append, List.length_cons, List.length_nil]; omega
      omega
    show [(n : Int) / 1 % 256, (n : Int) / 256 % 256, (n : Int) / 65536 % 256, (n : Int) / 16777216 % 256] = _
    simp only [List.cons.injEq, and_true]
    refine ⟨?_, ?_, ?_, ?_⟩ <;> omega
  have hT : ∀ ps : List Pc, fileOf ps = [82, 73, 70, 70] ++ le ((4 + (ps.flatMap ck).length : Nat) : Int) 4 ++ ([87, 65, 86, 69] ++ ps.flatMap ck) := fun ps => by unfold fileOf; simp only [List.append_assoc]
  have e12 : ∀ X : List Int, ([82, 73, 70, 70] ++ [z0, z1, z2, z3] ++ [87, 65, 86, 69] ++ X : List Int).take 12 = [82, 73, 70, 70] ++ [z0, z1, z2, z3] ++ [87, 65, 86, 69] := fun X => rfl
  have d12 : ∀ X : List Int, ([82, 73, 70, 70] ++ [z0, z1, z2, z3] ++ [87, 65, 86, 69] ++ X : List Int).drop 12 = X := fun X => rfl
  rw [hT]
  unfold atN at hn ⊢
  unfold threeP
  by_cases h0 : wh % 3 = 0
  · rw [if_pos h0] at hn
    rw [if_pos h0, if_pos h0]
    rw [hL, e12, d12] at hn ⊢
    rw [hn4 _ (by simp only [List.flatMap_cons, List.flatMap_nil, List.append_nil, List.length_append, List.length_cons, List.length_nil] at hn ⊢; omega)]
    simp only [List.flatMap_cons, List.flatMap_nil, List.append_nil]
    generalize ck (oddP nm ys) = K
    generalize ck (fP R C) ++ ck (dP xs) = X
    rfl
  · rw [if_neg h0] at hn
    rw [if_neg h0, if_neg h0]
    by_cases h1' : wh % 3 = 1
    · rw [if_pos h1'] at hn
      rw [if_pos h1', if_pos h1']
      have e36 : (riffL R C xs).take 36 = [82, 73, 70, 70] ++ [z0, z1, z2, z3] ++ [87, 65, 86, 69] ++ ck (fP R C) := by
        rw [hL]
        show _ :: _ :: _ :: _ :: _ :: _ :: _ :: _ :: _ :: _ :: _ :: _ :: ((ck (fP R C) ++ ck (dP xs)).take 24) = _
        rw [List.take_append_of_le_length (by omega), List.take_of_length_le (by omega)]
        rfl
      have d36 : (riffL R C xs).drop 36 = ck (dP xs) := by
        rw [hL]
        show (ck (fP R C) ++ ck (dP xs)).drop 24 = _
        rw [← c1]
        exact List.drop_left
      rw [e36, d36] at hn ⊢
      rw [hn4 _ (by simp only [List.flatMap_cons, List.flatMap_nil, List.append_nil, List.length_append, List.length_cons, List.length_nil] at hn ⊢; omega)]
      simp only [List.flatMap_cons, List.flatMap_nil, List.append_nil]
      generalize ck (oddP nm ys) = K
      generalize ck (fP R C) = X
      generalize ck (dP xs) = Y
      show _ = [82, 73, 70, 70] ++ _ ++ ([87, 65, 86, 69] ++ (X ++ (K ++ Y)))
      rw [← List.append_assoc X K Y]
      rfl
    · rw [if_neg h1'] at hn
      rw [if_neg h1', if_neg h1', List.take_length, List.drop_length, List.append_nil]
      rw [List.take_length, List.drop_length, List.append_nil] at hn
      rw [hL] at hn ⊢
      rw [hn4 _ (by simp only [List.flatMap_cons, List.flatMap_nil, List.append_nil, List.length_append, List.length_cons, List.length_nil] at hn ⊢; omega)]
      simp only [List.flatMap_cons, List.flatMap_nil, List.append_nil]
      generalize ck (oddP nm ys) = K
      generalize ck (fP R C) = X
      generalize ck (dP xs) = Y
      rw [← List.append_assoc X Y K]
      rfl
end Go.Proofs.Ytcjnfdhdcoobgaa.Rif
