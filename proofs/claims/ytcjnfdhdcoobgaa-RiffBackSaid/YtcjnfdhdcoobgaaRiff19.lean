/- A song comes back from its file, and chunks with other names change nothing: the plain law. -/
import Derived.Test.YtcjnfdhdcoobgaaRiff17
set_option linter.unusedVariables false
set_option linter.unusedSimpArgs false
namespace Go.Proofs.Ytcjnfdhdcoobgaa.Rif
open Go.RowKit Go.Proofs.YtcjnfdhdcoobgaaW.PrintWords Go.Proofs.YtcjnfdhdcoobgaaW.PrintLast Go.Proofs.YtcjnfdhdcoobgaaW.PrintMore Go.Proofs.Ytcjnfdhdcoobgaa.Chk

theorem leV_append : ∀ (l m : List Int), leV (l ++ m) = leV l + 256 ^ l.length * leV m
  | [], m => by simp [leV]
  | x :: t, m => by
    simp only [List.cons_append, leV, leV_append t m, List.length_cons, Nat.pow_succ]
    rw [Nat.mul_add, Nat.add_assoc, ← Nat.mul_assoc, Nat.mul_comm 256 (256 ^ t.length)]
theorem leV_le (X k : Nat) : leV (le (X : Int) k) = X % 256 ^ k := by
  induction k with
  | zero => simp [le, leV, Nat.mod_one]
  | succ k ih =>
    rw [le_succ, leV_append, ih, le_length]
    have e : ((X : Int) / 2 ^ (8 * k) % 256).toNat = X / 256 ^ k % 256 := by
      have e2 : (2 : Int) ^ (8 * k) = ((256 ^ k : Nat) : Int) := by rw [Int.pow_mul]; simp
      rw [e2]
      omega
    show X % 256 ^ k + 256 ^ k * (((X : Int) / 2 ^ (8 * k) % 256).toNat + 256 * 0) = _
    rw [e, Nat.mul_zero, Nat.add_zero, Nat.pow_succ, Nat.mod_mul]
/-- a chunk -/
def ck (p : Pc) : List Int := p.1 ++ le p.2.length 4 ++ p.2 ++ (if p.2.length % 2 = 1 then [0] else [])
theorem ck_sz (p : Pc) (r : List Int) (h4 : p.1.length = 4) (hl : p.2.length < 4294967296) : szN (ck p ++ r) = p.2.length := by
  unfold szN ck
  have e : ((p.1 ++ le p.2.length 4 ++ p.2 ++ (if p.2.length % 2 = 1 then [0] else []) ++ r).take 8).drop 4 = le p.2.length 4 := by
    simp only [List.append_assoc]
    rw [List.drop_take, List.drop_append_of_le_length (by omega), List.drop_of_length_le (by omega), List.nil_append, List.take_append_of_le_length (by rw [le_length]; omega), List.take_of_length_le (by rw [le_length]; omega)]
  rw [e, leV_le]
  exact Nat.mod_eq_of_lt hl
theorem ck_length (p : Pc) (h4 : p.1.length = 4) : (ck p).length = 8 + (p.2.length + p.2.length % 2) := by
  unfold ck
  simp only [List.length_append, le_length, h4]
  split
  · simp only [List.length_cons, List.length_nil]; omega
  · simp only [List.length_nil]; omega
theorem pcs_ck (p : Pc) (r : List Int) (h4 : p.1.length = 4) (hl : p.2.length < 4294967296) : pcs (ck p ++ r) = (pcs r).map (List.cons p) := by
  have hs := ck_sz p r h4 hl
  have hcl := ck_length p h4
  have hf : Fits (ck p ++ r) := by
    refine ⟨by rw [List.length_append]; omega, by rw [hs, List.length_append]; omega, fun h => ?_⟩
    rw [hs] at h ⊢
    unfold rd
    rw [Int.toNat_natCast, List.getD_eq_getElem?_getD, List.getElem?_append_left (by omega)]
    unfold ck
    rw [if_pos h, List.getElem?_append_right (by simp only [List.length_append, le_length, h4]; omega)]
    simp only [List.length_append, le_length, h4]
    rw [show 8 + p.2.length - (4 + 4 + p.2.length) = 0 from by omega]
    rfl
  rw [pcs_more hf, hs]
  have e1 : (ck p ++ r).drop (8 + (p.2.length + p.2.length % 2)) = r := by rw [← hcl]; exact List.drop_left
  have e2 : (ck p ++ r).take 4 = p.1 := by
    unfold ck
    simp only [List.append_assoc]
    rw [List.take_append_of_le_length (by omega), List.take_of_length_le (by omega)]
  have e3 : ((ck p ++ r).take (8 + p.2.length)).drop 8 = p.2 := by
    unfold ck
    have e : (p.1 ++ le p.2.length 4).length = 8 := by rw [List.length_append, le_length]; omega
    generalize p.1 ++ le p.2.length 4 = Z at e
    simp only [List.append_assoc]
    rw [List.drop_take, List.drop_append_of_le_length (by omega), List.drop_of_length_le (by omega), List.nil_append, Nat.add_sub_cancel_left, List.take_append_of_le_length (by omega), List.take_of_length_le (by omega)]
  rw [e1, e2, e3]
/-- a file of chunks -/
def fileOf (ps : List Pc) : List Int := [82, 73, 70, 70] ++ le ((4 + (ps.flatMap ck).length : Nat) : Int) 4 ++ ([87, 65, 86, 69] ++ ps.flatMap ck)
theorem pcs_flat : ∀ (ps : List Pc), (∀ p ∈ ps, p.1.length = 4 ∧ p.2.length < 4294967296) → pcs (ps.flatMap ck) = some ps
  | [], _ => pcs_nil
  | p :: t, h => by
    obtain ⟨h1, h2⟩ := h p (by simp)
    rw [List.flatMap_cons, pcs_ck p _ h1 h2, pcs_flat t fun q hq => h q (List.mem_cons_of_mem _ hq)]
    rfl
theorem files_fileOf (ps : List Pc) (h : ∀ p ∈ ps, p.1.length = 4 ∧ p.2.length < 4294967296) (hl : (ps.flatMap ck).length < 4000000000) : filesP (fileOf ps) = some ps := by
  have hd : (fileOf ps).drop 12 = ps.flatMap ck := by
    unfold fileOf
    have e : ([82, 73, 70, 70] ++ le ((4 + (ps.flatMap ck).length : Nat) : Int) 4 ++ [87, 65, 86, 69] : List Int).length = 12 := by simp only [List.length_append, le_length, List.length_cons, List.length_nil]
    rw [← List.append_assoc]
    generalize [82, 73, 70, 70] ++ le ((4 + (ps.flatMap ck).length : Nat) : Int) 4 ++ [87, 65, 86, 69] = Z at e
    rw [← e]
    exact List.drop_left
  have hlen : (fileOf ps).length = 12 + (ps.flatMap ck).length := by
    unfold fileOf
    simp only [List.length_append, le_length, List.length_cons, List.length_nil]
    omega
  have hle := le_length ((4 + (ps.flatMap ck).length : Nat) : Int) 4
  have hh : Head (fileOf ps) := by
    refine ⟨by omega, ?_, ?_, ?_⟩
    · unfold fileOf
      rfl
    · rw [hlen]
      unfold szN fileOf
      have e : ((([82, 73, 70, 70] ++ le ((4 + (ps.flatMap ck).length : Nat) : Int) 4 ++ ([87, 65, 86, 69] ++ ps.flatMap ck) : List Int).take 8).drop 4) = le ((4 + (ps.flatMap ck).length : Nat) : Int) 4 := by
        generalize le ((4 + (ps.flatMap ck).length : Nat) : Int) 4 = Z at hle
        show ((Z ++ ([87, 65, 86, 69] ++ ps.flatMap ck)).take 4) = Z
        rw [List.take_append_of_le_length (by omega), List.take_of_length_le (by omega)]
      rw [e, leV_le, Nat.mod_eq_of_lt (by omega)]
      omega
    · unfold fileOf
      generalize le ((4 + (ps.flatMap ck).length : Nat) : Int) 4 = Z at hle
      obtain ⟨z0, z1, z2, z3, rfl⟩ : ∃ a b c d, Z = [a, b, c, d] := by
        rcases Z with _ | ⟨a, _ | ⟨b, _ | ⟨c, _ | ⟨d, _ | ⟨e, t⟩⟩⟩⟩⟩
        all_goals simp at hle
        exact ⟨_, _, _, _, rfl⟩
      rfl
  unfold filesP
  rw [if_pos hh, hd, pcs_flat ps h]

theorem form_parts (R C : Int) : ((formL R C).take 8).drop 4 = le (sec R) 4 ∧ ((formL R C).take 4).drop 2 = le C 2 := by
  unfold formL formT
  have h1 := le_length 1 2
  have h2 := le_length C 2
  have h3 := le_length (sec R) 4
  simp only [List.append_assoc]
  generalize le 1 2 = a at h1
  generalize le C 2 = b at h2
  generalize le (sec R) 4 = c at h3
  have e : (a ++ b).length = 4 := by rw [List.length_append]; omega
  constructor
  · rw [← List.append_assoc]
    generalize a ++ b = Z at e
    rw [List.drop_take, List.drop_append_of_le_length (by omega), List.drop_of_length_le (by omega), List.nil_append, List.take_append_of_le_length (by omega), List.take_of_length_le (by omega)]
  · rw [List.drop_take, List.drop_append_of_le_length (by omega), List.drop_of_length_le (by omega), List.nil_append, List.take_append_of_le_length (by omega), List.take_of_length_le (by omega)]
theorem smp_part (xs : List Int) : ∀ (k i : Nat), i < k → ((smpL xs k).take (2 * i + 2)).drop (2 * i) = le (rd xs (i : Int)) 2
  | k + 1, i, h => by
    show ((smpL xs k ++ le (rd xs (k : Int)) 2).take (2 * i + 2)).drop (2 * i) = _
    have hl := smpL_length xs k
    have hl2 := le_length (rd xs (k : Int)) 2
    rcases Nat.lt_or_ge i k with hi | hi
    · rw [List.take_append_of_le_length (by omega)]
      exact smp_part xs k i hi
    · obtain rfl : i = k := by omega
      rw [List.take_of_length_le (by rw [List.length_append]; omega), ← hl]
      exact List.drop_left
theorem le_two (x : Int) (h : -32768 ≤ x ∧ x ≤ 32767) : i16 (leV (le x 2)) = x := by
  have e : leV (le x 2) = (x % 65536).toNat := by
    show (x / 1 % 256).toNat + 256 * ((x / 256 % 256).toNat + 256 * 0) = _
    omega
  rw [e]
  unfold i16
  split <;> omega
theorem song_back (R C : Int) (xs : List Int) (hm : May R C xs.length) (hx : ∀ x ∈ xs, -32768 ≤ x ∧ x ≤ 32767) : songP (formL R C) (smpL xs xs.length) = some (R, C, xs) := by
  obtain ⟨p1, p2⟩ := form_parts R C
  have hs := sec_in R
  have hC : C = 1 ∨ C = 2 := hm.1
  have eR : songR (formL R C) = R := by
    unfold songR
    obtain ⟨S, hS⟩ := Int.eq_ofNat_of_zero_le (show 0 ≤ sec R by omega)
    rw [p1, hS, leV_le, Nat.mod_eq_of_lt (by omega), ← hS]
    obtain ⟨k, rfl⟩ := Int.eq_ofNat_of_zero_le hm.2.1
    exact rateOf_sec k (by have := hm.2.2.1; omega)
  have eC : songC (formL R C) = C := by
    unfold songC
    rw [p2]
    rcases hC with rfl | rfl <;> rfl
  have eS : songS (smpL xs xs.length) = xs := by
    unfold songS
    rw [smpL_length, Nat.mul_div_cancel_left _ (by decide : 0 < 2)]
    have hk : ∀ k, k ≤ xs.length → smpD (smpL xs xs.length) k = xs.take k := by
      intro k
      induction k with
      | zero => intro _; rfl
      | succ k ih =>
        intro h
        have hr : rd xs (k : Int) = xs[k] := by simp [rd, List.getD_eq_getElem?_getD, List.getElem?_eq_getElem (show k < xs.length by omega)]
        rw [smpD_succ, ih (by omega), smp_part xs xs.length k (by omega), List.take_succ_eq_append_getElem (by omega), hr, le_two _ (hx _ (List.getElem_mem _))]
    rw [hk _ (Nat.le_refl _), List.take_length]
  unfold songP
  rw [eR, eC, eS, if_pos ⟨formL_length R C, by rw [smpL_length]; omega, hm, rfl⟩]
theorem rest_ck (R C : Int) (xs : List Int) : restL R C xs = [87, 65, 86, 69] ++ [(fmtL, formL R C), (dataL, smpL xs xs.length)].flatMap ck := by
  unfold restL chunkL
  simp only [List.flatMap_cons, List.flatMap_nil, List.append_nil, ck, List.append_assoc]
  rfl
theorem riff_file (R C : Int) (xs : List Int) : riffL R C xs = fileOf [(fmtL, formL R C), (dataL, smpL xs xs.length)] := by
  have h := rest_ck R C xs
  unfold riffL fileOf
  rw [h, List.length_append]
  rfl
end Go.Proofs.Ytcjnfdhdcoobgaa.Rif
