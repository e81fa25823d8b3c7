/- The walk of the document's riff: Bytes. -/
import Derived.Test.YtcjnfdhdcoobgaaRiff6
set_option linter.unusedVariables false
set_option linter.unusedSimpArgs false
namespace Go.Proofs.Ytcjnfdhdcoobgaa.Rif
open Go.RowKit Go.Proofs.YtcjnfdhdcoobgaaW.PrintWords Go.Proofs.YtcjnfdhdcoobgaaW.PrintLast Go.Proofs.YtcjnfdhdcoobgaaW.PrintMore Go.Proofs.Ytcjnfdhdcoobgaa.Chk

theorem make_cap (m : Nat) (hm : m ≤ 100000) (W : World) : (Instr.makeSlice 37 (.int .i64 0) (.int .i64 (2 * (m : Int)))).run Try.prog W = .ok (.slice (some ⟨W.heap.size, 0, none⟩) 0 (2 * m)) (W.alloc (.cells (madeCells #[.int .u8 0] (2 * m)) 5)) := by
  obtain ⟨i0, hi, hzz⟩ := Option.map_eq_some_iff.1 info8
  simp only [Prod.mk.injEq] at hzz
  obtain ⟨hz0, hz1, hz2⟩ := hzz
  have h := run_make (P := Try.prog) W 37 5 i0 (.int .u8 0) Try.underlying37 hi hz0 .i64 .i64 0 (2 * (m : Int)) (by omega) (by omega) (by rw [hz2]; omega) (by omega)
  rw [hz1, show (2 * (m : Int)).toNat = 2 * m from by omega, Nat.mul_one] at h
  exact h
theorem two_neg (x : Int) (h : -32768 ≤ x) (h0 : x < 0) : le x 2 = [(x + 65536) % 256, (x + 65536) / 256] := by
  show [x / 1 % 256, x / 256 % 256] = _
  simp only [List.cons.injEq, and_true]
  constructor <;> omega
theorem two_pos (x : Int) (h : x ≤ 32767) (h0 : 0 ≤ x) : le x 2 = [x % 256, x / 256] := by
  show [x / 1 % 256, x / 256 % 256] = _
  simp only [List.cons.injEq, and_true]
  constructor <;> omega
theorem lit2 (W : World) (a b : Int) : ReadsInt (W.alloc (.cells #[.int .u8 a, .int .u8 b] 5)) .u8 (some ⟨W.heap.size, 0, none⟩) 2 [a, b] := by
  have h := own_lit W 0 5 .u8 [a, b] (Nat.zero_le _) (by simp)
  exact own_reads' h
/-- what a round holds -/
def BoxR (w : World) (B : Nat) (R C : Int) (V S : Value) (xs : List Int) (W : World) : Prop :=
  W.heap[B]? = some (.cells #[.int .i64 R, .int .i64 C, V] 58 (0, 0)) ∧ W.ownsRow w.heap.size 5 1 S xs.length (nums .u8 xs) ∧ Below w.heap.size w W
theorem BoxR.keep {w W W2 : World} {B : Nat} {R C : Int} {V S : Value} {xs : List Int} (h : BoxR w B R C V S xs W) (hb : Below W.heap.size W W2) : BoxR w B R C V S xs W2 :=
  ⟨(hb.block _ (blk_lt h.1)).trans h.1, pw_own_below h.2.1 hb, bt h.2.2 hb⟩
/-- what the region of the long text reads -/
def BoxS (w : World) (B : Nat) (R C : Int) (V S : Value) (xs : List Int) (W : World) : Prop := BoxR w B R C V S xs W
theorem BoxS.facts {w W : World} {B : Nat} {R C : Int} {V S : Value} {xs : List Int} (h : BoxS w B R C V S xs W) :
    W.cell? ⟨B, 1, none⟩ = some (.int .i64 C) ∧ (convert 37 9 S).run Try.prog W = .ok (.string (strOfNums xs)) W ∧ BoxS w B R C V S xs W :=
  ⟨blk_cell h.1 1, conv_own h.2.1, h⟩
theorem BoxS.next {w W W2 : World} {B : Nat} {R C : Int} {V S : Value} {xs : List Int} (h : W.cell? ⟨B, 1, none⟩ = some (.int .i64 C) ∧ (convert 37 9 S).run Try.prog W = .ok (.string (strOfNums xs)) W ∧ BoxS w B R C V S xs W) (hb : Below W.heap.size W W2) :
    W2.cell? ⟨B, 1, none⟩ = some (.int .i64 C) ∧ (convert 37 9 S).run Try.prog W2 = .ok (.string (strOfNums xs)) W2 ∧ BoxS w B R C V S xs W2 :=
  BoxS.facts (BoxR.keep h.2.2 hb)
theorem BoxS.below {w W : World} {B : Nat} {R C : Int} {V S : Value} {xs : List Int} {p q : Prop} (h : p ∧ q ∧ BoxS w B R C V S xs W) : Below w.heap.size w W := h.2.2.2.2
theorem rlow2 (X : Int) (hX : 0 ≤ X ∧ X < 4294967296) (w : World) : Calls Try.prog 67 #[.int .i64 X, .int .i64 2] w fun e w' => e = .returned (.string (strOfNums (le X 2))) ∧ Below w.heap.size w w' := rlow_any X 2 hX (by decide) w
theorem rlow4 (X : Int) (hX : 0 ≤ X ∧ X < 4294967296) (w : World) : Calls Try.prog 67 #[.int .i64 X, .int .i64 4] w fun e w' => e = .returned (.string (strOfNums (le X 4))) ∧ Below w.heap.size w w' := rlow_any X 4 hX (by decide) w
theorem low_size (X : Int) (k : Nat) : (strOfNums (le X k)).size = k := by rw [strOfNums_size, le_length]

theorem rest_text (R C : Int) (xs : List Int) : (⟨#[87, 65, 86, 69, 102, 109, 116, 32]⟩ ++ strOfNums (le 16 4) ++ strOfNums (le 1 2) ++ strOfNums (le C 2) ++ strOfNums (le (sec R) 4) ++ strOfNums (le (sec R * 2 * C) 4) ++ strOfNums (le (2 * C) 2) ++ strOfNums (le 16 2) ++ ⟨#[100, 97, 116, 97]⟩ ++ strOfNums (le ((smpL xs xs.length).length : Int) 4) ++ strOfNums (smpL xs xs.length) : ByteArray) = strOfNums (restL R C xs) := by
  rw [show (⟨#[87, 65, 86, 69, 102, 109, 116, 32]⟩ : ByteArray) = strOfNums [87, 65, 86, 69, 102, 109, 116, 32] from rfl, show (⟨#[100, 97, 116, 97]⟩ : ByteArray) = strOfNums [100, 97, 116, 97] from rfl]
  simp only [str_append]
  congr 1
  unfold restL chunkL
  rw [formL_length, if_neg (by omega), if_neg (by rw [smpL_length]; omega), show sec R * 2 * C = sec R * (2 * C) from Int.mul_assoc _ _ _]
  simp only [formL, formT, List.append_nil, List.append_assoc, List.cons_append, List.nil_append]
  rfl
theorem riff_text (R C : Int) (xs : List Int) : (⟨#[82, 73, 70, 70]⟩ ++ strOfNums (le ((restL R C xs).length : Int) 4) ++ strOfNums (restL R C xs) : ByteArray) = strOfNums (riffL R C xs) := by
  rw [show (⟨#[82, 73, 70, 70]⟩ : ByteArray) = strOfNums [82, 73, 70, 70] from rfl]
  simp only [str_append]
  rfl
set_option maxRecDepth 100000 in
set_option maxHeartbeats 2000000 in
theorem rbytes_any (R C : Int) (A : Option Addr) (n c : Nat) (xs : List Int) (w : World) (h : May R C n) (hr : ReadsInt w .i16 A n xs) (hx : ∀ x ∈ xs, -32768 ≤ x ∧ x ≤ 32767) :
    Calls Try.prog 34 #[.agg #[.int .i64 R, .int .i64 C, .slice A n c]] w fun e w' => e = .returned (.string (strOfNums (riffL R C xs))) ∧ Below w.heap.size w w' := by
  obtain rfl := hr.1
  obtain ⟨h1, h2, h3, h4, h5⟩ := h
  have h1 : 1 ≤ C ∧ C ≤ 2 := by omega
  have hS := sec_in R
  have hRX : Hid (∀ i : Nat, -32768 ≤ rd xs (i : Int) ∧ rd xs (i : Int) ≤ 32767) := fun i => by
    unfold rd
    rw [Int.toNat_natCast, List.getD_eq_getElem?_getD]
    rcases Nat.lt_or_ge i xs.length with hi | hi
    · rw [List.getElem?_eq_getElem hi]; exact hx _ (List.getElem_mem hi)
    · rw [List.getElem?_eq_none hi]; decide
  have hmk := make_cap xs.length (by omega)
  clear hx h5
  go_enter Try.func34, Try.ntmps34
  have hx0 := heap_alloc_new w (.cells #[.int .i64 R, .int .i64 C, .slice A xs.length c] 58)
  go_wp2_with (go_at_call 66; refine (rsecond_any R _).mono ?_; rintro e w1 ⟨rfl, rfl⟩)
  go_loopg [4, 5, 6] xs.length (fun gk v x y W => ∃ i : Nat, i ≤ xs.length ∧ gk = xs.length - i ∧ x = .int .i64 i ∧ BoxR w w.heap.size R C (.slice A xs.length c) v (smpL xs i) W)
  case atStart =>
    refine ⟨0, by omega, by omega, rfl, blk_alloc hx0 _, ?_, ba (ba (br w) _) _⟩
    have h := own_take (own_made (w.alloc (.cells #[.int .i64 R, .int .i64 C, .slice A xs.length c] 58)) w.heap.size 5 .u8 (2 * xs.length) (by simp) (by omega)) (Nat.zero_le _)
    simpa [smpL, nums] using h
  case round =>
    obtain ⟨i, hi, rfl, rfl, hxr, hown, hb⟩ := hrel
    have z0 := blk_cell hxr 0
    have z1 := blk_cell hxr 1
    have z2 := blk_cell hxr 2
    have hri := hr.below hb
    obtain ⟨A5, c5, rfl⟩ := own_slice hown
    by_cases hlt : i < xs.length
    · obtain ⟨ad, rfl, y⟩ := hri.at_ (i : Int) (by omega) (by omega)
      rw [Int.toNat_natCast] at y
      have hxi := hRX.out i
      have hll : (smpL xs i).length ≤ 8192 := by rw [smpL_length]; omega
      have HS : Hid (smpL xs (i + 1) = smpL xs i ++ le (rd xs (i : Int)) 2) := rfl
      generalize smpL xs i = L at hown HS hll
      generalize rd xs (i : Int) = X at y HS hxi
      have hsz := hb.size
      have HNE := Lib.hid (own_ne hown hxr (by decide))
      by_cases hneg : X < 0
      · have HT := Lib.hid (two_neg X hxi.1 hneg)
        go_wp2_with (at_builtin; go_loud (refine print_append_row w.heap.size rfl (.tmp 33) (.tmp 40) 37 5 .u8 1 rfl Try.underlying37 info8 (by decide) _ L [(X + 65536) % 256, (X + 65536) / 256] (some ⟨wr.heap.size, 0, none⟩) 2 2 rfl rfl (pw_own_below hown (ba (br wr) _)) (lit2 wr _ _) (ba hb _) (by simp; omega) (by omega) ?_); intro v6 w6 hown6 hb6 hg6 hat6)
        have hx6 := (hg6.block _ (blk_lt (blk_alloc hxr _)) (fun e => HNE.out e)).trans (blk_alloc hxr _)
        go_roundg (xs.length - (i + 1))
        case measure => omega
        case rel => exact ⟨i + 1, by omega, rfl, by go_num, hx6, by rw [HS.out, HT.out]; exact hown6, hb6⟩
      · have hpos : 0 ≤ X := by omega
        have HT := Lib.hid (two_pos X hxi.2 hpos)
        go_wp2_with (at_builtin; go_loud (refine print_append_row w.heap.size rfl (.tmp 33) (.tmp 40) 37 5 .u8 1 rfl Try.underlying37 info8 (by decide) _ L [X % 256, X / 256] (some ⟨wr.heap.size, 0, none⟩) 2 2 rfl rfl (pw_own_below hown (ba (br wr) _)) (lit2 wr _ _) (ba hb _) (by simp; omega) (by omega) ?_); intro v6 w6 hown6 hb6 hg6 hat6)
        have hx6 := (hg6.block _ (blk_lt (blk_alloc hxr _)) (fun e => HNE.out e)).trans (blk_alloc hxr _)
        go_roundg (xs.length - (i + 1))
        case measure => omega
        case rel => exact ⟨i + 1, by omega, rfl, by go_num, hx6, by rw [HS.out, HT.out]; exact hown6, hb6⟩
    · obtain rfl : i = xs.length := by omega
      go_upto_region 10 with fail
      have hF := BoxS.facts (w := w) (W := wr.drew) ⟨hxr, hown, bd hb⟩
      have hll : (smpL xs xs.length).length ≤ 8192 := by rw [smpL_length]; omega
      have hls := strOfNums_size (smpL xs xs.length)
      have hsl := smpL_length xs xs.length
      generalize hX : smpL xs xs.length = X at hF hll hls hsl ⊢
      have hq : (strOfNums X).size ≤ 8192 := by omega
      have HX := Lib.hid hX
      generalize hD : strOfNums X = D at hF hls hq
      have HD := Lib.hid hD
      have HN := Lib.hid hsl
      have hsz := low_size
      clear hX hD hls hsl hri z0 z1 z2 hown hxr hb
      have hSC : 0 ≤ sec R * 2 * C ∧ sec R * 2 * C < 4294967296 := by
        have hCC : C = 1 ∨ C = 2 := by omega
        rcases hCC with h | h <;> subst h <;> omega
      have e1 : IntKind.i64.wrap (sec R * 2) = sec R * 2 := IntWalk.i64_in _ (by omega)
      have e2 : IntKind.i64.wrap (sec R * 2 * C) = sec R * 2 * C := IntWalk.i64_in _ (by omega)
      have e3 : IntKind.i64.wrap (2 * C) = 2 * C := IntWalk.i64_in _ (by omega)
      have hq2 : ¬ 9223372036854775807 < 36 + D.size := by omega
      go_region_held3 (fun w' => w'.cell? ⟨w.heap.size, 1, none⟩ = some (.int .i64 C) ∧ (convert 37 9 (.slice A5 X.length c5)).run Try.prog w' = .ok (.string D) w' ∧ BoxS w w.heap.size R C (.slice A xs.length c) (.slice A5 X.length c5) X w')
        (first | assumption | exact hF | (rw [← HD.out] at *; exact BoxS.next (by assumption) (by assumption)))
        (first
          | (go_at_call 67; (with_reducible refine (rlow2 _ (by omega) _).mono ?_); rintro e w2 ⟨rfl, hb2⟩)
          | (go_at_call 67; (with_reducible refine (rlow4 _ (by omega) _).mono ?_); rintro e w2 ⟨rfl, hb2⟩)
          | fail)
      have HE := rest_text R C xs
      rw [HX.out, HD.out] at HE
      rw [HE]
      have hrl := strOfNums_size (restL R C xs)
      have HF := riff_text R C xs
      have hrl2 : (restL R C xs).length ≤ 9000 := by rw [rest_length]; omega
      rw [← hrl] at HF hrl2
      generalize strOfNums (restL R C xs) = T at HF hrl2 ⊢
      have HF' := Lib.hid HF
      have hb2 := BoxS.below (by assumption)
      clear HE HF hrl hF
      have hq3 : ¬ 9223372036854775807 < 8 + T.size := by omega
      go_wp2_with (go_at_call 67; (with_reducible refine (rlow4 _ (by omega) _).mono ?_); rintro e w3 ⟨rfl, hb3⟩)
      go_ret
      exact ⟨by rw [HF'.out]; rfl, bt hb2 hb3⟩
end Go.Proofs.Ytcjnfdhdcoobgaa.Rif
