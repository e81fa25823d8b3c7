/- The walk of the package riff: form. -/
import Derived.Test.YtcjnfdhdcoobgaaRiff3
set_option linter.unusedVariables false
set_option linter.unusedSimpArgs false
namespace Go.Proofs.Ytcjnfdhdcoobgaa.Rif
open Go.RowKit Go.Proofs.YtcjnfdhdcoobgaaW.PrintWords Go.Proofs.YtcjnfdhdcoobgaaW.PrintLast Go.Proofs.YtcjnfdhdcoobgaaW.PrintMore Go.Proofs.Ytcjnfdhdcoobgaa.Chk

/-- samples a second -/
def sec (R : Int) : Int := if R = 0 then 16000 else if R = 1 then 32000 else if R = 2 then 44100 else 48000
theorem sec_in (R : Int) : 16000 ≤ sec R ∧ sec R ≤ 48000 := by unfold sec; split <;> (try split) <;> (try split) <;> omega
/-- a form's fields, the first t of them -/
def formT (R C : Int) : Nat → List Int
  | 0 => []
  | 1 => le 1 2
  | 2 => le 1 2 ++ le C 2
  | 3 => le 1 2 ++ le C 2 ++ le (sec R) 4
  | 4 => le 1 2 ++ le C 2 ++ le (sec R) 4 ++ le (sec R * (2 * C)) 4
  | 5 => le 1 2 ++ le C 2 ++ le (sec R) 4 ++ le (sec R * (2 * C)) 4 ++ le (2 * C) 2
  | _ => le 1 2 ++ le C 2 ++ le (sec R) 4 ++ le (sec R * (2 * C)) 4 ++ le (2 * C) 2 ++ le 16 2
def formL (R C : Int) : List Int := formT R C 6
theorem formT_length (R C : Int) (t : Nat) (h : t ≤ 6) : (formT R C t).length ≤ 16 := by
  have : t = 0 ∨ t = 1 ∨ t = 2 ∨ t = 3 ∨ t = 4 ∨ t = 5 ∨ t = 6 := by omega
  rcases this with rfl | rfl | rfl | rfl | rfl | rfl | rfl <;> simp [formT, le_length]
theorem formL_length (R C : Int) : (formL R C).length = 16 := by simp [formL, formT, le_length]
theorem formL_byte (R C : Int) : Bytes (formL R C) :=
  Bytes.append (Bytes.append (Bytes.append (Bytes.append (Bytes.append (le_byte _ _) (le_byte _ _)) (le_byte _ _)) (le_byte _ _)) (le_byte _ _)) (le_byte _ _)
theorem fld_at (R C : Int) (t : Nat) (h : t < 6) (hC : 1 ≤ C ∧ C ≤ 2) : ∃ (X : Int) (Wd : Nat),
    (∀ w, (Instr.index 139 (.agg #[.int .i64 1, .int .i64 2, .int .i64 C, .int .i64 2, .int .i64 (sec R), .int .i64 4, .int .i64 (sec R * (2 * C)), .int .i64 4, .int .i64 (2 * C), .int .i64 2, .int .i64 16, .int .i64 2]) (.int .i64 (t : Int))).run Try.prog w = .ok (.agg #[.int .i64 X, .int .i64 Wd]) w) ∧
    Wd ≤ 8 ∧ 0 ≤ X ∧ X ≤ 192000 ∧ Hid (formT R C (t + 1) = formT R C t ++ le X Wd) := by
  have hs := sec_in R
  have : t = 0 ∨ t = 1 ∨ t = 2 ∨ t = 3 ∨ t = 4 ∨ t = 5 := by omega
  have h3 : 0 ≤ sec R * (2 * C) ∧ sec R * (2 * C) ≤ 192000 := by
    have : C = 1 ∨ C = 2 := by omega
    rcases this with rfl | rfl <;> omega
  rcases this with rfl | rfl | rfl | rfl | rfl | rfl
  · exact ⟨1, 2, fun _ => by kernel_rfl, by omega, by omega, by omega, rfl⟩
  · exact ⟨C, 2, fun _ => by kernel_rfl, by omega, by omega, by omega, rfl⟩
  · exact ⟨sec R, 4, fun _ => by kernel_rfl, by omega, by omega, by omega, rfl⟩
  · exact ⟨sec R * (2 * C), 4, fun _ => by kernel_rfl, by omega, h3.1, h3.2, rfl⟩
  · exact ⟨2 * C, 2, fun _ => by kernel_rfl, by omega, by omega, by omega, rfl⟩
  · exact ⟨16, 2, fun _ => by kernel_rfl, by omega, by omega, by omega, rfl⟩
set_option maxHeartbeats 400000 in
theorem rates_any (w : World) : Calls Try.prog 80 #[] w fun e w' => ∃ g, e = .returned (.slice (some ⟨g, 0, none⟩) 4 4) ∧ (∀ R : Int, 0 ≤ R → R ≤ 3 → w'.cell? ⟨g, R.toNat, none⟩ = some (.int .i64 (sec R))) ∧ Below w.heap.size w w' := by
  go_enter Try.func80, Try.ntmps80
  go_wp2
  go_ret
  refine ⟨w.heap.size, rfl, fun R h0 h3 => ?_, ba (br w) _⟩
  have : R = 0 ∨ R = 1 ∨ R = 2 ∨ R = 3 := by omega
  rcases this with rfl | rfl | rfl | rfl <;> exact (blk_cell (heap_alloc_new w _) _).trans rfl

set_option maxRecDepth 100000 in
set_option maxHeartbeats 2000000 in
theorem form_any (R C : Int) (A : Option Addr) (n c : Nat) (w : World) (hR : 0 ≤ R ∧ R ≤ 3) (hC : 1 ≤ C ∧ C ≤ 2) :
    Calls Try.prog 64 #[.agg #[.int .i64 R, .int .i64 C, .slice A n c]] w (Row8 (formL R C) w) := by
  obtain ⟨hR0, hR3⟩ := hR
  obtain ⟨hC1, hC2⟩ := hC
  have hS := sec_in R
  have HFL := Lib.hid (fun t h => fld_at R C t h ⟨hC1, hC2⟩)
  obtain ⟨S, hSd⟩ : ∃ S, S = sec R := ⟨_, rfl⟩
  rw [← hSd] at hS HFL
  have HSD := Lib.hid hSd
  clear hSd
  have hR4 : R < 4 := by omega
  go_enter Try.func64, Try.ntmps64
  go_upto_region 6 with fail
  go_cut [3, 4] (fun x y W => x = .int .i64 S ∧ y = .int .i64 (2 * C) ∧ W.heap[w.heap.size]? = some (.cells #[.int .i64 R, .int .i64 C, .slice A n c] 60 (0, 0)) ∧ Below w.heap.size w W)
  case first =>
   have e2 : IntKind.i64.wrap (2 * C) = 2 * C := IntWalk.i64_in _ (by omega)
   have hx0 : (w.alloc (.cells #[.int .i64 R, .int .i64 C, .slice A n c] 60)).drew.heap[w.heap.size]? = some (.cells #[.int .i64 R, .int .i64 C, .slice A n c] 60 (0, 0)) := heap_alloc_new w _
   go_region_with
    (first
      | (go_at_call 80; refine (rates_any _).mono ?_; rintro e w2 ⟨g, rfl, hy, hb2⟩; have y := hy R hR0 hR3; rw [← HSD.out] at y; have hx2 := (hb2.block _ (blk_lt hx0)).trans hx0; have z0 := blk_cell hx2 0; have z1 := blk_cell hx2 1; have z2 := blk_cell hx2 2; have hb2' : Below w.heap.size w w2 := bt (bd (ba (br w) _)) hb2)
      | fail)
   all_goals
    go_wp2
    go_meet
    exact ⟨by rw [HSD.out], rfl, hx2, hb2'⟩
  case rest =>
   obtain ⟨rfl, rfl, hx2, hb2⟩ := hcut
   have z0 := blk_cell hx2 0
   have z1 := blk_cell hx2 1
   have z2 := blk_cell hx2 2
   have hSC : 0 ≤ S * (2 * C) ∧ S * (2 * C) ≤ 192000 := by
     have hCC : C = 1 ∨ C = 2 := by omega
     rcases hCC with h | h <;> subst h <;> omega
   have e3 : IntKind.i64.wrap (S * (2 * C)) = S * (2 * C) := IntWalk.i64_in _ (by omega)
   go_wp2
   go_loopg [5, 30] 6 (fun gk v x W => ∃ t : Nat, t ≤ 6 ∧ gk = 6 - t ∧ x = .int .i64 t ∧ W.ownsRow w.heap.size 5 1 v (formT R C t).length (nums .u8 (formT R C t)) ∧ Below w.heap.size w W)
   case atStart => exact ⟨0, by omega, by omega, rfl, World.ownsRow_nil _ _ _ _, hb2⟩
   case round =>
    obtain ⟨t, ht, rfl, rfl, hown, hb⟩ := hrel
    obtain ⟨A4, c4, rfl⟩ := own_slice hown
    by_cases hlt : t < 6
    · obtain ⟨X, Wd, hidx, hW, hX0, hX, HD⟩ := HFL.out t hlt
      have dlt : decide ((t : Int) < 6) = true := decide_eq_true (by omega)
      have hll := formT_length R C t (by omega)
      have hbx : Below w.heap.size w (wr.alloc (.cells #[.int .i64 X, .int .i64 Wd] 138)) := ba hb _
      have hownx := pw_own_below hown (ba (br wr) (.cells #[.int .i64 X, .int .i64 Wd] 138))
      have T := put_int w.heap.size _ (formT R C t) X Wd _ (by omega) (by omega) hW hbx.size hownx
      generalize formT R C t = L at hown hownx T HD hll
      go_wp2_with fail
      refine T.mono ?_
      rintro e w5 ⟨v5, rfl, hown5, hg5⟩
      go_wp2
      go_roundg (6 - (t + 1))
      case measure => omega
      case rel => exact ⟨t + 1, by omega, rfl, by go_num, by rw [HD.out]; exact hown5, hbx.trans (hg5.below hownx hbx.size)⟩
    · obtain rfl : t = 6 := by omega
      go_wp2
      go_ret
      exact ⟨_, rfl, hown, hb⟩
end Go.Proofs.Ytcjnfdhdcoobgaa.Rif
