/- The walks of pdu.number and pdu.Parse. -/
import Derived.Test.YtcjnfdhdcoobgaaPdu2
set_option linter.unusedVariables false
set_option linter.unusedSimpArgs false
namespace Go.Proofs.Ytcjnfdhdcoobgaa.Pdu
open Go.RowKit Go.Proofs.YtcjnfdhdcoobgaaW.PrintWords Go.Proofs.YtcjnfdhdcoobgaaW.PrintLast Go.Proofs.YtcjnfdhdcoobgaaW.PrintMore Go.Proofs.Ytcjnfdhdcoobgaa.Chk

/-- the number of the first k bytes, the highest first -/
def valN (l : List Int) : Nat → Nat
  | 0 => 0
  | k + 1 => 256 * valN l k + (rd l (k : Int)).toNat
theorem valN_lt {l : List Int} (hl : Bytes l) : ∀ k, valN l k < 256 ^ k
  | 0 => by simp [valN]
  | k + 1 => by have := valN_lt hl k; have := rd_byte hl (k : Int); simp only [valN, Nat.pow_succ]; omega
theorem or_byte (a b : Nat) (h : b < 256) : 256 * a ||| b = 256 * a + b := by
  have := Nat.shiftLeft_add_eq_or_of_lt (b := b) (i := 8) h a
  rw [Nat.shiftLeft_eq] at this
  rw [Nat.mul_comm, ← this]
theorem or_byte64 (V c : Nat) (hV : V < 1099511627776) (hc : c < 256) : bits .or .i64 ((V : Int) * 256) (c : Int) = ((256 * V + c : Nat) : Int) := by
  have e : (V : Int) * 256 = ((256 * V : Nat) : Int) := by omega
  have h := bits_join .i64 62 (by decide) (fun n h0 h1 => IntWalk.i64_in n (by omega)) 8 ((256 * V : Nat) : Int) (c : Int) (by omega) (by omega) (by omega) (by omega) (by omega) (by omega)
  rw [e, h]
  omega
theorem set4 {w : World} {g : Nat} {t : TypeId} {a b c d : Value} (h : w.heap[g]? = some (.cells #[a, b, c, d] t (0, 0))) (a' b' c' d' : Value) :
    ((((w.setCell ⟨g, 0, none⟩ a').setCell ⟨g, 1, none⟩ b').setCell ⟨g, 2, none⟩ c').setCell ⟨g, 3, none⟩ d').heap[g]? = some (.cells #[a', b', c', d'] t (0, 0)) :=
  (blk_set (blk_set (blk_set (blk_set h 0 a') 1 b') 2 c') 3 d').trans rfl
theorem below4 {B : Nat} {w w1 : World} {g : Nat} (h : Below B w w1) (hg : B ≤ g) (a' b' c' d' : Value) :
    Below B w ((((w1.setCell ⟨g, 0, none⟩ a').setCell ⟨g, 1, none⟩ b').setCell ⟨g, 2, none⟩ c').setCell ⟨g, 3, none⟩ d') :=
  (((h.setCell (p := ⟨g, 0, none⟩) hg _).setCell (p := ⟨g, 1, none⟩) hg _).setCell (p := ⟨g, 2, none⟩) hg _).setCell (p := ⟨g, 3, none⟩) hg _

set_option maxRecDepth 100000 in
set_option maxHeartbeats 1000000 in
theorem number_any (A : Option Addr) (n c : Nat) (l : List Int) (w : World) (hn : n ≤ 4) (hl : Bytes l) (hr : ReadsInt w .u8 A n l) :
    Calls Try.prog 61 #[.slice A n c] w fun e w' => e = .returned (.int .i64 (valN l n)) ∧ w' = w := by
  have HL := Lib.hid hl
  clear hl
  go_enter Try.func61, Try.ntmps61
  go_wp2
  go_loopg [3, 8] n (fun gk v x W => ∃ j V : Nat, j ≤ n ∧ gk = n - j ∧ x = .int .i64 j ∧ v = .int .i64 V ∧ Hid (V = valN l j) ∧ W = w)
  case atStart => exact ⟨0, 0, by omega, by omega, rfl, rfl, rfl, rfl⟩
  case round =>
    obtain ⟨j, V, hj, rfl, rfl, rfl, HV, rfl⟩ := hrel
    by_cases hlt : j < n
    · obtain ⟨ad, rfl, y⟩ := hr.at_ (j : Int) (by omega) (by omega)
      rw [Int.toNat_natCast] at y
      have hb := rd_byte HL.out (j : Int)
      obtain ⟨b, hbe⟩ := Int.eq_ofNat_of_zero_le hb.1
      have hb8 : b < 256 := by omega
      have hVl : V < 1099511627776 := by
        have h1 := valN_lt HL.out j
        rw [← HV.out] at h1
        exact Nat.lt_trans h1 (Nat.lt_of_le_of_lt (Nat.pow_le_pow_right (n := 256) (i := j) (j := 4) (by decide) (by omega)) (by decide))
      have HR : Hid (valN l (j + 1) = 256 * valN l j + b) := by show 256 * valN l j + (rd l (j : Int)).toNat = _; rw [hbe]; rfl
      have HO := Lib.hid (or_byte64 V b hVl hb8)
      rw [hbe] at y
      clear hb hbe hr
      go_wp2
      go_roundg (n - (j + 1))
      case measure => omega
      case rel => exact ⟨j + 1, 256 * V + b, by omega, rfl, by go_num, by rw [HO.out], by show 256 * V + b = _; rw [HR.out, HV.out], rfl⟩
    · obtain rfl : j = n := by omega
      go_wp2
      go_ret
      exact ⟨ret_int (by rw [HV.out]), rfl⟩

/-- what a packet's bytes are taken for, without their sum -/
def parts (b : List Int) : Int × Int × Int × List Int := (rd b 0, ((valN ((b.take 4).drop 1) 3 : Nat) : Int), ((valN ((b.take 7).drop 4) 3 : Nat) : Int), b.drop 9)
/-- are they a packet's? -/
def IsPdu (l : List Int) : Prop := fits 24 5592405 1627 l ∧ 9 ≤ l.length - 3 ∧ valN (((l.take (l.length - 3)).take 9).drop 7) 2 = l.length - 3 - 9 ∧
  May (parts (l.take (l.length - 3))).1 (parts (l.take (l.length - 3))).2.1 (parts (l.take (l.length - 3))).2.2.1 (parts (l.take (l.length - 3))).2.2.2
def zeroP : Value := .agg #[.int .i64 0, .int .i64 0, .int .i64 0, .string ⟨#[]⟩]

set_option maxRecDepth 100000 in
set_option maxHeartbeats 2000000 in
theorem parse_no (A : Option Addr) (n c : Nat) (l : List Int) (w : World) (hl : l.length ≤ 4096) (hc : l.length ≤ c) (hlu : Bytes l) (hr : ReadsInt w .u8 A n l) (h : ¬ fits 24 5592405 1627 l) :
    Calls Try.prog 26 #[.slice A n c] w fun e w' => e = .returned (.tuple #[.agg #[.int .i64 0, .int .i64 0, .int .i64 0, .string ⟨#[]⟩], .int .i64 260]) ∧ Below w.heap.size w w' := by
  have HL := Lib.hid hlu
  have H := Lib.hid h
  clear hlu h
  go_enter Try.func26, Try.ntmps26
  go_wp2_with fail
  refine (open_of Knd.k24 A n c l _ hl hc HL.out (hr.below (ba (br _) _))).mono ?_
  rintro e w1 (⟨hf, -⟩ | ⟨-, rfl, hb1⟩)
  · exact absurd hf H.out
  · have hb : Below w.heap.size w w1 := bt (ba (br w) _) hb1
    have hx1 : w1.heap[w.heap.size]? = some (.cells #[.int .i64 0, .int .i64 0, .int .i64 0, .string ⟨#[]⟩] 44 (0, 0)) := (hb1.block _ (by simp)).trans (heap_alloc_new w _)
    have z0 : w1.cell? ⟨w.heap.size, 0, none⟩ = some (.int .i64 0) := blk_cell hx1 0
    have z1 : w1.cell? ⟨w.heap.size, 1, none⟩ = some (.int .i64 0) := blk_cell hx1 1
    have z2 : w1.cell? ⟨w.heap.size, 2, none⟩ = some (.int .i64 0) := blk_cell hx1 2
    have z3 : w1.cell? ⟨w.heap.size, 3, none⟩ = some (.string ⟨#[]⟩) := blk_cell hx1 3
    have f0 := blk_frozen hx1 0
    have f1 := blk_frozen hx1 1
    have f2 := blk_frozen hx1 2
    have f3 := blk_frozen hx1 3
    go_wp2
    exact bodyPost_ret (v := .tuple #[.agg #[.int .i64 0, .int .i64 0, .int .i64 0, .string ⟨#[]⟩], .int .i64 260]) (results_ct Try.results26 _ _ w.heap.size _ _ _ _ rfl (set4 hx1 _ _ _ _) Try.underlying44 rfl (by kernel_rfl)) rfl ⟨rfl, below4 hb (Nat.le_refl _) _ _ _ _⟩
end Go.Proofs.Ytcjnfdhdcoobgaa.Pdu
