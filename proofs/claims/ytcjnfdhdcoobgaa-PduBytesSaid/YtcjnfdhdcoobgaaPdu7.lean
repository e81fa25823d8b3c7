/- The walks of the law's alive, and of the statement PduSpoils. -/
import Derived.Test.YtcjnfdhdcoobgaaPdu6
import Derived.Test.YtcjnfdhdcoobgaaPdu4
set_option linter.unusedVariables false
set_option linter.unusedSimpArgs false
namespace Go.Proofs.Ytcjnfdhdcoobgaa.Pdu
open Go.RowKit Go.Proofs.YtcjnfdhdcoobgaaW.PrintWords Go.Proofs.YtcjnfdhdcoobgaaW.PrintLast Go.Proofs.YtcjnfdhdcoobgaaW.PrintMore Go.Proofs.Ytcjnfdhdcoobgaa.Chk

set_option maxRecDepth 100000 in
set_option maxHeartbeats 2000000 in
theorem alive (w : World) : Calls Try.prog 23 #[] w fun e w' => e = .returned (.bool true) ∧ Below w.heap.size w w' := by
  have B0 := fun w => bytes_yes 2 1 2 [] w (fun x hx => by simp at hx) ⟨.inr rfl, (fun h => h.2 rfl), by decide, by decide, by decide, by decide, by decide⟩
  have N0 := fun w => parse_no none 0 0 [] w (by decide) (by decide) (fun x hx => by simp at hx) ⟨rfl, by decide, fun h => by cases h⟩ (fun h => absurd h.1 (by decide))
  have e0 : bodyL 2 1 2 [] = [2, 0, 0, 1, 0, 0, 2, 0, 0] := by decide
  have hl : (sealL (bodyL 2 1 2 [])).length = 12 := by unfold sealL; rw [List.length_append, tailL_length, e0]; rfl
  have g0 : (sealL (bodyL 2 1 2 [])).getD 0 0 = 2 := by unfold sealL; rw [e0]; rfl
  have g3 : (sealL (bodyL 2 1 2 [])).getD 3 0 = 1 := by unfold sealL; rw [e0]; rfl
  have g6 : (sealL (bodyL 2 1 2 [])).getD 6 0 = 2 := by unfold sealL; rw [e0]; rfl
  have g8 : (sealL (bodyL 2 1 2 [])).getD 8 0 = 0 := by unfold sealL; rw [e0]; rfl
  generalize sealL (bodyL 2 1 2 []) = L at B0 hl g0 g3 g6 g8
  clear e0
  go_enter Try.func23, Try.ntmps23
  go_wp2_with fail
  refine (B0 _).mono ?_
  rintro e w1 ⟨v, rfl, hown, hb1⟩
  rw [hl] at hown
  obtain ⟨A, c, e1, hr⟩ := own_reads hown
  obtain ⟨g, c', rfl, hc', hg⟩ := own_pos hown (by decide)
  simp only [Value.slice.injEq] at e1
  obtain ⟨rfl, -, rfl⟩ := e1
  go_wp2_with fail
  refine (N0 _).mono ?_
  rintro e w2 ⟨rfl, hb2⟩
  have hb : Below w.heap.size w w2 := bt hb1 hb2
  obtain ⟨ad, e2, hc⟩ := (hr.below hb2).2.2 (by decide)
  obtain rfl : ⟨g, 0, none⟩ = ad := by injection e2
  have y0 := hc 0 (by decide)
  have y3 := hc 3 (by decide)
  have y6 := hc 6 (by decide)
  have y8 := hc 8 (by decide)
  rw [g0] at y0
  rw [g3] at y3
  rw [g6] at y6
  rw [g8] at y8
  rw [add_plain] at y0 y3 y6 y8
  have hgl : g ≠ w2.heap.size := by have := own_lt hown g rfl; have := hb2.size; omega
  clear B0 N0 hl g0 g3 g6 g8 hr hc hown e2 hb1 hb2
  have k := fun (o : Nat) (x : Value) (h : w2.cell? ⟨g, o, none⟩ = some x) => pw_cell_below (ba (br w2) (.cells #[.int .i64 0, .int .i64 0, .int .i64 0, .string ⟨#[]⟩] 44)) h
  replace y0 := k _ _ y0
  replace y3 := k _ _ y3
  replace y6 := k _ _ y6
  replace y8 := k _ _ y8
  clear k
  go_wp2
  go_ret
  exact ⟨rfl, ba hb _⟩

set_option maxRecDepth 100000 in
set_option maxHeartbeats 2000000 in
theorem spoils_walk (s : ByteArray) (a : Int) (m : Nat) (hm : m < 2 ^ 32) (w : World) : Calls Try.prog 5 #[.string s, .int .i64 a, .int .u32 m] w fun e w' => e = .returned (.bool true) ∧ Below w.heap.size w w' := by
  have kb := fun W : World => print_bytes (P := Try.prog) 9 37 5 Try.underlying9 Try.underlying37 Try.underlying5 s W
  have hB : Bytes (bytesOf s) := bytesOf_byte s
  have hlen := bytesOf_length s
  have hst := str_bytesOf s
  go_enter Try.func5, Try.ntmps5
  go_wp2_with fail
  refine (alive _).mono ?_
  rintro e w1 ⟨rfl, hb1⟩
  by_cases hl : s.size ≤ 2000
  · have hrow : BRow (Lib.bytesWorld w1 5 s) w1.heap.size (bytesOf s) := BRow.of w1 s
    have hbl : Below w.heap.size w (Lib.bytesWorld w1 5 s) := bt hb1 (bytes_below (br w1) (Nat.le_refl _) 5 s)
    have hr := hrow.reads (by omega)
    rw [hlen] at hr
    have TR := fun W => rspoil_any (bytesOf s) a m W (by omega) hB hm
    rw [hst] at TR
    have TS := fun (c : Nat) W (h : ReadsInt W .u8 (some ⟨w1.heap.size, 0, none⟩) s.size (bytesOf s)) => spoil_any _ s.size c (bytesOf s) a m W (by omega) hB hm h
    replace kb := kb w1
    generalize Lib.bytesWorld w1 5 s = wx at hrow hbl hr kb
    go_wp2_with fail
    refine (TS _ _ hr).mono ?_
    rintro e w2 ⟨v, rfl, hown, hb2⟩
    have hr2 := hr.below hb2
    obtain ⟨A, c, rfl, hro⟩ := own_reads hown
    have hb : Below w.heap.size w w2 := bt hbl hb2
    have HC1 : Hid (∀ W, Below w2.heap.size w2 W → (convert 37 9 (.slice A (spoil (bytesOf s) a m).length c)).run Try.prog W = .ok (.string (strOfNums (spoil (bytesOf s) a m))) W) := fun W h =>
      string_of_reads (P := Try.prog) (dst := 9) Try.underlying37 Try.underlying5 Try.underlying9 (hro.below h)
    have HC2 : Hid (∀ c W, Below w2.heap.size w2 W → (convert 37 9 (.slice (some ⟨w1.heap.size, 0, none⟩) s.size c)).run Try.prog W = .ok (.string s) W) := fun c W h => by
      rw [← hst]
      exact string_of_reads (P := Try.prog) (dst := 9) Try.underlying37 Try.underlying5 Try.underlying9 (by rw [hst]; exact hr2.below h)
    clear TS hro hr2 hr hown hrow
    generalize (spoil (bytesOf s) a m).length = ln at HC1
    generalize strOfNums (spoil (bytesOf s) a m) = S at HC1 TR
    go_upto_region 8 with fail
    generalize grownCap w1 s.size 0 5 = c5
    have HC3 := Lib.hid (HC2.out c5)
    clear HC2 kb
    have HT := Lib.hid TR
    clear TR
    go_region_held3 (fun w' => (convert 37 9 (.slice A ln c)).run Try.prog w' = .ok (.string S) w' ∧ (convert 37 9 (.slice (some ⟨w1.heap.size, 0, none⟩) s.size c5)).run Try.prog w' = .ok (.string s) w')
      (first | exact ⟨HC1.out _ (below_drew (br _)), HC3.out _ (below_drew (br _))⟩ | exact ⟨HC1.out _ hb3', HC3.out _ hb3'⟩)
      (first
        | (go_at_call 29; refine (HT.out _).mono ?_; rintro e w3 ⟨rfl, hb3⟩; have hb3' : Below w2.heap.size w2 w3 := (by exact ⟨hb3.os, hb3.tape, hb3.output, hb3.size, hb3.block⟩))
        | fail)
    all_goals
      go_wp2
      go_ret
      exact ⟨rfl, bt hb hb3'⟩
  · go_wp2
    go_ret
    exact ⟨rfl, hb1⟩
theorem spoils_of (s : ByteArray) (a m : Int) (hm : (Lit.int .u32 m).wf = true) (w : World) : Calls Try.prog 5 #[.string s, .int .i64 a, .int .u32 m] w fun e w' => e = .returned (.bool true) ∧ Below w.heap.size w w' := by
  have h : 0 ≤ m ∧ m ≤ 4294967295 := by simpa [Lit.wf, IntKind.min, IntKind.max, IntKind.signed, IntKind.bits] using hm
  obtain ⟨m, rfl⟩ := Int.eq_ofNat_of_zero_le h.1
  exact spoils_walk s a m (by omega) w
end Go.Proofs.Ytcjnfdhdcoobgaa.Pdu
