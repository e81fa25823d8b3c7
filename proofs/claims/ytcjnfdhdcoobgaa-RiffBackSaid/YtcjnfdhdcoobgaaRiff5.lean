/- The walk of the package riff: Bytes. -/
import Derived.Test.YtcjnfdhdcoobgaaRiff4b
set_option linter.unusedVariables false
set_option linter.unusedSimpArgs false
namespace Go.Proofs.Ytcjnfdhdcoobgaa.Rif
open Go.RowKit Go.Proofs.YtcjnfdhdcoobgaaW.PrintWords Go.Proofs.YtcjnfdhdcoobgaaW.PrintLast Go.Proofs.YtcjnfdhdcoobgaaW.PrintMore Go.Proofs.Ytcjnfdhdcoobgaa.Chk

/-- the samples' bytes, of the first i of them -/
def smpL (xs : List Int) : Nat → List Int
  | 0 => []
  | i + 1 => smpL xs i ++ le (rd xs (i : Int)) 2
theorem smpL_length (xs : List Int) : ∀ i, (smpL xs i).length = 2 * i
  | 0 => rfl
  | i + 1 => by simp only [smpL, List.length_append, le_length, smpL_length xs i]; omega
theorem smpL_byte (xs : List Int) : ∀ i, Bytes (smpL xs i)
  | 0 => fun x hx => by simp [smpL] at hx
  | i + 1 => Bytes.append (smpL_byte xs i) (le_byte _ _)
/-- behind the head -/
def restL (R C : Int) (xs : List Int) : List Int := chunkL (chunkL [87, 65, 86, 69] [102, 109, 116, 32] (formL R C)) [100, 97, 116, 97] (smpL xs xs.length)
def riffL (R C : Int) (xs : List Int) : List Int := [82, 73, 70, 70] ++ le (restL R C xs).length 4 ++ restL R C xs
theorem rest_length (R C : Int) (xs : List Int) : (restL R C xs).length = 36 + 2 * xs.length := by
  unfold restL chunkL
  rw [smpL_length, formL_length, if_neg (by omega), if_neg (by omega)]
  simp only [List.length_append, le_length, formL_length, smpL_length, List.length_cons, List.length_nil]
  omega

set_option maxRecDepth 100000 in
set_option maxHeartbeats 400000 in
theorem bytes_no (R C : Int) (A : Option Addr) (n c : Nat) (w : World) (hn : n ≤ 9223372036854775807) (h : ¬ May R C n) :
    Calls Try.prog 31 #[.agg #[.int .i64 R, .int .i64 C, .slice A n c]] w fun e w' => e = .returned (.tuple #[.slice none 0 0, .int .i64 1]) ∧ Below w.heap.size w w' := by
  have T := fun w => check_any R C A n c w hn
  rw [decide_eq_false h] at T
  simp only [Bool.false_eq_true, if_false] at T
  clear h
  go_enter Try.func31, Try.ntmps31
  go_wp2_with fail
  refine (T _).mono ?_
  rintro e w1 ⟨rfl, hb1⟩
  go_wp2
  go_ret2
  exact ⟨rfl, bt (ba (br w) _) hb1⟩

theorem own_mono {w : World} {base base' : Nat} {e : TypeId} {size : Nat} {v : Value} {n : Nat} {xs : List Value} (h : w.ownsRow base e size v n xs) (hb : base' ≤ base) : w.ownsRow base' e size v n xs := by
  refine ⟨h.1, ?_⟩
  rcases h.2 with h1 | ⟨g, cap, cur, h1, h2, h3⟩
  · exact .inl h1
  · exact .inr ⟨g, cap, cur, h1, Nat.le_trans hb h2, h3⟩
theorem full_lit (W : World) (xs : List Int) (hl : xs.length ≤ 9223372036854775807) (fz : Nat × Nat) : Full (W.alloc (.cells (nums .u8 xs).toArray 5 fz)) W.heap.size xs := by
  refine ⟨⟨rfl, hl, fun h => ⟨_, rfl, fun j hj => ?_⟩⟩, by simp⟩
  have hh : (W.alloc (.cells (nums .u8 xs).toArray 5 fz)).heap[W.heap.size]? = some (.cells (nums .u8 xs).toArray 5 fz) := heap_alloc_new W _
  have hadd : (⟨W.heap.size, 0, none⟩ : Addr).add j = ⟨W.heap.size, j, none⟩ := by unfold Addr.add; split <;> simp_all
  rw [hadd, cell_of_row _ W.heap.size j _ _ fz hh]
  simp [nums, List.getElem?_eq_getElem hj]
set_option maxRecDepth 100000 in
set_option maxHeartbeats 2000000 in
theorem bytes_yes (R C : Int) (A : Option Addr) (n c : Nat) (xs : List Int) (w : World) (h : May R C n) (hr : ReadsInt w .i16 A n xs) (hx : ∀ x ∈ xs, -32768 ≤ x ∧ x ≤ 32767) :
    Calls Try.prog 31 #[.agg #[.int .i64 R, .int .i64 C, .slice A n c]] w (Row8E (riffL R C xs) 0 w) := by
  obtain rfl := hr.1
  have T := fun w => check_any R C A xs.length c w (by have := h.2.2.2.1; omega)
  rw [decide_eq_true h] at T
  simp only [if_true] at T
  obtain ⟨h1, h2, h3, h4, h5⟩ := h
  have h2 : 0 ≤ R ∧ R ≤ 3 := ⟨h2, h3⟩
  have h1 : 1 ≤ C ∧ C ≤ 2 := by omega
  have hRX : Hid (∀ i : Nat, -32768 ≤ rd xs (i : Int) ∧ rd xs (i : Int) ≤ 32767) := fun i => by
    unfold rd
    rw [Int.toNat_natCast, List.getD_eq_getElem?_getD]
    rcases Nat.lt_or_ge i xs.length with hi | hi
    · rw [List.getElem?_eq_getElem hi]; exact hx _ (List.getElem_mem hi)
    · rw [List.getElem?_eq_none hi]; decide
  clear hx
  go_enter Try.func31, Try.ntmps31
  go_wp2_with fail
  refine (T _).mono ?_
  rintro e w1 ⟨rfl, hb1⟩
  have hx1 : w1.heap[w.heap.size]? = some (.cells #[.int .i64 R, .int .i64 C, .slice A xs.length c] 60 (0, 0)) := (hb1.block _ (by simp)).trans (heap_alloc_new w _)
  have hb1' : Below w.heap.size w w1 := bt (ba (br w) _) hb1
  have z2 := blk_cell hx1 2
  clear T hb1
  go_wp2
  go_loopg [5, 17] xs.length (fun gk v x W => ∃ i : Nat, i ≤ xs.length ∧ gk = xs.length - i ∧ x = .int .i64 i ∧ W.ownsRow w1.heap.size 5 1 v (smpL xs i).length (nums .u8 (smpL xs i)) ∧ Below w1.heap.size w1 W)
  case atStart => exact ⟨0, by omega, by omega, rfl, World.ownsRow_nil _ _ _ _, br _⟩
  case round =>
    obtain ⟨i, hi, rfl, rfl, hown, hb⟩ := hrel
    have hbw := bt hb1' hb
    have hri := hr.below hbw
    obtain ⟨A5, c5, rfl⟩ := own_slice hown
    by_cases hlt : i < xs.length
    · obtain ⟨ad, rfl, y⟩ := hri.at_ (i : Int) (by omega) (by omega)
      rw [Int.toNat_natCast] at y
      have hxi := hRX.out i
      have hll : (smpL xs i).length ≤ 8192 := by rw [smpL_length]; omega
      have T := put_i16 w1.heap.size _ (smpL xs i) (rd xs (i : Int)) 2 wr hxi (by omega) (by decide) hb.size hown
      have HS : Hid (smpL xs (i + 1) = smpL xs i ++ le (rd xs (i : Int)) 2) := rfl
      generalize smpL xs i = L at hown T HS hll
      generalize rd xs (i : Int) = X at y T HS hxi
      go_wp2_with fail
      refine T.mono ?_
      rintro e w5 ⟨v5, rfl, hown5, hg5⟩
      go_wp2
      go_roundg (xs.length - (i + 1))
      case measure => omega
      case rel => exact ⟨i + 1, by omega, rfl, by go_num, by rw [HS.out]; exact hown5, hb.trans (hg5.below hown hb.size)⟩
    · obtain rfl : i = xs.length := by omega
      have hx2 := (hb.block _ (blk_lt hx1)).trans hx1
      have q0 := blk_cell hx2 0
      have q1 := blk_cell hx2 1
      have q2 := blk_cell hx2 2
      have kc := fun (w : World) (C : Array Value) (n c : Nat) => Lib.run_convert_bytes_const (P := Try.prog) w 37 5 C n c Try.underlying37 Try.underlying5
      obtain ⟨wa, hwa⟩ : ∃ wa : World, wa = wr.alloc (.cells #[.int .u8 87, .int .u8 65, .int .u8 86, .int .u8 69] 5 (4, 5)) := ⟨_, rfl⟩
      have hba : Below wr.heap.size wr wa := by rw [hwa]; exact ba (br _) _
      have hL : Full wa wr.heap.size [87, 65, 86, 69] := by rw [hwa]; exact full_lit wr [87, 65, 86, 69] (by decide) (4, 5)
      have hxa := (hba.block _ (blk_lt hx2)).trans hx2
      have q0 := blk_cell hxa 0
      have q1 := blk_cell hxa 1
      have q2 := blk_cell hxa 2
      obtain ⟨A6, c6, e6, hr6⟩ := own_reads hown
      simp only [Value.slice.injEq] at e6
      obtain ⟨rfl, -, rfl⟩ := e6
      have hf6 : Far wa (.slice (some ⟨wr.heap.size, 0, none⟩) 4 4) A5 := fun ad e => by
        have h1 : Value.ownBlock (.slice A5 (smpL xs xs.length).length c5) = some ad.block := by rw [e]; rfl
        have h2 := own_lt hown ad.block h1
        have h3 := hba.size
        exact ⟨by omega, fun e2 => by have e3 : ad.block = wr.heap.size := Option.some.inj e2; omega⟩
      have hHF := Lib.hid hf6
      clear hf6
      have hll : (smpL xs xs.length).length ≤ 8192 := by rw [smpL_length]; omega
      have hra := hr6.below hba
      rw [hwa] at q0 q1 q2
      have HWA := Lib.hid hwa
      clear hwa hx2 hr6 z2 hri
      go_wp2_with fail
      rw [← HWA.out]
      refine (form_any R C A xs.length c wa h2 h1).mono ?_
      rintro e wf ⟨vf, rfl, hownf, hbf⟩
      have hba' : Below w.heap.size w wa := bt hbw hba
      have hsz : wr.heap.size < wa.heap.size := hL.2
      obtain ⟨S, hS⟩ : ∃ S, S = smpL xs xs.length := ⟨_, rfl⟩
      have hra : ReadsInt wa .u8 A5 (smpL xs xs.length).length S := by rw [hS]; exact hra
      have hSl : S.length = 2 * xs.length := by rw [hS, smpL_length]
      have hll : S.length ≤ 8192 := by omega
      have HS := Lib.hid hS
      have hLf := hL.kept hbf
      have hrf := hra.below hbf
      have hff : Far wf (.slice (some ⟨wr.heap.size, 0, none⟩) 4 4) A5 := fun ad e => ⟨Nat.lt_of_lt_of_le (hHF.out ad e).1 hbf.size, (hHF.out ad e).2⟩
      have hbF : Below w.heap.size w wf := bt hba' hbf
      obtain ⟨Af, cf, rfl, hrF⟩ := own_reads hownf
      have hfl := formL_length R C
      have hfF : Far wf (.slice (some ⟨wr.heap.size, 0, none⟩) 4 4) Af := fun ad e => by
        have h1 : Value.ownBlock (.slice Af (formL R C).length cf) = some ad.block := by rw [e]; rfl
        have h2 := own_lt hownf ad.block h1
        have h3 := own_base hownf ad.block h1
        exact ⟨by omega, fun e2 => by have e3 : ad.block = wr.heap.size := Option.some.inj e2; omega⟩
      have HFF := Lib.hid hff
      rw [hfl] at hrF
      have T2 := chunk_full wr.heap.size [87, 65, 86, 69] ⟨#[102, 109, 116, 32]⟩ Af 16 cf (formL R C) wf (by decide) rfl (by omega) hLf hrF hfF
      have hchl : (chunkL [87, 65, 86, 69] (bytesOf ⟨#[102, 109, 116, 32]⟩) (formL R C)).length = 28 := by
        unfold chunkL
        rw [hfl, if_neg (by omega)]
        simp only [List.length_append, le_length, hfl, bytesOf_length, List.length_cons, List.length_nil]
        rfl
      obtain ⟨CH, hCH⟩ : ∃ CH, CH = chunkL [87, 65, 86, 69] (bytesOf ⟨#[102, 109, 116, 32]⟩) (formL R C) := ⟨_, rfl⟩
      rw [← hCH] at T2 hchl
      have HCH := Lib.hid hCH
      have hSl2 : (2 * xs.length : Nat) ≤ 8192 := by omega
      rw [hfl] at *
      clear hCH hS hff hfl hown hownf hHF hfF hrF hL hra
      go_wp2_with fail
      refine T2.mono ?_
      rintro e w3 ⟨v3, rfl, hown3, hg3⟩
      have hgb : ∀ k, Value.ownBlock (.slice (some ⟨wr.heap.size, 0, none⟩) 4 4) = some k → w.heap.size ≤ k := fun k hk => by
        have e3 : wr.heap.size = k := Option.some.inj hk
        have := hbw.size
        omega
      have hb3 : Below w.heap.size w w3 := hbF.grown hg3.by_ hbF.size hgb
      have hf3 := HFF.out.grew hg3
      have hr3 := HFF.out.reads hg3 hrf
      have T3 := chunk_any wf.heap.size v3 CH ⟨#[100, 97, 116, 97]⟩ A5 (smpL xs xs.length).length c5 S w3 (by omega) rfl (by omega) hg3.by_.size hown3 hr3 hf3
      have hchl4 : (chunkL CH (bytesOf ⟨#[100, 97, 116, 97]⟩) S).length = 36 + 2 * xs.length := by
        unfold chunkL
        rw [if_neg (by omega)]
        simp only [List.length_append, le_length, bytesOf_length, List.length_nil, hchl, hSl]
        show 28 + 4 + 4 + 2 * xs.length + 0 = _
        omega
      obtain ⟨C4, hC4⟩ : ∃ C4, C4 = chunkL CH (bytesOf ⟨#[100, 97, 116, 97]⟩) S := ⟨_, rfl⟩
      rw [← hC4] at T3 hchl4
      have h4l : C4.length ≤ 9000 := by omega
      have HRL : Hid (restL R C xs = C4) := by
        show _ = _
        rw [hC4, HCH.out, HS.out]
        rfl
      have Hg3 := Lib.hid hg3.by_.size
      have hwf := hbF.size
      obtain ⟨A3, c3, rfl⟩ := own_slice hown3
      have H3 := Lib.hid hown3
      have HG3 := Lib.hid hg3
      clear hchl hchl4 hC4 hf3 hr3 T2 hrf hLf hgb hSl HS HCH HFF hbf hg3 hown3
      go_wp2_with fail
      refine T3.mono ?_
      rintro e w4 ⟨v4, rfl, hown4, hg4⟩
      have hb4 : Below w.heap.size w w4 := hb3.grown hg4.by_ hb3.size (fun k hk => Nat.le_trans hwf (own_base H3.out k hk))
      obtain ⟨wb, hwb⟩ : ∃ wb : World, wb = w4.alloc (.cells #[.int .u8 82, .int .u8 73, .int .u8 70, .int .u8 70] 5 (4, 5)) := ⟨_, rfl⟩
      have hbb : Below w4.heap.size w4 wb := by rw [hwb]; exact ba (br _) _
      have hLb : Full wb w4.heap.size [82, 73, 70, 70] := by rw [hwb]; exact full_lit w4 [82, 73, 70, 70] (by decide) (4, 5)
      have hb5 : Below w.heap.size w wb := bt hb4 hbb
      have hw4 := hb4.size
      have HWB := Lib.hid hwb
      obtain ⟨A4, c4, rfl, hr4⟩ := own_reads hown4
      have hrb := hr4.below hbb
      have hfb : Far wb (.slice (some ⟨w4.heap.size, 0, none⟩) 4 4) A4 := fun ad e => by
        have h1 : Value.ownBlock (.slice A4 C4.length c4) = some ad.block := by rw [e]; rfl
        have h2 := own_lt hown4 ad.block h1
        have h3 := hbb.size
        exact ⟨by omega, fun e2 => by have e3 : ad.block = w4.heap.size := Option.some.inj e2; omega⟩
      have T5 := put_full w4.heap.size [82, 73, 70, 70] C4.length wb (by omega) (by decide) hLb
      have HFb := Lib.hid hfb
      have Hrb := Lib.hid hrb
      have Hhb := Lib.hid hb5
      clear hwb hown4 hr4 hfb hrb hLb hg4 T3 hb3 hb4 hb5
      go_wp2_with fail
      rw [← HWB.out]
      refine T5.mono ?_
      rintro e w5 ⟨v5, rfl, hown5, hg5⟩
      have hr5 := HFb.out.reads hg5 Hrb.out
      have hf5 := HFb.out.grew hg5
      have hb5 : Below w.heap.size w w5 := Hhb.out.grown hg5.by_ Hhb.out.size (fun k hk => by
        have e3 : w4.heap.size = k := Option.some.inj hk
        omega)
      have hb5l := hb5.size
      have hwb5 := Hhb.out.size
      obtain ⟨A6, c6, rfl⟩ := own_slice hown5
      have hl6 : ([82, 73, 70, 70] ++ le C4.length 4).length ≤ 8 := by rw [List.length_append, le_length]; decide
      have hfin : Hid (riffL R C xs = [82, 73, 70, 70] ++ le C4.length 4 ++ C4) := by
        show _ = _
        unfold riffL
        rw [HRL.out]
      have hgs := hg5.by_.size
      go_wp2_with (at_builtin; go_loud (refine print_append_row wb.heap.size rfl (.tmp 36) (.tmp 37) 37 5 .u8 1 rfl Try.underlying37 info8 (by decide) _ ([82, 73, 70, 70] ++ le C4.length 4) C4 A4 C4.length c4 rfl rfl hown5 hr5 (Below.refl _ _) hgs (by omega) ?_); intro v6 w6 hown6 hb6 hg6 hat6)
      go_ret2
      refine ⟨v6, rfl, ?_, hb5.grown hg6 hb5.size fun k hk => ?_⟩
      · rw [hfin.out]
        exact own_mono hown6 (by omega)
      · have := own_base hown5 k hk
        omega
end Go.Proofs.Ytcjnfdhdcoobgaa.Rif
