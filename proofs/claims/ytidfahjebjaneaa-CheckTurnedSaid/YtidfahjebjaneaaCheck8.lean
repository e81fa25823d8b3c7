/- The walks of the statements CheckSeals and CheckBack. -/
import Derived.Test.YtidfahjebjaneaaCheck7
set_option linter.unusedVariables false
set_option linter.unusedSimpArgs false
namespace Go.Proofs.Ytidfahjebjaneaa.Chk
open Go.RowKit Go.Proofs.YtidfahjebjaneaaW.PrintWords Go.Proofs.YtidfahjebjaneaaW.PrintLast Go.Proofs.YtidfahjebjaneaaW.PrintMore

theorem seal_of {wd st p : Nat} (hk : Knd wd st p) (A : Option Addr) (n c : Nat) (l : List Int) (w : World) (hl : l.length ≤ 4096) (hlu : Bytes l) (hr : ReadsInt w .u8 A n l) :
    Calls Try.prog 39 #[.int .i64 wd, .slice A n c] w (Row8E (l ++ tailL wd (sumN wd st p l (8 * l.length)) (wd / 8)) 0 w) := by
  obtain rfl := hr.1
  exact seal_knd hk A c l w hl hlu hr

/-- what Open answers of any bytes -/
def OpenE (wd st p : Nat) (l : List Int) (w : World) (e : Ending) (w' : World) : Prop :=
  (fits wd st p l ∧ Row8E (l.take (l.length - wd / 8)) 0 w e w') ∨ (¬ fits wd st p l ∧ e = .returned (.tuple #[.slice none 0 0, .int .i64 60]) ∧ Below w.heap.size w w')
theorem open_of {wd st p : Nat} (hk : Knd wd st p) (A : Option Addr) (n c : Nat) (l : List Int) (w : World) (hl : l.length ≤ 4096) (hc : l.length ≤ c) (hlu : Bytes l) (hr : ReadsInt w .u8 A n l) :
    Calls Try.prog 41 #[.int .i64 wd, .slice A n c] w (OpenE wd st p l w) := by
  obtain rfl := hr.1
  by_cases h : wd / 8 ≤ l.length
  · by_cases hf : fits wd st p l
    · exact (open_yes hk A c l w hl hc hlu hr hf).mono fun e w' h => .inl ⟨hf, h⟩
    · exact (open_no hk A c l w hl hc hlu hr h hf).mono fun e w' h => .inr ⟨hf, h⟩
  · exact (open_short hk A c l w (by omega)).mono fun e w' h' => .inr ⟨fun hf => h hf.1, h'⟩

/-- what the reference's Open answers of any bytes -/
theorem ropen_of {wd st p : Nat} (hk : Knd wd st p) (L : List Int) (hL : Bytes L) (hl : L.length ≤ 4096) (w : World) :
    Calls Try.prog 42 #[.int .i64 wd, .string (strOfNums L)] w
      fun e w' => (e = .returned (if fits wd st p L then .tuple #[.string (strOfNums (L.take (L.length - wd / 8))), .int .i64 0] else .tuple #[.string ⟨#[]⟩, .int .i64 60])) ∧ Below w.heap.size w w' := by
  by_cases h : wd / 8 ≤ L.length
  · exact ropen_long hk L hL hl h w
  · refine (ropen_short hk L (by omega) w).mono fun e w' h' => ?_
    rw [if_neg (fun hf => h hf.1)]
    exact ⟨h'.1, by rw [h'.2]; exact br w⟩

theorem str_nil : strOfNums [] = ⟨#[]⟩ := rfl
theorem conv_nil (W : World) (c : Nat) : (convert 22 9 (.slice none 0 c)).run Try.prog W = .ok (.string ⟨#[]⟩) W :=
  string_of_reads (xs := []) Try.underlying22 Try.underlying5 Try.underlying9 (reads_nil W .u8 none)
theorem conv_own {W : World} {base n : Nat} {v : Value} {l : List Int} (h : W.ownsRow base 5 1 v n (nums .u8 l)) : (convert 22 9 v).run Try.prog W = .ok (.string (strOfNums l)) W :=
  own_string Try.underlying22 Try.underlying5 Try.underlying9 h
theorem conv_bytes {L : List Int} (hL : Bytes L) (hl : L.length ≤ 4096) (W : World) : ReadsInt (Lib.bytesWorld W 5 (strOfNums L)) .u8 (some ⟨W.heap.size, 0, none⟩) L.length L := by
  have := bytes_reads W 5 (strOfNums L) (by rw [strOfNums_size]; omega)
  rw [bytesOf_str hL, strOfNums_size] at this
  exact this

set_option maxRecDepth 100000 in
set_option maxHeartbeats 1000000 in
theorem seals_any (a : Int) (L : List Int) (hL : Bytes L) (hl : L.length ≤ 140737488351232) (w : World) :
    Calls Try.prog 10 #[.int .i64 a, .string (strOfNums L)] w fun e w' => e = .returned (.bool true) ∧ Below w.heap.size w w' := by
  have hsz := strOfNums_size L
  have HL := Lib.hid hL
  clear hL
  by_cases hlen : 2000 < L.length
  · go_enter Try.func10, Try.ntmps10
    go_wp2_with fail
    refine (alive_any _).mono ?_
    rintro e w1 ⟨rfl, hb1⟩
    go_wp2
    go_ret
    exact ⟨rfl, hb1⟩
  have kb := fun W : World => print_bytes (P := Try.prog) 9 22 5 Try.underlying9 Try.underlying22 Try.underlying5 (strOfNums L) W
  rcases knd_or a with ⟨wd, st, p, hk, rfl⟩ | hbad
  · go_enter Try.func10, Try.ntmps10
    go_wp2_with fail
    refine (alive_any _).mono ?_
    rintro e w1 ⟨rfl, hb1⟩
    go_wp2_with fail
    refine (seal_of hk _ _ _ L _ (by omega) HL.out (conv_bytes HL.out (by omega) _)).mono ?_
    rintro e w2 ⟨v1, rfl, ho1, hb2⟩
    have hb2' := bt (bytes_below hb1 hb1.size _ _) hb2
    clear hb1 hb2
    go_wp2_with fail
    refine (rseal_knd hk L HL.out (by omega) _).mono ?_
    rintro e w3 ⟨rfl, hb3⟩
    have ho1' := pw_own_below ho1 hb3
    have hb3' := bt hb2' hb3
    clear ho1 hb2' hb3
    go_wp2_with fail
    refine (open_of hk _ _ _ L _ (by omega) (grownCap_ge _ _ _ _) HL.out (conv_bytes HL.out (by omega) _)).mono ?_
    rintro e w4 (⟨hf, v2, rfl, ho2, hb4⟩ | ⟨hf, rfl, hb4⟩)
    · have ho1 := pw_own_below (pw_own_below ho1' (bytes_below (br _) (Nat.le_refl _) _ _)) hb4
      have hb4' := bt (bytes_below hb3' hb3'.size _ _) hb4
      clear ho1' hb3' hb4
      go_wp2_with fail
      refine (ropen_of hk L HL.out (by omega) _).mono ?_
      rw [if_pos hf]
      rintro e w5 ⟨rfl, hb5⟩
      have hc1 := conv_own (pw_own_below ho1 hb5)
      have hc2 := conv_own (pw_own_below ho2 hb5)
      have hb := bt hb4' hb5
      clear ho1 ho2 hb4' hb5
      go_wp2
      go_ret
      exact ⟨rfl, hb⟩
    · have ho1 := pw_own_below (pw_own_below ho1' (bytes_below (br _) (Nat.le_refl _) _ _)) hb4
      have hb4' := bt (bytes_below hb3' hb3'.size _ _) hb4
      clear ho1' hb3' hb4
      go_wp2_with fail
      refine (ropen_of hk L HL.out (by omega) _).mono ?_
      rw [if_neg hf]
      rintro e w5 ⟨rfl, hb5⟩
      have hc1 := conv_own (pw_own_below ho1 hb5)
      have hc2 := conv_nil w5 0
      have hb := bt hb4' hb5
      clear ho1 hb4' hb5
      go_wp2
      go_ret
      exact ⟨rfl, hb⟩
  · go_enter Try.func10, Try.ntmps10
    go_wp2_with fail
    refine (alive_any _).mono ?_
    rintro e w1 ⟨rfl, hb1⟩
    go_wp2_with fail
    refine (seal_bad _ hbad _ _ _ _).mono ?_
    rintro e w2 ⟨rfl, hb2⟩
    have hb2' := bt (bytes_below hb1 hb1.size _ _) hb2
    clear hb1 hb2
    go_wp2_with fail
    refine (rseal_bad _ hbad _ _).mono ?_
    rintro e w3 ⟨rfl, rfl⟩
    go_wp2_with fail
    refine (open_bad _ hbad _ _ _ _).mono ?_
    rintro e w4 ⟨rfl, hb4⟩
    have hb := bt (bytes_below hb2' hb2'.size _ _) hb4
    clear hb2' hb4
    have hc := fun c => conv_nil w4 c
    go_wp2_with fail
    refine (ropen_bad _ hbad _ _).mono ?_
    rintro e w5 ⟨rfl, rfl⟩
    go_wp2
    go_ret
    exact ⟨rfl, hb⟩

theorem fits_seal {wd st p : Nat} (hk : Knd wd st p) (L : List Int) : fits wd st p (L ++ tailL wd (sumN wd st p L (8 * L.length)) (wd / 8)) ∧
    (L ++ tailL wd (sumN wd st p L (8 * L.length)) (wd / 8)).take ((L ++ tailL wd (sumN wd st p L (8 * L.length)) (wd / 8)).length - wd / 8) = L := by
  have hl : (L ++ tailL wd (sumN wd st p L (8 * L.length)) (wd / 8)).length = L.length + wd / 8 := by rw [List.length_append, tailL_length]
  have ht : (L ++ tailL wd (sumN wd st p L (8 * L.length)) (wd / 8)).take L.length = L := by rw [List.take_append_of_le_length (Nat.le_refl _), List.take_length]
  have hd : (L ++ tailL wd (sumN wd st p L (8 * L.length)) (wd / 8)).drop L.length = tailL wd (sumN wd st p L (8 * L.length)) (wd / 8) := by rw [List.drop_append_of_le_length (Nat.le_refl _), List.drop_length, List.nil_append]
  unfold fits
  rw [hl, Nat.add_sub_cancel, ht, hd]
  refine ⟨⟨by omega, ?_⟩, rfl⟩
  have := sumN_take wd st p (L ++ tailL wd (sumN wd st p L (8 * L.length)) (wd / 8)) L.length (by omega)
  rw [ht] at this
  rw [← this]

set_option maxRecDepth 100000 in
set_option maxHeartbeats 1000000 in
theorem back_any (a : Int) (L : List Int) (hL : Bytes L) (hl : L.length ≤ 140737488351232) (w : World) :
    Calls Try.prog 11 #[.int .i64 a, .string (strOfNums L)] w fun e w' => e = .returned (.bool true) ∧ Below w.heap.size w w' := by
  have hsz := strOfNums_size L
  have HL := Lib.hid hL
  clear hL
  by_cases hlen : 2000 < L.length
  · go_enter Try.func11, Try.ntmps11
    go_wp2_with fail
    refine (alive_any _).mono ?_
    rintro e w1 ⟨rfl, hb1⟩
    go_wp2
    go_ret
    exact ⟨rfl, hb1⟩
  have kb := fun W : World => print_bytes (P := Try.prog) 9 22 5 Try.underlying9 Try.underlying22 Try.underlying5 (strOfNums L) W
  rcases knd_or a with ⟨wd, st, p, hk, rfl⟩ | hbad
  · have hw2 := hk.w.2.1
    have hfs := fits_seal hk L
    go_enter Try.func11, Try.ntmps11
    go_wp2_with fail
    refine (alive_any _).mono ?_
    rintro e w1 ⟨rfl, hb1⟩
    go_wp2_with fail
    refine (seal_of hk _ _ _ L _ (by omega) HL.out (conv_bytes HL.out (by omega) _)).mono ?_
    rintro e w2 ⟨v1, rfl, ho1, hb2⟩
    have hb2' := bt (bytes_below hb1 hb1.size _ _) hb2
    have hlen2 : (L ++ tailL wd (sumN wd st p L (8 * L.length)) (wd / 8)).length = L.length + wd / 8 := by rw [List.length_append, tailL_length]
    have hby : Bytes (L ++ tailL wd (sumN wd st p L (8 * L.length)) (wd / 8)) := HL.out.append (tailL_byte _ _ _)
    obtain ⟨f1, f2⟩ := hfs
    generalize L ++ tailL wd (sumN wd st p L (8 * L.length)) (wd / 8) = M at *
    obtain ⟨A1, c1, rfl, hlm, hr1⟩ := own_reads_le ho1
    have HM := Lib.hid hby
    have HF := Lib.hid f2
    clear hb1 hb2 hby f2 ho1
    have H2 := Lib.hid hlen2
    rw [hlen2] at hr1 hlm ⊢
    clear hlen2
    go_wp2_with fail
    refine (open_of hk _ _ _ M _ (by have := H2.out; omega) (by have := H2.out; omega) HM.out hr1).mono ?_
    rintro e w4 (⟨-, v2, rfl, ho2, hb4⟩ | ⟨hf, -, -⟩)
    · rw [HF.out] at ho2
      have hc2 := conv_own ho2
      have hb := bt hb2' hb4
      clear ho2 hb4 hb2'
      go_wp2
      go_ret
      exact ⟨rfl, hb⟩
    · exact absurd f1 hf
  · go_enter Try.func11, Try.ntmps11
    go_wp2_with fail
    refine (alive_any _).mono ?_
    rintro e w1 ⟨rfl, hb1⟩
    go_wp2_with fail
    refine (seal_bad _ hbad _ _ _ _).mono ?_
    rintro e w2 ⟨rfl, hb2⟩
    have hb2' := bt (bytes_below hb1 hb1.size _ _) hb2
    clear hb1 hb2
    go_wp2
    go_ret
    exact ⟨rfl, hb2'⟩

theorem seals_of (a : Int) (s : ByteArray) (hs : s.size ≤ 140737488351232) (w : World) :
    Calls Try.prog 10 #[.int .i64 a, .string s] w fun e w' => e = .returned (.bool true) ∧ Below w.heap.size w w' := by
  have h := seals_any a (bytesOf s) (bytesOf_byte s) (by rw [bytesOf_length]; exact hs) w
  rw [str_bytesOf] at h
  exact h

theorem back_of (a : Int) (s : ByteArray) (hs : s.size ≤ 140737488351232) (w : World) :
    Calls Try.prog 11 #[.int .i64 a, .string s] w fun e w' => e = .returned (.bool true) ∧ Below w.heap.size w w' := by
  have h := back_any a (bytesOf s) (bytesOf_byte s) (by rw [bytesOf_length]; exact hs) w
  rw [str_bytesOf] at h
  exact h
end Go.Proofs.Ytidfahjebjaneaa.Chk
