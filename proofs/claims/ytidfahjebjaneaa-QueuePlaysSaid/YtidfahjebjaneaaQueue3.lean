/- The walk of the statement QueueFew. -/
import Derived.Test.YtidfahjebjaneaaQueue2
set_option linter.unusedVariables false
set_option linter.unusedSimpArgs false
namespace Go.Proofs.Ytidfahjebjaneaa.Que
open Go.RowKit Go.Proofs.YtidfahjebjaneaaW.PrintWords Go.Proofs.YtidfahjebjaneaaW.PrintLast Go.Proofs.YtidfahjebjaneaaW.PrintMore

/-- the steps of a script: kind, number, text -/
abbrev ActV := Int × Int × ByteArray
def ActsAt (W : World) (A : Option Addr) (acts : List ActV) : Prop := ∀ i (h : i < acts.length), ∃ ad, A = some ad ∧ W.cell? (ad.add (i * 3)) = some (.int .i64 acts[i].1) ∧
  W.cell? ⟨(ad.add (i * 3)).block, (ad.add (i * 3)).off + 1, none⟩ = some (.int .i64 acts[i].2.1) ∧ W.cell? ⟨(ad.add (i * 3)).block, (ad.add (i * 3)).off + 2, none⟩ = some (.string acts[i].2.2)
theorem ActsAt.below {w W : World} {A : Option Addr} {acts : List ActV} (h : ActsAt w A acts) (hb : Below w.heap.size w W) : ActsAt W A acts := fun i hi => by
  obtain ⟨ad, h1, h2, h3, h4⟩ := h i hi
  exact ⟨ad, h1, pw_cell_below hb h2, pw_cell_below hb h3, pw_cell_below hb h4⟩

theorem rows_ne {W : World} {base n m s s' : Nat} {e e' : TypeId} {v u : Value} {xs ys : List Value} (h : W.ownsRow base e s v n xs) (k : W.ownsRow base e' s' u m ys) (hne : e ≠ e') : ∀ g, v.ownBlock = some g → some g ≠ u.ownBlock := by
  intro g hg he
  obtain ⟨c1, h1⟩ := own_typed h g hg
  obtain ⟨c2, h2⟩ := own_typed k g he.symm
  rw [h1] at h2
  injection h2 with h2
  injection h2 with _ h2
  exact hne h2

theorem mod_ne {f n m : Nat} (h : n < m) (h2 : m < n + f) : n % f ≠ m % f := fun e => by
  have h3 := Nat.sub_mod_eq_zero_of_mod_eq e.symm
  rw [Nat.mod_eq_of_lt (by omega)] at h3
  omega

/-- what the queue is, behind some steps: the texts that were pushed, the numbers that came -/
structure FewP (f : Nat) (q : Q) (pu : List ByteArray) (ca : List Int) : Prop where
  F : q.F = f
  N : q.N = pu.length
  P : ∀ n (h : n < pu.length), pu.length ≤ n + f → q.P (n % f) = pu[n]
  C : ∀ n : Nat, (n : Int) ∈ ca → pu.length ≤ n + f → q.O (n % f) = false
  lt : ∀ c ∈ ca, c < pu.length

theorem FewP.nil (f : Nat) : FewP f ⟨f, 0, fun _ => ⟨#[]⟩, fun _ => false⟩ [] [] := ⟨rfl, rfl, fun n h => by simp at h, fun n h => by simp at h, fun c h => by simp at h⟩
theorem FewP.came {f : Nat} {q : Q} {pu : List ByteArray} {ca : List Int} (h : FewP f q pu ca) (n : Int) (hw : inWin q n = true) : FewP f (q.setO (n.toNat % q.F) false) pu (ca ++ [n]) := by
  simp only [inWin, Bool.and_eq_true, decide_eq_true_eq] at hw
  obtain ⟨h0, h1, h2⟩ := hw
  obtain ⟨m, rfl⟩ := Int.eq_ofNat_of_zero_le h0
  refine ⟨h.F, h.N, h.P, fun c hc hn => ?_, fun c hc => ?_⟩
  · show (if c % f = (m : Int).toNat % q.F then false else q.O (c % f)) = false
    rw [Int.toNat_natCast, h.F]
    split
    · rfl
    · rename_i hne
      rcases List.mem_append.1 hc with hc | hc
      · exact h.C c hc hn
      · simp at hc; have hc' : c = m := by omega
        subst hc'; exact absurd rfl hne
  · rcases List.mem_append.1 hc with hc | hc
    · exact h.lt c hc
    · simp at hc; subst hc; have := h.N; omega
theorem FewP.push {f : Nat} {q : Q} {pu : List ByteArray} {ca : List Int} (h : FewP f q pu ca) (s : ByteArray) : FewP f { (q.setP (q.N % q.F) s).setO (q.N % q.F) true with N := q.N + 1 } (pu ++ [s]) ca := by
  have hN := h.N
  have hF := h.F
  refine ⟨h.F, by simp [hN], fun n hn hw => ?_, fun c hc hn => ?_, fun c hc => ?_⟩
  · show (if n % f = q.N % q.F then s else q.P (n % f)) = _
    simp only [List.length_append, List.length_singleton] at hn hw
    rw [hN, hF]
    by_cases e : n = pu.length
    · subst e; rw [if_pos rfl]; simp
    · rw [if_neg (mod_ne (by omega) (by omega)), h.P n (by omega) (by omega), List.getElem_append_left]
  · show (if c % f = q.N % q.F then true else q.O (c % f)) = false
    simp only [List.length_append, List.length_singleton] at hn
    have := h.lt c hc
    rw [hN, hF, if_neg (mod_ne (by omega) (by omega))]
    exact h.C c hc (by omega)
  · have := h.lt c hc
    simp; omega

/-- in a world: the queue's block, the two lists that the law keeps -/
structure Few (b B : Nat) (W : World) (q : Q) (pu : List ByteArray) (ca : List Int) (vp vc : Value) : Prop where
  at_ : QAt W b q
  rp : W.ownsRow B 9 1 vp pu.length (encs Value.string pu)
  rc : W.ownsRow B 3 1 vc ca.length (nums .i64 ca)
  lt : b < B
  le : B ≤ W.heap.size
theorem FewP.ok {f : Nat} {q : Q} {pu : List ByteArray} {ca : List Int} (h : FewP f q pu ca) (h1 : 1 ≤ f) (h8 : f ≤ 8) (hn : pu.length ≤ 100) : q.ok := ⟨by rw [h.F]; exact h1, by rw [h.F]; exact h8, by rw [h.N]; omega⟩
theorem Few.drew {b B : Nat} {W : World} {q : Q} {pu : List ByteArray} {ca : List Int} {vp vc : Value} (h : Few b B W q pu ca vp vc) (n : Nat) : Few b B (W.drewN n) q pu ca vp vc := ⟨h.at_, own_move h.rp (fun _ _ => rfl), own_move h.rc (fun _ _ => rfl), h.lt, h.le⟩
/-- behind a call on the queue -/
theorem Few.call {b B : Nat} {W W' : World} {q q' : Q} {pu : List ByteArray} {ca : List Int} {vp vc : Value} (h : Few b B W q pu ca vp vc) (hq : QAt W' b q') (hg : W.grownBy W' (some b)) : Few b B W' q' pu ca vp vc := by
  have hlt := h.lt
  refine ⟨hq, own_move h.rp (fun k hk => hg.block k (own_lt h.rp k hk) ?_), own_move h.rc (fun k hk => hg.block k (own_lt h.rc k hk) ?_), h.lt, Nat.le_trans h.le hg.size⟩
  · have := own_base h.rp k hk; intro e; injection e; omega
  · have := own_base h.rc k hk; intro e; injection e; omega
/-- behind an append to the numbers -/
theorem Few.app_c {b B : Nat} {W W' : World} {q : Q} {pu : List ByteArray} {ca ca' : List Int} {vp vc v1 : Value} (h : Few b B W q pu ca vp vc) (hq : W'.ownsRow B 3 1 v1 ca'.length (nums .i64 ca')) (hg : W.grownBy W' vc.ownBlock) : Few b B W' q pu ca' vp v1 := by
  have hlt := h.lt
  have hle := h.le
  refine ⟨(hg.block b (by omega) (fun e => ?_)).trans h.at_, own_move h.rp (fun k hk => hg.block k (own_lt h.rp k hk) (rows_ne h.rp h.rc (by decide) k hk)), hq, h.lt, Nat.le_trans h.le hg.size⟩
  have := own_base h.rc b e.symm; omega
/-- behind an append to the texts -/
theorem Few.app_p {b B : Nat} {W W' : World} {q : Q} {pu pu' : List ByteArray} {ca : List Int} {vp vc v1 : Value} (h : Few b B W q pu ca vp vc) (hq : W'.ownsRow B 9 1 v1 pu'.length (encs Value.string pu')) (hg : W.grownBy W' vp.ownBlock) : Few b B W' q pu' ca v1 vc := by
  have hlt := h.lt
  have hle := h.le
  refine ⟨(hg.block b (by omega) (fun e => ?_)).trans h.at_, hq, own_move h.rc (fun k hk => hg.block k (own_lt h.rc k hk) (rows_ne h.rc h.rp (by decide) k hk)), h.lt, Nat.le_trans h.le hg.size⟩
  have := own_base h.rp b e.symm; omega
theorem bgo {B B' n : Nat} {w w1 w2 : World} {e : TypeId} {v : Value} {xs : List Value} (h : Below B w w1) (hg : w1.grownBy w2 v.ownBlock) (ho : w1.ownsRow B' e 1 v n xs) (hb : B ≤ B') (hB : B ≤ w1.heap.size) : Below B w w2 :=
  h.grown hg hB (fun k e => Nat.le_trans hb (own_base ho k e))
theorem infoI : (Try.prog.info? 3).map (fun i => (i.zero, i.size, i.bytes)) = some (some (.int .i64 0), 1, 8) := by kernel_rfl
theorem infoS : (Try.prog.info? 9).map (fun i => (i.zero, i.size, i.bytes)) = some (some (.string ⟨#[]⟩), 1, 16) := by kernel_rfl

set_option maxRecDepth 100000 in
set_option maxHeartbeats 2000000 in
theorem few_any (F : Int) (acts : List ActV) (A : Option Addr) (c : Nat) (w : World) (hr : ActsAt w A acts) (hc : acts.length ≤ c) :
    Calls Try.prog 6 #[.int .i64 F, .slice A acts.length c] w fun e w' => e = .returned (.bool true) ∧ Below w.heap.size w w' := by
  have HR := Lib.hid hr
  clear hr
  go_enter Try.func6, Try.ntmps6
  go_wp2_with fail
  refine (alive _).mono ?_
  rintro e w1 ⟨rfl, hb1⟩
  by_cases hF : 1 ≤ F ∧ F ≤ 8
  · obtain ⟨F1, F8⟩ := hF
    obtain ⟨f, rfl⟩ := Int.eq_ofNat_of_zero_le (show 0 ≤ F by omega)
    go_wp2_with fail
    refine (new_yes f (by omega) (by omega) _).mono ?_
    rintro e w2 ⟨rfl, hq, hb2, hs2⟩
    replace hb2 := bt hb1 hb2
    by_cases hl : acts.length ≤ 100
    · have hFew0 : Few w1.heap.size w2.heap.size w2 ⟨f, 0, fun _ => ⟨#[]⟩, fun _ => false⟩ [] [] (.slice none 0 0) (.slice none 0 0) := ⟨hq, ⟨rfl, .inl ⟨rfl, rfl⟩⟩, ⟨rfl, .inl ⟨rfl, rfl⟩⟩, by omega, Nat.le_refl _⟩
      clear hq hs2
      go_wp2
      go_loopg [7, 8, 9] acts.length (fun gk vp vc x W => ∃ (i : Nat) (q : Q) (pu : List ByteArray) (ca : List Int), i ≤ acts.length ∧ gk = acts.length - i ∧ x = .int .i64 i ∧ Few w1.heap.size w2.heap.size W q pu ca vp vc ∧ FewP f q pu ca ∧ pu.length ≤ i ∧ ca.length ≤ i ∧ Below w.heap.size w W)
      case atStart => exact ⟨0, _, [], [], by omega, by omega, rfl, hFew0, FewP.nil f, by simp, by simp, hb2⟩
      case round =>
        obtain ⟨i, q, pu, ca, hi, rfl, rfl, hFew, hP, hpl, hcl, hbw⟩ := hrel
        obtain ⟨A7, c7, rfl⟩ := own_slice hFew.rp
        obtain ⟨A8, c8, rfl⟩ := own_slice hFew.rc
        by_cases hlt : i < acts.length
        · obtain ⟨ad, rfl, x0, x1, x2⟩ := HR.out i hlt
          generalize acts[i] = act at x0 x1 x2
          obtain ⟨kd, num, s⟩ := act
          simp only at x0 x1 x2
          have y0 := pw_cell_below hbw x0
          have y1 := pw_cell_below hbw x1
          have y2 := pw_cell_below hbw x2
          have hlt8 := hFew.lt
          have hle8 := hFew.le
          have hok := hP.ok (by omega) (by omega) (by omega)
          by_cases h1 : kd = 1
          · subst h1
            have T := came_any w1.heap.size q num wr hFew.at_ hok
            cases hw : inWin q num with
            | true =>
              have HP := Lib.hid (hP.came num hw)
              simp only [hw, if_true] at T
              go_wp2_with fail
              refine T.mono ?_
              rintro e w3 ⟨rfl, hq3, hg3⟩
              have hFew3 := hFew.call hq3 hg3
              have hb3 := bg hbw hg3 hb1.size hbw.size
              have z1 := pw_cell_below hb3 x1
              have hB3 := hFew3.le
              go_wp2_with (at_builtin; refine print_append_num w2.heap.size rfl (.tmp 51) (.tmp 57) 69 3 .i64 8 rfl Try.underlying69 infoI (by decide) _ ca num rfl rfl hFew3.rc (Below.refl _ _) hB3 (by omega) ?_; intro v4 w4 hown4 hB4 hg4 hat4)
              have hFew4 := hFew3.app_c hown4 hg4
              have hb4 := bgo hb3 hg4 hFew3.rc hb2.size hb3.size
              have HP4 := Lib.hid HP.out
              obtain ⟨ca4, hca, hcl4⟩ : ∃ ca4 : List Int, ca4 = ca ++ [num] ∧ ca4.length ≤ i + 1 := ⟨_, rfl, by simp; omega⟩
              rw [← hca] at hFew4 HP4
              have hpl4 : pu.length ≤ i + 1 := by omega
              obtain ⟨q4, hq4⟩ : ∃ q4, q4 = q.setO (num.toNat % q.F) false := ⟨_, rfl⟩
              rw [← hq4] at hFew4 HP4
              obtain ⟨A4, c4, rfl⟩ := own_slice hFew4.rc
              obtain ⟨pu4, rfl⟩ : ∃ pu4, pu4 = pu := ⟨_, rfl⟩
              clear hca hq4 hat4 hg4 hown4 hFew3 hb3 T hq3 hg3 HP hP hFew hbw y0 y1 y2 z1 hw hok
              have hok4 := HP4.out.ok (by omega) (by omega) (by omega)
              have hN4 := HP4.out.N
              have hF4 := HP4.out.F
              go_wp2
              go_loopg [12, 13] pu4.length (fun gk xo x W => ∃ n oc k : Nat, n ≤ pu4.length ∧ gk = pu4.length - n ∧ x = .int .i64 n ∧ xo = .int .i64 oc ∧ oc ≤ n - (pu4.length - f) ∧ W = w4.drewN k)
              case atStart => exact ⟨0, 0, 0, by omega, by omega, rfl, rfl, by omega, rfl⟩
              case round =>
                obtain ⟨n, oc, k, hn, rfl, rfl, rfl, hoc, rfl⟩ := hrel
                by_cases hlt4 : n < pu4.length
                · have T := open_any w1.heap.size q4 n (w4.drewN k) hFew4.at_ hok4
                  have e1 : ((n : Int).toNat % q4.F) = n % f := by rw [hF4]; rfl
                  rw [e1] at T
                  cases hin : (inWin q4 n && q4.O (n % f)) with
                  | false =>
                    rw [hin] at T
                    simp only [Bool.false_eq_true, if_false] at T
                    go_wp2_with fail
                    refine T.mono ?_
                    rintro e w5 ⟨rfl, k5, rfl⟩
                    go_wp2
                    go_roundg (pu4.length - (n + 1))
                    case measure => omega
                    case rel => exact ⟨n + 1, oc, _, by omega, rfl, by go_num, rfl, by omega, rfl⟩
                  | true =>
                    rw [hin] at T
                    simp only [if_true] at T
                    have hwin : pu4.length ≤ n + f := by
                      simp only [inWin, Bool.and_eq_true, decide_eq_true_eq, hN4, hF4] at hin
                      omega
                    have hO : q4.O (n % f) = true := by rw [Bool.and_eq_true] at hin; exact hin.2
                    have hPn := HP4.out.P n hlt4 hwin
                    have hC : ∀ j (hj : j < ca4.length), ca4[j] ≠ (n : Int) := fun j hj e => by
                      have := HP4.out.C n (e ▸ List.getElem_mem hj) hwin
                      rw [hO] at this; cases this
                    rw [hPn] at T
                    obtain ⟨adp, rfl, zp⟩ := (own_reads_of' (enc := Value.string) (d := ByteArray.empty) hFew4.rp).2.2 (by omega)
                    replace zp := zp n hlt4
                    rw [show pu4.getD n ByteArray.empty = pu4[n] from by rw [List.getD_eq_getElem?_getD, List.getElem?_eq_getElem hlt4]; rfl] at zp
                    generalize pu4[n] = tx at zp T
                    have HC := Lib.hid hC
                    clear hC hPn hO hin
                    go_wp2_with fail
                    refine T.mono ?_
                    rintro e w5 ⟨rfl, k5, rfl⟩
                    clear T
                    obtain ⟨w6, hw6⟩ : ∃ w6 : World, w6 = w4.drewN (k + k5) := ⟨_, rfl⟩
                    have hcm := own_reads' hFew4.rc
                    go_wp2
                    go_loopg [16] ca4.length (fun gk x W => ∃ (m k6 : Nat), m ≤ ca4.length ∧ gk = ca4.length - m ∧ x = .int .i64 m ∧ W = w4.drewN k6)
                    case atStart => exact ⟨0, _, by omega, by omega, rfl, rfl⟩
                    case round =>
                      obtain ⟨m, k6, hm, rfl, rfl, rfl⟩ := hrel
                      by_cases hltm : m < ca4.length
                      · obtain ⟨adc, rfl, zc⟩ := hcm.2.2 (by omega)
                        replace zc := zc m hltm
                        rw [show ca4.getD m 0 = ca4[m] from by rw [List.getD_eq_getElem?_getD, List.getElem?_eq_getElem hltm]; rfl] at zc
                        have hne := HC.out m hltm
                        generalize ca4[m] = cm at zc hne
                        have hnb : (cm == (n : Int)) = false := beq_eq_false_iff_ne.2 hne
                        go_wp2
                        go_roundg (ca4.length - (m + 1))
                        case measure => omega
                        case rel => exact ⟨m + 1, _, by omega, rfl, by go_num, rfl⟩
                      · have b1 : decide ((n : Int) < pu4.length - f) = false := decide_eq_false (by omega)
                        go_wp2
                        go_roundg (pu4.length - (n + 1))
                        case measure => omega
                        case rel => exact ⟨n + 1, oc + 1, _, by omega, rfl, by go_num, by go_num, by omega, rfl⟩
                · have TL := fun k => len_any w1.heap.size q4 (w4.drewN k) hFew4.at_
                  have hmin : min q4.N q4.F ≤ f := by omega
                  generalize min q4.N q4.F = mn at hmin TL
                  go_wp2_with fail
                  refine (TL _).mono ?_
                  rintro e w6 ⟨rfl, k6, rfl⟩
                  go_wp2
                  go_roundg (acts.length - (i + 1))
                  case measure => omega
                  case rel => exact ⟨i + 1, q4, pu4, ca4, by omega, rfl, by go_num, hFew4.drew _, HP4.out, hpl4, hcl4, bdn hb4 _⟩
            | false =>
              simp only [hw, if_false, Bool.false_eq_true] at T
              go_wp2_with fail
              refine T.mono ?_
              rintro e w3 ⟨rfl, hq3, hg3⟩
              have hb3 := bg hbw hg3 hb1.size hbw.size
              have hFew3 := hFew.call hq3 hg3
              obtain ⟨w4, rfl⟩ : ∃ w4, w4 = w3 := ⟨_, rfl⟩
              obtain ⟨q4, rfl⟩ : ∃ q4, q4 = q := ⟨_, rfl⟩
              obtain ⟨pu4, rfl⟩ : ∃ q4, q4 = pu := ⟨_, rfl⟩
              obtain ⟨ca4, rfl⟩ : ∃ q4, q4 = ca := ⟨_, rfl⟩
              have hFew4 := hFew3
              have HP4 := Lib.hid hP
              have hpl4 : pu4.length ≤ i + 1 := by omega
              have hcl4 : ca4.length ≤ i + 1 := by omega
              have hb4 := hb3
              clear hb3 hFew3 hFew hP hq3 hg3 hok T hbw y0 y1 y2
              have hok4 := HP4.out.ok (by omega) (by omega) (by omega)
              have hN4 := HP4.out.N
              have hF4 := HP4.out.F
              go_wp2
              go_loopg [12, 13] pu4.length (fun gk xo x W => ∃ n oc k : Nat, n ≤ pu4.length ∧ gk = pu4.length - n ∧ x = .int .i64 n ∧ xo = .int .i64 oc ∧ oc ≤ n - (pu4.length - f) ∧ W = w4.drewN k)
              case atStart => exact ⟨0, 0, 0, by omega, by omega, rfl, rfl, by omega, rfl⟩
              case round =>
                obtain ⟨n, oc, k, hn, rfl, rfl, rfl, hoc, rfl⟩ := hrel
                by_cases hlt4 : n < pu4.length
                · have T := open_any w1.heap.size q4 n (w4.drewN k) hFew4.at_ hok4
                  have e1 : ((n : Int).toNat % q4.F) = n % f := by rw [hF4]; rfl
                  rw [e1] at T
                  cases hin : (inWin q4 n && q4.O (n % f)) with
                  | false =>
                    rw [hin] at T
                    simp only [Bool.false_eq_true, if_false] at T
                    go_wp2_with fail
                    refine T.mono ?_
                    rintro e w5 ⟨rfl, k5, rfl⟩
                    go_wp2
                    go_roundg (pu4.length - (n + 1))
                    case measure => omega
                    case rel => exact ⟨n + 1, oc, _, by omega, rfl, by go_num, rfl, by omega, rfl⟩
                  | true =>
                    rw [hin] at T
                    simp only [if_true] at T
                    have hwin : pu4.length ≤ n + f := by
                      simp only [inWin, Bool.and_eq_true, decide_eq_true_eq, hN4, hF4] at hin
                      omega
                    have hO : q4.O (n % f) = true := by rw [Bool.and_eq_true] at hin; exact hin.2
                    have hPn := HP4.out.P n hlt4 hwin
                    have hC : ∀ j (hj : j < ca4.length), ca4[j] ≠ (n : Int) := fun j hj e => by
                      have := HP4.out.C n (e ▸ List.getElem_mem hj) hwin
                      rw [hO] at this; cases this
                    rw [hPn] at T
                    obtain ⟨adp, rfl, zp⟩ := (own_reads_of' (enc := Value.string) (d := ByteArray.empty) hFew4.rp).2.2 (by omega)
                    replace zp := zp n hlt4
                    rw [show pu4.getD n ByteArray.empty = pu4[n] from by rw [List.getD_eq_getElem?_getD, List.getElem?_eq_getElem hlt4]; rfl] at zp
                    generalize pu4[n] = tx at zp T
                    have HC := Lib.hid hC
                    clear hC hPn hO hin
                    go_wp2_with fail
                    refine T.mono ?_
                    rintro e w5 ⟨rfl, k5, rfl⟩
                    clear T
                    obtain ⟨w6, hw6⟩ : ∃ w6 : World, w6 = w4.drewN (k + k5) := ⟨_, rfl⟩
                    have hcm := own_reads' hFew4.rc
                    go_wp2
                    go_loopg [16] ca4.length (fun gk x W => ∃ (m k6 : Nat), m ≤ ca4.length ∧ gk = ca4.length - m ∧ x = .int .i64 m ∧ W = w4.drewN k6)
                    case atStart => exact ⟨0, _, by omega, by omega, rfl, rfl⟩
                    case round =>
                      obtain ⟨m, k6, hm, rfl, rfl, rfl⟩ := hrel
                      by_cases hltm : m < ca4.length
                      · obtain ⟨adc, rfl, zc⟩ := hcm.2.2 (by omega)
                        replace zc := zc m hltm
                        rw [show ca4.getD m 0 = ca4[m] from by rw [List.getD_eq_getElem?_getD, List.getElem?_eq_getElem hltm]; rfl] at zc
                        have hne := HC.out m hltm
                        generalize ca4[m] = cm at zc hne
                        have hnb : (cm == (n : Int)) = false := beq_eq_false_iff_ne.2 hne
                        go_wp2
                        go_roundg (ca4.length - (m + 1))
                        case measure => omega
                        case rel => exact ⟨m + 1, _, by omega, rfl, by go_num, rfl⟩
                      · have b1 : decide ((n : Int) < pu4.length - f) = false := decide_eq_false (by omega)
                        go_wp2
                        go_roundg (pu4.length - (n + 1))
                        case measure => omega
                        case rel => exact ⟨n + 1, oc + 1, _, by omega, rfl, by go_num, by go_num, by omega, rfl⟩
                · have TL := fun k => len_any w1.heap.size q4 (w4.drewN k) hFew4.at_
                  have hmin : min q4.N q4.F ≤ f := by omega
                  generalize min q4.N q4.F = mn at hmin TL
                  go_wp2_with fail
                  refine (TL _).mono ?_
                  rintro e w6 ⟨rfl, k6, rfl⟩
                  go_wp2
                  go_roundg (acts.length - (i + 1))
                  case measure => omega
                  case rel => exact ⟨i + 1, q4, pu4, ca4, by omega, rfl, by go_num, hFew4.drew _, HP4.out, hpl4, hcl4, bdn hb4 _⟩
          · by_cases h2 : s.size ≤ 512
            · go_wp2_with fail
              refine (push_ok w1.heap.size q s wr hFew.at_ hok (by rw [hP.N]; omega) h2).mono ?_
              rintro e w3 ⟨rfl, hq3, hg3⟩
              have hb3 := bg hbw hg3 hb1.size hbw.size
              have hFew3 := hFew.call hq3 hg3
              have z1 := pw_cell_below hb3 x2
              have hB3 := hFew3.le
              have HP := Lib.hid (hP.push s)
              rw [hP.N]
              go_wp2_with (at_builtin; refine print_append_cells w2.heap.size rfl (.tmp 84) (.tmp 90) 68 9 (.string ⟨#[]⟩) 1 16 rfl Try.underlying68 infoS rfl (by decide) (by decide) _ pu.length (encs Value.string pu) [.string s] rfl rfl rfl (by intro u hu; simp at hu; subst hu; rfl) hFew3.rp (Below.refl _ _) hB3 (by omega) ?_; intro v4 w4 hown4 hB4 hg4 hat4)
              obtain ⟨pu4, hpu⟩ : ∃ p, p = pu ++ [s] := ⟨_, rfl⟩
              rw [← hpu] at HP
              have hown5 : w4.ownsRow w2.heap.size 9 1 v4 pu4.length (encs Value.string pu4) := by rw [hpu]; simpa [encs] using hown4
              have hpl4 : pu4.length ≤ i + 1 := by rw [hpu]; simp; omega
              have hFew4 := hFew3.app_p hown5 hg4
              have hb4 := bgo hb3 hg4 hFew3.rp hb2.size hb3.size
              have HP4 := HP
              generalize hq4 : ({ (q.setP (q.N % q.F) s).setO (q.N % q.F) true with N := q.N + 1 } : Q) = q4 at hFew4 HP4
              obtain ⟨A4, c4, rfl⟩ := own_slice hFew4.rp
              obtain ⟨ca4, rfl⟩ : ∃ q4, q4 = ca := ⟨_, rfl⟩
              have hcl4 : ca4.length ≤ i + 1 := by omega
              clear hpu hq4 hat4 hg4 hown4 hown5 hFew3 hb3 hq3 hg3 HP hP hFew hbw y0 y1 y2 z1 hok
              have hok4 := HP4.out.ok (by omega) (by omega) (by omega)
              have hN4 := HP4.out.N
              have hF4 := HP4.out.F
              go_wp2
              go_loopg [12, 13] pu4.length (fun gk xo x W => ∃ n oc k : Nat, n ≤ pu4.length ∧ gk = pu4.length - n ∧ x = .int .i64 n ∧ xo = .int .i64 oc ∧ oc ≤ n - (pu4.length - f) ∧ W = w4.drewN k)
              case atStart => exact ⟨0, 0, 0, by omega, by omega, rfl, rfl, by omega, rfl⟩
              case round =>
                obtain ⟨n, oc, k, hn, rfl, rfl, rfl, hoc, rfl⟩ := hrel
                by_cases hlt4 : n < pu4.length
                · have T := open_any w1.heap.size q4 n (w4.drewN k) hFew4.at_ hok4
                  have e1 : ((n : Int).toNat % q4.F) = n % f := by rw [hF4]; rfl
                  rw [e1] at T
                  cases hin : (inWin q4 n && q4.O (n % f)) with
                  | false =>
                    rw [hin] at T
                    simp only [Bool.false_eq_true, if_false] at T
                    go_wp2_with fail
                    refine T.mono ?_
                    rintro e w5 ⟨rfl, k5, rfl⟩
                    go_wp2
                    go_roundg (pu4.length - (n + 1))
                    case measure => omega
                    case rel => exact ⟨n + 1, oc, _, by omega, rfl, by go_num, rfl, by omega, rfl⟩
                  | true =>
                    rw [hin] at T
                    simp only [if_true] at T
                    have hwin : pu4.length ≤ n + f := by
                      simp only [inWin, Bool.and_eq_true, decide_eq_true_eq, hN4, hF4] at hin
                      omega
                    have hO : q4.O (n % f) = true := by rw [Bool.and_eq_true] at hin; exact hin.2
                    have hPn := HP4.out.P n hlt4 hwin
                    have hC : ∀ j (hj : j < ca4.length), ca4[j] ≠ (n : Int) := fun j hj e => by
                      have := HP4.out.C n (e ▸ List.getElem_mem hj) hwin
                      rw [hO] at this; cases this
                    rw [hPn] at T
                    obtain ⟨adp, rfl, zp⟩ := (own_reads_of' (enc := Value.string) (d := ByteArray.empty) hFew4.rp).2.2 (by omega)
                    replace zp := zp n hlt4
                    rw [show pu4.getD n ByteArray.empty = pu4[n] from by rw [List.getD_eq_getElem?_getD, List.getElem?_eq_getElem hlt4]; rfl] at zp
                    generalize pu4[n] = tx at zp T
                    have HC := Lib.hid hC
                    clear hC hPn hO hin
                    go_wp2_with fail
                    refine T.mono ?_
                    rintro e w5 ⟨rfl, k5, rfl⟩
                    clear T
                    obtain ⟨w6, hw6⟩ : ∃ w6 : World, w6 = w4.drewN (k + k5) := ⟨_, rfl⟩
                    have hcm := own_reads' hFew4.rc
                    go_wp2
                    go_loopg [16] ca4.length (fun gk x W => ∃ (m k6 : Nat), m ≤ ca4.length ∧ gk = ca4.length - m ∧ x = .int .i64 m ∧ W = w4.drewN k6)
                    case atStart => exact ⟨0, _, by omega, by omega, rfl, rfl⟩
                    case round =>
                      obtain ⟨m, k6, hm, rfl, rfl, rfl⟩ := hrel
                      by_cases hltm : m < ca4.length
                      · obtain ⟨adc, rfl, zc⟩ := hcm.2.2 (by omega)
                        replace zc := zc m hltm
                        rw [show ca4.getD m 0 = ca4[m] from by rw [List.getD_eq_getElem?_getD, List.getElem?_eq_getElem hltm]; rfl] at zc
                        have hne := HC.out m hltm
                        generalize ca4[m] = cm at zc hne
                        have hnb : (cm == (n : Int)) = false := beq_eq_false_iff_ne.2 hne
                        go_wp2
                        go_roundg (ca4.length - (m + 1))
                        case measure => omega
                        case rel => exact ⟨m + 1, _, by omega, rfl, by go_num, rfl⟩
                      · have b1 : decide ((n : Int) < pu4.length - f) = false := decide_eq_false (by omega)
                        go_wp2
                        go_roundg (pu4.length - (n + 1))
                        case measure => omega
                        case rel => exact ⟨n + 1, oc + 1, _, by omega, rfl, by go_num, by go_num, by omega, rfl⟩
                · have TL := fun k => len_any w1.heap.size q4 (w4.drewN k) hFew4.at_
                  have hmin : min q4.N q4.F ≤ f := by omega
                  generalize min q4.N q4.F = mn at hmin TL
                  go_wp2_with fail
                  refine (TL _).mono ?_
                  rintro e w6 ⟨rfl, k6, rfl⟩
                  go_wp2
                  go_roundg (acts.length - (i + 1))
                  case measure => omega
                  case rel => exact ⟨i + 1, q4, pu4, ca4, by omega, rfl, by go_num, hFew4.drew _, HP4.out, hpl4, hcl4, bdn hb4 _⟩
            · have b2 : decide ((s.size : Int) ≤ 512) = false := decide_eq_false (by omega)
              have b1 : (kd == 1) = false := beq_eq_false_iff_ne.2 h1
              clear h1 h2
              obtain ⟨w4, rfl⟩ : ∃ w4, w4 = wr := ⟨_, rfl⟩
              obtain ⟨q4, rfl⟩ : ∃ q4, q4 = q := ⟨_, rfl⟩
              obtain ⟨pu4, rfl⟩ : ∃ q4, q4 = pu := ⟨_, rfl⟩
              obtain ⟨ca4, rfl⟩ : ∃ q4, q4 = ca := ⟨_, rfl⟩
              have hFew4 := hFew
              have HP4 := Lib.hid hP
              have hpl4 : pu4.length ≤ i + 1 := by omega
              have hcl4 : ca4.length ≤ i + 1 := by omega
              have hb4 := hbw
              clear hFew hP hok hbw y1
              have hok4 := HP4.out.ok (by omega) (by omega) (by omega)
              have hN4 := HP4.out.N
              have hF4 := HP4.out.F
              go_wp2
              go_loopg [12, 13] pu4.length (fun gk xo x W => ∃ n oc k : Nat, n ≤ pu4.length ∧ gk = pu4.length - n ∧ x = .int .i64 n ∧ xo = .int .i64 oc ∧ oc ≤ n - (pu4.length - f) ∧ W = w4.drewN k)
              case atStart => exact ⟨0, 0, 0, by omega, by omega, rfl, rfl, by omega, rfl⟩
              case round =>
                obtain ⟨n, oc, k, hn, rfl, rfl, rfl, hoc, rfl⟩ := hrel
                by_cases hlt4 : n < pu4.length
                · have T := open_any w1.heap.size q4 n (w4.drewN k) hFew4.at_ hok4
                  have e1 : ((n : Int).toNat % q4.F) = n % f := by rw [hF4]; rfl
                  rw [e1] at T
                  cases hin : (inWin q4 n && q4.O (n % f)) with
                  | false =>
                    rw [hin] at T
                    simp only [Bool.false_eq_true, if_false] at T
                    go_wp2_with fail
                    refine T.mono ?_
                    rintro e w5 ⟨rfl, k5, rfl⟩
                    go_wp2
                    go_roundg (pu4.length - (n + 1))
                    case measure => omega
                    case rel => exact ⟨n + 1, oc, _, by omega, rfl, by go_num, rfl, by omega, rfl⟩
                  | true =>
                    rw [hin] at T
                    simp only [if_true] at T
                    have hwin : pu4.length ≤ n + f := by
                      simp only [inWin, Bool.and_eq_true, decide_eq_true_eq, hN4, hF4] at hin
                      omega
                    have hO : q4.O (n % f) = true := by rw [Bool.and_eq_true] at hin; exact hin.2
                    have hPn := HP4.out.P n hlt4 hwin
                    have hC : ∀ j (hj : j < ca4.length), ca4[j] ≠ (n : Int) := fun j hj e => by
                      have := HP4.out.C n (e ▸ List.getElem_mem hj) hwin
                      rw [hO] at this; cases this
                    rw [hPn] at T
                    obtain ⟨adp, rfl, zp⟩ := (own_reads_of' (enc := Value.string) (d := ByteArray.empty) hFew4.rp).2.2 (by omega)
                    replace zp := zp n hlt4
                    rw [show pu4.getD n ByteArray.empty = pu4[n] from by rw [List.getD_eq_getElem?_getD, List.getElem?_eq_getElem hlt4]; rfl] at zp
                    generalize pu4[n] = tx at zp T
                    have HC := Lib.hid hC
                    clear hC hPn hO hin
                    go_wp2_with fail
                    refine T.mono ?_
                    rintro e w5 ⟨rfl, k5, rfl⟩
                    clear T
                    obtain ⟨w6, hw6⟩ : ∃ w6 : World, w6 = w4.drewN (k + k5) := ⟨_, rfl⟩
                    have hcm := own_reads' hFew4.rc
                    go_wp2
                    go_loopg [16] ca4.length (fun gk x W => ∃ (m k6 : Nat), m ≤ ca4.length ∧ gk = ca4.length - m ∧ x = .int .i64 m ∧ W = w4.drewN k6)
                    case atStart => exact ⟨0, _, by omega, by omega, rfl, rfl⟩
                    case round =>
                      obtain ⟨m, k6, hm, rfl, rfl, rfl⟩ := hrel
                      by_cases hltm : m < ca4.length
                      · obtain ⟨adc, rfl, zc⟩ := hcm.2.2 (by omega)
                        replace zc := zc m hltm
                        rw [show ca4.getD m 0 = ca4[m] from by rw [List.getD_eq_getElem?_getD, List.getElem?_eq_getElem hltm]; rfl] at zc
                        have hne := HC.out m hltm
                        generalize ca4[m] = cm at zc hne
                        have hnb : (cm == (n : Int)) = false := beq_eq_false_iff_ne.2 hne
                        go_wp2
                        go_roundg (ca4.length - (m + 1))
                        case measure => omega
                        case rel => exact ⟨m + 1, _, by omega, rfl, by go_num, rfl⟩
                      · have b1 : decide ((n : Int) < pu4.length - f) = false := decide_eq_false (by omega)
                        go_wp2
                        go_roundg (pu4.length - (n + 1))
                        case measure => omega
                        case rel => exact ⟨n + 1, oc + 1, _, by omega, rfl, by go_num, by go_num, by omega, rfl⟩
                · have TL := fun k => len_any w1.heap.size q4 (w4.drewN k) hFew4.at_
                  have hmin : min q4.N q4.F ≤ f := by omega
                  generalize min q4.N q4.F = mn at hmin TL
                  go_wp2_with fail
                  refine (TL _).mono ?_
                  rintro e w6 ⟨rfl, k6, rfl⟩
                  go_wp2
                  go_roundg (acts.length - (i + 1))
                  case measure => omega
                  case rel => exact ⟨i + 1, q4, pu4, ca4, by omega, rfl, by go_num, hFew4.drew _, HP4.out, hpl4, hcl4, bdn hb4 _⟩
        · go_wp2
          go_ret
          exact ⟨rfl, hbw⟩
    · go_wp2
      go_ret
      exact ⟨rfl, hb2⟩
  · go_wp2_with fail
    refine (new_no F (by omega) _).mono ?_
    rintro e w2 ⟨rfl, rfl⟩
    go_wp2
    go_ret
    exact ⟨rfl, hb1⟩
end Go.Proofs.Ytidfahjebjaneaa.Que
