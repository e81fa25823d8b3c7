/- What the queue's block holds and what the document's list holds: the same. -/
import Derived.Test.YtidfahjebjaneaaQueue5
set_option linter.unusedVariables false
set_option linter.unusedSimpArgs false
namespace Go.Proofs.Ytidfahjebjaneaa.Que
open Go.RowKit Go.Proofs.YtidfahjebjaneaaW.PrintWords Go.Proofs.YtidfahjebjaneaaW.PrintLast Go.Proofs.YtidfahjebjaneaaW.PrintMore

def lo (q : Q) : Nat := q.N - q.F
def win (q : Q) : List OneV := (List.range (min q.N q.F)).map fun i => (((lo q + i : Nat) : Int), q.P ((lo q + i) % q.F), q.O ((lo q + i) % q.F))
theorem win_length (q : Q) : (win q).length = min q.N q.F := by simp [win]
theorem win_at (q : Q) (i : Nat) (h : i < (win q).length) : (win q)[i] = (((lo q + i : Nat) : Int), q.P ((lo q + i) % q.F), q.O ((lo q + i) % q.F)) := by simp [win]
theorem win_lo (q : Q) : ∀ i (h : i < (win q).length), (win q)[i].1 = ((lo q + i : Nat) : Int) := fun i h => by rw [win_at]
theorem win_in (q : Q) (x : Int) : inWin q x = decide ((lo q : Int) ≤ x ∧ x < (lo q + (win q).length : Nat)) := by
  rw [win_length]
  unfold inWin lo
  rw [Bool.eq_iff_iff]
  simp only [Bool.and_eq_true, decide_eq_true_eq]
  omega
theorem win_push (q : Q) (s : ByteArray) (hF : 1 ≤ q.F) : rpushed q.F q.N (win q) s = win { (q.setP (q.N % q.F) s).setO (q.N % q.F) true with N := q.N + 1 } := by
  apply List.ext_getElem
  · unfold rpushed
    simp only [win_length]
    split
    · simp [win_length]; show min q.N q.F = min (q.N + 1) q.F; omega
    · simp [win_length]; show min q.N q.F + 1 = min (q.N + 1) q.F; omega
  · intro j h1 h2
    rw [win_at]
    have hl : j < min (q.N + 1) q.F := by rw [win_length] at h2; exact h2
    show _ = (((q.N + 1 - q.F + j : Nat) : Int), (if (q.N + 1 - q.F + j) % q.F = q.N % q.F then s else q.P ((q.N + 1 - q.F + j) % q.F)), (if (q.N + 1 - q.F + j) % q.F = q.N % q.F then true else q.O ((q.N + 1 - q.F + j) % q.F)))
    have key : ∀ (i : Nat) (h : i < (win q ++ [((q.N : Int), s, true)]).length), q.N + 1 - q.F ≤ lo q + i → (win q ++ [((q.N : Int), s, true)])[i] = (((lo q + i : Nat) : Int), (if (lo q + i) % q.F = q.N % q.F then s else q.P ((lo q + i) % q.F)), (if (lo q + i) % q.F = q.N % q.F then true else q.O ((lo q + i) % q.F))) := by
      intro i h hge
      simp only [List.length_append, List.length_singleton, win_length] at h
      by_cases e : i < (win q).length
      · rw [List.getElem_append_left e, win_at]
        rw [win_length] at e
        have : lo q + i < q.N := by unfold lo; omega
        rw [if_neg (mod_ne this (by unfold lo at hge ⊢; omega)), if_neg (mod_ne this (by unfold lo at hge ⊢; omega))]
      · rw [List.getElem_append_right (by omega)]
        rw [win_length] at e
        have hN : lo q + i = q.N := by unfold lo; omega
        rw [hN, if_pos rfl, if_pos rfl]
        simp
    unfold rpushed
    by_cases hc : q.F < (win q).length + 1
    · simp only [if_pos hc, List.getElem_tail]
      rw [win_length] at hc
      rw [key (j + 1) (by simp [win_length]; omega) (by unfold lo; omega), show lo q + (j + 1) = q.N + 1 - q.F + j from by unfold lo; omega]
    · simp only [if_neg hc]
      rw [win_length] at hc
      rw [key j (by simp [win_length]; omega) (by unfold lo; omega), show lo q + j = q.N + 1 - q.F + j from by unfold lo; omega]
theorem win_came (q : Q) (i : Nat) (h : i < (win q).length) (hF : 1 ≤ q.F) : (win q).set i ((win q)[i].1, (win q)[i].2.1, false) = win (q.setO ((lo q + i) % q.F) false) := by
  apply List.ext_getElem
  · rw [List.length_set, win_length, win_length]; rfl
  · intro j h1 h2
    rw [List.length_set] at h1
    rw [List.getElem_set, win_at _ j h2]
    show _ = (((lo q + j : Nat) : Int), q.P ((lo q + j) % q.F), (if (lo q + j) % q.F = (lo q + i) % q.F then false else q.O ((lo q + j) % q.F)))
    rw [win_length] at h h1
    by_cases e : i = j
    · subst e
      rw [if_pos rfl, if_pos rfl, win_at]
    · rw [if_neg e, win_at, if_neg]
      rcases Nat.lt_or_gt_of_ne e with h' | h'
      · exact fun e => mod_ne (f := q.F) (n := lo q + i) (m := lo q + j) (by omega) (by omega) e.symm
      · exact mod_ne (by omega) (by omega)

theorem RAt.real {W W' : World} {m b F N : Nat} {A : Option Addr} {c : Nat} {os : List OneV} (h : RAt W m F N A c os) (hg : W.grownBy W' (some b)) (hb : b < m) : RAt W' m F N A c os := by
  refine ⟨(hg.block m h.lt (fun e => by injection e; omega)).trans h.at_, h.le, fun h0 => ?_⟩
  obtain ⟨g, o, h1, h2, h3, h4⟩ := h.cs h0
  have hh := hg.block g h3 (fun e => by injection e; omega)
  refine ⟨g, o, h1, h2, Nat.lt_of_lt_of_le h3 hg.size, fun j u hu => ?_⟩
  obtain ⟨h5, h6⟩ := h4 j u hu
  exact ⟨by rw [World.cell?_of_block (w := W) hh]; exact h5, by rw [World.frozen?_of_block (w := W) hh]; exact h6⟩
theorem QAt.ref {W W' : World} {m b : Nat} {q : Q} (h : QAt W b q) (hb : Below m W W') (hlt : b < m) : QAt W' b q := (hb.block b hlt).trans h

def openS (q : Q) (x : Int) : ByteArray := if inWin q x && q.O (x.toNat % q.F) then q.P (x.toNat % q.F) else ⟨#[]⟩
def openB (q : Q) (x : Int) : Bool := inWin q x && q.O (x.toNat % q.F)
theorem open_real (b : Nat) (q : Q) (n : Int) (w : World) (h : QAt w b q) (hok : q.ok) :
    Calls Try.prog 33 #[.pointer (some ⟨b, 0, none⟩), .int .i64 n] w fun e w' => e = .returned (.tuple #[.string (openS q n), .bool (openB q n)]) ∧ ∃ k, w' = w.drewN k := open_any b q n w h hok
theorem open_ref (m : Nat) (q : Q) (A : Option Addr) (c : Nat) (x : Int) (w : World) (h : RAt w m q.F q.N A c (win q)) (hok : q.ok) :
    Calls Try.prog 34 #[.pointer (some ⟨m, 0, none⟩), .int .i64 x] w fun e w' => e = .returned (.tuple #[.string (openS q x), .bool (openB q x)]) ∧ ∃ k, w' = w.drewN k := by
  have h8 : (win q).length ≤ 8 := by rw [win_length]; have := hok.2.1; omega
  have hw := win_in q x
  by_cases hx : (lo q : Int) ≤ x ∧ x < (lo q + (win q).length : Nat)
  · rw [decide_eq_true hx] at hw
    obtain ⟨i, rfl⟩ : ∃ i : Nat, x = ((lo q + i : Nat) : Int) := ⟨(x - lo q).toNat, by omega⟩
    have hi : i < (win q).length := by omega
    have T := ropen_hit m q.F q.N A c (win q) (lo q) i w h (win_lo q) h8 hi (q.P ((lo q + i) % q.F)) (q.O ((lo q + i) % q.F)) (by rw [win_at])
    have e1 : openS q ((lo q + i : Nat) : Int) = if q.O ((lo q + i) % q.F) then q.P ((lo q + i) % q.F) else ⟨#[]⟩ := by unfold openS; rw [hw, Bool.true_and]; rfl
    have e2 : openB q ((lo q + i : Nat) : Int) = q.O ((lo q + i) % q.F) := by unfold openB; rw [hw, Bool.true_and]; rfl
    rw [e1, e2]
    exact T
  · rw [decide_eq_false hx] at hw
    have e1 : openS q x = ⟨#[]⟩ := by unfold openS; rw [hw]; rfl
    have e2 : openB q x = false := by unfold openB; rw [hw]; rfl
    rw [e1, e2]
    exact ropen_miss m q.F q.N A c (win q) (lo q) x w h (win_lo q) h8 hx
def cameQ (q : Q) (x : Int) : Q := if inWin q x then q.setO (x.toNat % q.F) false else q
def cameE (q : Q) (x : Int) : Int := if inWin q x then 0 else 271
theorem came_real (b : Nat) (q : Q) (n : Int) (w : World) (h : QAt w b q) (hok : q.ok) :
    Calls Try.prog 29 #[.pointer (some ⟨b, 0, none⟩), .int .i64 n] w fun e w' => e = .returned (.int .i64 (cameE q n)) ∧ QAt w' b (cameQ q n) ∧ w.grownBy w' (some b) := came_any b q n w h hok
theorem came_ref (m : Nat) (q : Q) (A : Option Addr) (c : Nat) (x : Int) (w : World) (h : RAt w m q.F q.N A c (win q)) (hok : q.ok) :
    Calls Try.prog 30 #[.pointer (some ⟨m, 0, none⟩), .int .i64 x] w fun e w' => e = .returned (.int .i64 (cameE q x)) ∧ RAt w' m q.F q.N A c (win (cameQ q x)) ∧ Below m w w' := by
  have h8 : (win q).length ≤ 8 := by rw [win_length]; have := hok.2.1; omega
  have hw := win_in q x
  by_cases hx : (lo q : Int) ≤ x ∧ x < (lo q + (win q).length : Nat)
  · rw [decide_eq_true hx] at hw
    obtain ⟨i, rfl⟩ : ∃ i : Nat, x = ((lo q + i : Nat) : Int) := ⟨(x - lo q).toNat, by omega⟩
    have hi : i < (win q).length := by omega
    have T := rcame_hit m q.F q.N A c (win q) (lo q) i w h (win_lo q) h8 hi
    rw [win_came q i hi hok.1] at T
    unfold cameE cameQ
    rw [hw, if_pos rfl, if_pos rfl]
    exact T
  · rw [decide_eq_false hx] at hw
    unfold cameE cameQ
    rw [hw, if_neg (by decide), if_neg (by decide)]
    refine (rcame_miss m q.F q.N A c (win q) (lo q) x w h (win_lo q) h8 hx).mono ?_
    rintro e w1 ⟨rfl, k, rfl⟩
    exact ⟨rfl, h.drew k, bdn (Below.refl _ _) k⟩
theorem push_ref (m : Nat) (q : Q) (A : Option Addr) (c : Nat) (s : ByteArray) (w : World) (h : RAt w m q.F q.N A c (win q)) (hok : q.ok) (hs : s.size ≤ 512) :
    Calls Try.prog 28 #[.pointer (some ⟨m, 0, none⟩), .string s] w fun e w' => e = .returned (.tuple #[.int .i64 q.N, .int .i64 0]) ∧
      (∃ A' c', RAt w' m q.F (q.N + 1) A' c' (win { (q.setP (q.N % q.F) s).setO (q.N % q.F) true with N := q.N + 1 })) ∧ Below m w w' := by
  have h8 : (win q).length ≤ 8 := by rw [win_length]; have := hok.2.1; omega
  have T := rpush_ok m q.F q.N A c (win q) s w h hs h8 hok.2.2
  rw [win_push q s hok.1] at T
  exact T
end Go.Proofs.Ytidfahjebjaneaa.Que
