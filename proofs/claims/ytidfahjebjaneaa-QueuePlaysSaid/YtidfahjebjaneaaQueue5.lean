/- The walks of the document's queue: Open and Came. -/
import Derived.Test.YtidfahjebjaneaaQueue4
set_option linter.unusedVariables false
set_option linter.unusedSimpArgs false
namespace Go.Proofs.Ytidfahjebjaneaa.Que
open Go.RowKit Go.Proofs.YtidfahjebjaneaaW.PrintWords Go.Proofs.YtidfahjebjaneaaW.PrintLast Go.Proofs.YtidfahjebjaneaaW.PrintMore

theorem RAt.drew {W : World} {m F N : Nat} {A : Option Addr} {c : Nat} {os : List OneV} (h : RAt W m F N A c os) (n : Nat) : RAt (W.drewN n) m F N A c os := ⟨h.at_, h.le, h.cs⟩

theorem cset (w : World) (a : Addr) (u v : Value) (h : w.cell? a = some u) : (w.setCell a v).cell? a = some v := World.cell?_setCell_same _ _ _ h
theorem cother (w : World) (a b : Addr) (v : Value) (h : a ≠ b) : (w.setCell a v).cell? b = w.cell? b := World.cell?_setCell_other _ _ _ _ h

set_option maxRecDepth 100000 in
set_option maxHeartbeats 1000000 in
theorem ropen_miss (m F N : Nat) (A : Option Addr) (c : Nat) (os : List OneV) (lo : Nat) (x : Int) (w : World) (h : RAt w m F N A c os) (hlo : ∀ i (h : i < os.length), os[i].1 = ((lo + i : Nat) : Int)) (hn : os.length ≤ 8) (hx : ¬ ((lo : Int) ≤ x ∧ x < (lo + os.length : Nat))) :
    Calls Try.prog 34 #[.pointer (some ⟨m, 0, none⟩), .int .i64 x] w fun e w' => e = .returned (.tuple #[.string ⟨#[]⟩, .bool false]) ∧ ∃ k, w' = w.drewN k := by
  have T := find_any m F N A c os lo x w h hlo hn
  rw [if_neg hx] at T
  clear hx hlo h
  go_enter Try.func34, Try.ntmps34
  go_wp2_with fail
  refine T.mono ?_
  rintro e w1 ⟨rfl, k1, rfl⟩
  go_wp2_with fail
  go_ret2
  exact ⟨rfl, _, rfl⟩

set_option maxRecDepth 100000 in
set_option maxHeartbeats 1000000 in
theorem ropen_hit (m F N : Nat) (A : Option Addr) (c : Nat) (os : List OneV) (lo i : Nat) (w : World) (h : RAt w m F N A c os) (hlo : ∀ i (h : i < os.length), os[i].1 = ((lo + i : Nat) : Int)) (hn : os.length ≤ 8) (hi : i < os.length) (p : ByteArray) (b : Bool) (hp : os[i].2 = (p, b)) :
    Calls Try.prog 34 #[.pointer (some ⟨m, 0, none⟩), .int .i64 ((lo + i : Nat) : Int)] w fun e w' => e = .returned (.tuple #[.string (if b then p else ⟨#[]⟩), .bool b]) ∧ ∃ k, w' = w.drewN k := by
  have T := find_any m F N A c os lo ((lo + i : Nat) : Int) w h hlo hn
  rw [if_pos (by omega), show ((lo + i : Nat) : Int) - lo = i by omega] at T
  obtain ⟨g, o, rfl, -, -, hc⟩ := h.cs (by omega)
  obtain ⟨-, z1, z2⟩ := ocs_at os i hi
  rw [hp] at z1 z2
  have y1 := (hc _ _ z1).1
  have y2 := (hc _ _ z2).1
  have c2 := h.c2
  simp only at y1 y2
  rw [← Nat.add_assoc] at y1 y2
  obtain ⟨n, hn'⟩ : ∃ n, n = os.length := ⟨_, rfl⟩
  have hi0 : i < n := by omega
  rw [← hn'] at c2
  clear hlo h hc z1 z2 hp hn hn' hi
  cases b with
  | true =>
    go_enter Try.func34, Try.ntmps34
    go_wp2_with fail
    refine T.mono ?_
    rintro e w1 ⟨rfl, k1, rfl⟩
    go_wp2_with fail
    go_ret2
    exact ⟨rfl, _, rfl⟩
  | false =>
    go_enter Try.func34, Try.ntmps34
    go_wp2_with fail
    refine T.mono ?_
    rintro e w1 ⟨rfl, k1, rfl⟩
    go_wp2_with fail
    go_ret2
    exact ⟨rfl, _, rfl⟩

set_option maxRecDepth 100000 in
set_option maxHeartbeats 1000000 in
theorem rcame_miss (m F N : Nat) (A : Option Addr) (c : Nat) (os : List OneV) (lo : Nat) (x : Int) (w : World) (h : RAt w m F N A c os) (hlo : ∀ i (h : i < os.length), os[i].1 = ((lo + i : Nat) : Int)) (hn : os.length ≤ 8) (hx : ¬ ((lo : Int) ≤ x ∧ x < (lo + os.length : Nat))) :
    Calls Try.prog 30 #[.pointer (some ⟨m, 0, none⟩), .int .i64 x] w fun e w' => e = .returned (.int .i64 271) ∧ ∃ k, w' = w.drewN k := by
  have T := find_any m F N A c os lo x w h hlo hn
  rw [if_neg hx] at T
  clear hx hlo h
  go_enter Try.func30, Try.ntmps30
  go_wp2_with fail
  refine T.mono ?_
  rintro e w1 ⟨rfl, k1, rfl⟩
  go_wp2_with fail
  go_ret
  exact ⟨rfl, _, rfl⟩

set_option maxRecDepth 100000 in
set_option maxHeartbeats 1000000 in
theorem rcame_hit (m F N : Nat) (A : Option Addr) (c : Nat) (os : List OneV) (lo i : Nat) (w : World) (h : RAt w m F N A c os) (hlo : ∀ i (h : i < os.length), os[i].1 = ((lo + i : Nat) : Int)) (hn : os.length ≤ 8) (hi : i < os.length) :
    Calls Try.prog 30 #[.pointer (some ⟨m, 0, none⟩), .int .i64 ((lo + i : Nat) : Int)] w fun e w' => e = .returned (.int .i64 0) ∧ RAt w' m F N A c (os.set i (os[i].1, os[i].2.1, false)) ∧ Below m w w' := by
  have T := find_any m F N A c os lo ((lo + i : Nat) : Int) w h hlo hn
  rw [if_pos (by omega), show ((lo + i : Nat) : Int) - lo = i by omega] at T
  have c2 := h.c2
  obtain ⟨g, o, rfl, hg, hgl, hc⟩ := h.cs (by omega)
  obtain ⟨-, -, z2⟩ := ocs_at os i hi
  obtain ⟨y2, f2⟩ := hc _ _ z2
  rw [← Nat.add_assoc] at y2 f2
  have hmne : m ≠ g := by omega
  have hfin : ∀ k, RAt ((w.drewN k).setCell ⟨g, o + i * 3 + 2, none⟩ (.bool false)) m F N (some ⟨g, o, none⟩) c (os.set i (os[i].1, os[i].2.1, false)) := by
    intro k
    refine ⟨?_, by rw [List.length_set]; exact h.le, fun _ => ⟨g, o, rfl, hg, by simpa using hgl, fun j u hu => ?_⟩⟩
    · rw [List.length_set]
      exact (RowKit.Below.heap_setCell (w.drewN k) ⟨g, o + i * 3 + 2, none⟩ (.bool false) m hmne).trans h.at_
    · rw [ocs_set os i hi false, List.getElem?_set] at hu
      split at hu
      · rename_i hj
        subst hj
        split at hu
        · injection hu with hu
          subst hu
          rw [← Nat.add_assoc]
          refine ⟨cset (w.drewN k) ⟨g, _, none⟩ _ _ y2, ?_⟩
          rw [World.frozen?_setCell]; exact f2
        · cases hu
      · rename_i hj
        obtain ⟨h1, h2⟩ := hc j u hu
        refine ⟨(cother (w.drewN k) ⟨g, _, none⟩ ⟨g, _, none⟩ _ (fun e => hj (by injection e; omega))).trans h1, ?_⟩
        rw [World.frozen?_setCell]; exact h2
  have HF := Lib.hid hfin
  have hbel : ∀ k, Below m w ((w.drewN k).setCell ⟨g, o + i * 3 + 2, none⟩ (.bool false)) := fun k => (bdn (Below.refl _ _) k).setCell (p := ⟨g, o + i * 3 + 2, none⟩) (by show m ≤ g; omega) _
  have HB := Lib.hid hbel
  obtain ⟨n, hn'⟩ : ∃ n, n = os.length := ⟨_, rfl⟩
  have hi0 : i < n := by omega
  rw [← hn'] at c2
  clear hlo h hc z2 hn hfin hn' hbel hmne
  go_enter Try.func30, Try.ntmps30
  go_wp2_with fail
  refine T.mono ?_
  rintro e w1 ⟨rfl, k1, rfl⟩
  go_wp2_with fail
  go_ret
  exact ⟨rfl, HF.out _, HB.out _⟩
end Go.Proofs.Ytidfahjebjaneaa.Que
