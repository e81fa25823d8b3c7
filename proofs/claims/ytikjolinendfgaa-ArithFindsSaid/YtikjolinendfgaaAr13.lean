/- The document's finder in memory; the walks of its bit, NewFinder (arith). -/
import Derived.Test.YtikjolinendfgaaAr12
import Derived.Test.YtikjolinendfgaaAr9
set_option linter.unusedVariables false
set_option linter.unusedSimpArgs false
namespace Go.Proofs.Ytikjolinendfgaa.Ari
open Go.RowKit Go.Proofs.YtikjolinendfgaaW.PrintWords Go.Proofs.YtikjolinendfgaaW.PrintLast Go.Proofs.YtikjolinendfgaaW.PrintMore Go.Proofs.Ytikjolinendfgaa.Bit

/-- the document's finder at block f -/
structure RF (f : Nat) (A : Option Addr) (c : Nat) (L : List Int) (w0 : World) (lo wd va nx rd : Nat) (W : World) : Prop where
  at_ : W.heap[f]? = some (.cells #[.int .i64 lo, .int .i64 wd, .int .i64 va, .slice A L.length c, .int .i64 nx, .int .i64 rd] 63 (0, 0))
  bits : ReadsInt W .i64 A L.length L
  ne : ∀ ad, A = some ad → ad.block ≠ f
  only : OnlyB f w0 W
/-- the bit at a place -/
def bD (L : List Int) (i : Nat) : Nat := (L.getD i 0).toNat
section
variable {f : Nat} {A : Option Addr} {c : Nat} {L : List Int} {w0 : World} {lo wd va nx rd : Nat} {W : World}
theorem RF.rset (h : RF f A c L w0 lo wd va nx rd W) (o : Nat) (v : Value) : ReadsInt (W.setCell ⟨f, o, none⟩ v) .i64 A L.length L := by
  refine ⟨h.bits.1, h.bits.2.1, fun h0 => ?_⟩
  obtain ⟨ad, e, hc⟩ := h.bits.2.2 h0
  refine ⟨ad, e, fun j hj => ?_⟩
  rw [← hc j hj]
  exact World.cell?_of_block (RowKit.Below.heap_setCell W ⟨f, o, none⟩ v _ (by rw [Bit.add_block]; exact h.ne ad e))
theorem RF.drewN (h : RF f A c L w0 lo wd va nx rd W) (k : Nat) : RF f A c L w0 lo wd va nx rd (W.drewN k) := ⟨h.at_, h.bits, h.ne, h.only.drewN k⟩
theorem RF.drew (h : RF f A c L w0 lo wd va nx rd W) : RF f A c L w0 lo wd va nx rd W.drew := ⟨h.at_, h.bits, h.ne, h.only.drew⟩
theorem RF.s0 (h : RF f A c L w0 lo wd va nx rd W) (x : Nat) : RF f A c L w0 x wd va nx rd (W.setCell ⟨f, 0, none⟩ (.int .i64 (x : Int))) := ⟨(blk_set h.at_ 0 _).trans rfl, h.rset _ _, h.ne, h.only.set 0 _⟩
theorem RF.s1 (h : RF f A c L w0 lo wd va nx rd W) (x : Nat) : RF f A c L w0 lo x va nx rd (W.setCell ⟨f, 1, none⟩ (.int .i64 (x : Int))) := ⟨(blk_set h.at_ 1 _).trans rfl, h.rset _ _, h.ne, h.only.set 1 _⟩
theorem RF.s2 (h : RF f A c L w0 lo wd va nx rd W) (x : Nat) : RF f A c L w0 lo wd x nx rd (W.setCell ⟨f, 2, none⟩ (.int .i64 (x : Int))) := ⟨(blk_set h.at_ 2 _).trans rfl, h.rset _ _, h.ne, h.only.set 2 _⟩
theorem RF.s4 (h : RF f A c L w0 lo wd va nx rd W) (x : Nat) : RF f A c L w0 lo wd va x rd (W.setCell ⟨f, 4, none⟩ (.int .i64 (x : Int))) := ⟨(blk_set h.at_ 4 _).trans rfl, h.rset _ _, h.ne, h.only.set 4 _⟩
theorem RF.s5 (h : RF f A c L w0 lo wd va nx rd W) (x : Nat) : RF f A c L w0 lo wd va nx x (W.setCell ⟨f, 5, none⟩ (.int .i64 (x : Int))) := ⟨(blk_set h.at_ 5 _).trans rfl, h.rset _ _, h.ne, h.only.set 5 _⟩
end
theorem bD_le {L : List Int} (h : ∀ x ∈ L, 0 ≤ x ∧ x ≤ 1) (i : Nat) : bD L i ≤ 1 := by
  unfold bD
  rcases Nat.lt_or_ge i L.length with hi | hi
  · rw [List.getD_eq_getElem?_getD, List.getElem?_eq_getElem hi]
    have := h _ (List.getElem_mem hi)
    simp only [Option.getD_some]
    omega
  · rw [List.getD_eq_getElem?_getD, List.getElem?_eq_none hi]
    decide
set_option maxRecDepth 100000 in
set_option maxHeartbeats 1000000 in
theorem rbit_any (f : Nat) (A : Option Addr) (c : Nat) (L : List Int) (w0 : World) (lo wd va nx rc : Nat) (w : World) (h : RF f A c L w0 lo wd va nx rc w) (hL : ∀ x ∈ L, 0 ≤ x ∧ x ≤ 1) (h1 : nx ≤ 100000000) (h2 : rc ≤ 100000000) :
    Calls Try.prog 50 #[.pointer (some ⟨f, 0, none⟩)] w fun e w' => e = .returned (.int .i64 (bD L nx)) ∧ RF f A c L w0 lo wd va (nx + 1) (rc + 1) w' := by
  have c3 : w.cell? ⟨f, 3, none⟩ = some (.slice A L.length c) := (blk_cell h.at_ 3).trans rfl
  have c4 : w.cell? ⟨f, 4, none⟩ = some (.int .i64 nx) := (blk_cell h.at_ 4).trans rfl
  have c5 : w.cell? ⟨f, 5, none⟩ = some (.int .i64 rc) := (blk_cell h.at_ 5).trans rfl
  have f4 : w.frozen? ⟨f, 4, none⟩ = false := blk_frozen h.at_ 4
  have f5 : w.frozen? ⟨f, 5, none⟩ = false := blk_frozen h.at_ 5
  have HF : Hid (∀ k, RF f A c L w0 lo wd va (nx + 1) (rc + 1) (((w.drewN k).setCell ⟨f, 4, none⟩ (.int .i64 ((nx : Int) + 1))).setCell ⟨f, 5, none⟩ (.int .i64 ((rc : Int) + 1)))) := fun k => ((h.drewN k).s4 (nx + 1)).s5 (rc + 1)
  rcases Nat.lt_or_ge nx L.length with hlt | hge
  · obtain ⟨ad, rfl, y⟩ := h.bits.at_ (nx : Int) (by omega) (by omega)
    rw [Int.toNat_natCast] at y
    have e : rd L (nx : Int) = (bD L nx : Int) := by
      unfold bD
      have := hL _ (List.getElem_mem hlt)
      rw [rd_mem L nx hlt, List.getD_eq_getElem?_getD, List.getElem?_eq_getElem hlt]
      simp only [Option.getD_some]
      omega
    rw [e] at y
    clear h hL e
    generalize bD L nx = bb at y
    go_enter Try.func50, Try.ntmps50
    go_wp2
    go_quiet (fail)
    go_wp2
    go_quiet (fail)
    go_wp2
    go_ret
    exact ⟨rfl, HF.out _⟩
  · have e : bD L nx = 0 := by unfold bD; rw [List.getD_eq_getElem?_getD, List.getElem?_eq_none hge]; rfl
    rw [e]
    clear h hL e
    go_enter Try.func50, Try.ntmps50
    go_wp2
    go_quiet (fail)
    go_wp2
    go_ret
    exact ⟨rfl, HF.out _⟩
set_option maxRecDepth 100000 in
set_option maxHeartbeats 2000000 in
theorem rnewFinder_any (A : Option Addr) (c : Nat) (L : List Int) (x : Int) (nx : Nat) (hx : x = nx) (h4 : nx ≤ 1048576) (w : World) (hb : ReadsInt w .i64 A L.length L) (hne : ∀ ad, A = some ad → ad.block < w.heap.size) (hL : ∀ x ∈ L, 0 ≤ x ∧ x ≤ 1) :
    Calls Try.prog 26 #[.slice A L.length c, .int .i64 x] w fun e w' => e = .returned (.pointer (some ⟨w.heap.size, 0, none⟩)) ∧ RF w.heap.size A c L w 0 65536 (vN (bD L) nx 16) (nx + 16) 16 w' ∧ w.heap.size < w'.heap.size := by
  subst hx
  have HF0 : Hid (∀ o, o = Obj.cells #[.int .i64 0, .int .i64 65536, .int .i64 0, .slice A L.length c, .int .i64 nx, .int .i64 0] 63 → RF w.heap.size A c L w 0 65536 0 nx 0 (w.alloc o)) := fun o ho => ⟨by rw [heap_alloc_new, ho]; rfl, hb.below (ba (br w) o), fun ad e => by have := hne ad e; omega, World.grownBy_alloc w _ _⟩
  have HLT := Lib.hid (vN_lt (fr := nx) (bD_le hL))
  have HL := Lib.hid hL
  clear hb hne hL
  generalize hn : L.length = nb at HF0
  have HNB := Lib.hid hn
  clear hn
  go_enter Try.func26, Try.ntmps26
  go_wp2
  go_loopg [6] 16 (fun gk x W => ∃ (i : Nat), i ≤ 16 ∧ gk = 16 - i ∧ x = .int .i64 i ∧ Hid (RF w.heap.size A c L w 0 65536 (vN (bD L) nx i) (nx + i) i W))
  case atStart =>
    exact ⟨0, by omega, rfl, rfl, HF0.out _ rfl⟩
  case round =>
    obtain ⟨i, hi, rfl, rfl, HF⟩ := hrel
    have c2 : wr.cell? ⟨w.heap.size, 2, none⟩ = some (.int .i64 (vN (bD L) nx i)) := (blk_cell HF.out.at_ 2).trans rfl
    by_cases hlt : i < 16
    · have hb := bD_le HL.out (nx + i)
      have hp : 2 ^ i ≤ 2 ^ 16 := Nat.pow_le_pow_right (show 0 < 2 by decide) (show i ≤ 16 by omega)
      have hv : vN (bD L) nx i < 65536 := Nat.lt_of_lt_of_le (HLT.out i) hp
      have T := Lib.hid (rbit_any w.heap.size A c L w 0 65536 (vN (bD L) nx i) (nx + i) i wr.drew HF.out.drew HL.out (by omega) (by omega))
      have HS : Hid (vN (bD L) nx (i + 1) = 2 * vN (bD L) nx i + bD L (nx + i)) := rfl
      generalize bD L (nx + i) = bb at T hb HS
      generalize vN (bD L) nx i = va at T hv HS c2
      go_wp2
      go_region_with (first
          | (go_at_call 50; refine T.out.mono ?_; rintro e w3 ⟨rfl, h3⟩; have hs3 : w.heap.size < w3.heap.size := blk_lt h3.at_; have c2' : w3.cell? ⟨w.heap.size, 2, none⟩ = some (.int .i64 va) := (blk_cell h3.at_ 2).trans rfl; have f2 : w3.frozen? ⟨w.heap.size, 2, none⟩ = false := blk_frozen h3.at_ 2)
          | fail)
      all_goals
        go_wp2
        go_roundg (16 - (i + 1))
        case measure => omega
        case rel =>
          refine ⟨i + 1, by omega, rfl, by go_num, ?_⟩
          rw [HS.out, show (va : Int) * 2 + (bb : Int) = ((2 * va + bb : Nat) : Int) from by omega]
          exact h3.s2 _
    · obtain rfl : i = 16 := by omega
      go_wp2
      go_ret
      exact ⟨rfl, HF.out, blk_lt HF.out.at_⟩
end Go.Proofs.Ytikjolinendfgaa.Ari
