/- file.Parse: the deferred closure recovers a reader's fault. Written by this session. -/
import Derived.Test.YtdgifgdadminbaaDoorRp
import Derived.Tactics2
import Derived.Defers
import Derived.Recover
import Derived.Laws.Pointers
set_option linter.unusedSimpArgs false
set_option linter.unusedVariables false
set_option maxRecDepth 100000
namespace Go.Proofs.YtdgifgdadminbaaDoor
open Go.RowKit Go.Proofs.YtdgifgdadminbaaDoorW.PrintWords Sp
open PFileParses (wrap_id ba_len toList_data info3 info2 info9)

/-- The three results are laid, and below them nothing has turned. -/
structure Laid (b1 b2 b3 : Nat) (l er : Int) (w w' : World) : Prop where
  a : w'.heap[b1]? = some Z27
  b : w'.heap[b2]? = some (.cells #[.int .i64 l] 3 (0, 0))
  c : w'.heap[b3]? = some (.cells #[.int .i64 er] 28 (0, 0))
  d : ∀ B, B ≤ w.heap.size → B ≤ b1 → B ≤ b2 → B ≤ b3 → Below B w w'
theorem set_other {w : World} {b k : Nat} {v : Value} {i : Nat} (h : i ≠ b) : (w.setCell ⟨b, k, none⟩ v).heap[i]? = w.heap[i]? := Below.heap_setCell w ⟨b, k, none⟩ v i h
theorem heap_drew (w : World) : w.drew.heap = w.heap := rfl
theorem laid_of {b1 b2 b3 : Nat} {l er : Int} {c1 c2 c3 c4 x y : Value} {W : World} (h1 : W.heap[b1]? = some (.cells #[c1, c2, c3, c4] 27 (0, 0))) (h2 : W.heap[b2]? = some (.cells #[x] 3 (0, 0)))
    (h3 : W.heap[b3]? = some (.cells #[y] 28 (0, 0))) (h12 : b1 ≠ b2) (h13 : b1 ≠ b3) (h23 : b2 ≠ b3) :
    Laid b1 b2 b3 l er W ((((((W.setCell ⟨b1, 0, none⟩ (.slice none 0 0)).setCell ⟨b1, 1, none⟩ (.slice none 0 0)).setCell ⟨b1, 2, none⟩ (.slice none 0 0)).setCell ⟨b1, 3, none⟩ (.int .i64 0)).setCell ⟨b2, 0, none⟩ (.int .i64 l)).setCell ⟨b3, 0, none⟩ (.int .i64 er)).drew := by
  refine ⟨?_, ?_, ?_, ?_⟩
  · rw [heap_drew, set_other h13, set_other h12]
    exact setCell_blk (setCell_blk (setCell_blk (setCell_blk h1 0 _) 1 _) 2 _) 3 _
  · rw [heap_drew, set_other h23]
    refine setCell_blk (cs := #[x]) ?_ 0 _
    rw [set_other h12.symm, set_other h12.symm, set_other h12.symm, set_other h12.symm]
    exact h2
  · rw [heap_drew]
    refine setCell_blk (cs := #[y]) ?_ 0 _
    rw [set_other h23.symm, set_other h13.symm, set_other h13.symm, set_other h13.symm, set_other h13.symm]
    exact h3
  · intro B _ hB1 hB2 hB3
    exact (((((((Below.refl B W).setCell (p := ⟨b1, 0, none⟩) hB1 _).setCell (p := ⟨b1, 1, none⟩) hB1 _).setCell (p := ⟨b1, 2, none⟩) hB1 _).setCell (p := ⟨b1, 3, none⟩) hB1 _).setCell (p := ⟨b2, 0, none⟩) hB2 _).setCell (p := ⟨b3, 0, none⟩) hB3 _).drew

set_option maxHeartbeats 4000000 in
theorem catch_fault (b1 b2 b3 : Nat) (l er : Int) (c1 c2 c3 c4 x y : Value) (older : List PanicEntry) (w : World) (h1 : w.heap[b1]? = some (.cells #[c1, c2, c3, c4] 27 (0, 0))) (h2 : w.heap[b2]? = some (.cells #[x] 3 (0, 0)))
    (h3 : w.heap[b3]? = some (.cells #[y] 28 (0, 0))) (h12 : b1 ≠ b2) (h13 : b1 ≠ b3) (h23 : b2 ≠ b3) :
    CallsD Tryd.prog 32 #[.pointer (some ⟨b1, 0, none⟩), .pointer (some ⟨b2, 0, none⟩), .pointer (some ⟨b3, 0, none⟩)] (.panicking ({ v := faultV l er, recovered := false } :: older)) w fun e u' w' =>
      e = .returned (.tuple #[]) ∧ u' = .panicking ({ v := faultV l er, recovered := true } :: older) ∧ Laid b1 b2 b3 l er w w' := by
  unfold faultV
  have hta : ∀ (w : World), (Instr.typeAssert (.iface 70 (.agg #[.int .i64 l, .int .i64 er])) 20 70 true).run Tryd.prog w = .ok (.tuple #[.agg #[.int .i64 l, .int .i64 er], .bool true]) w := fun _ => by
    kernel_rfl
  have hfr : ∀ a b c d : Value, (#[a, b, c] ++ (((Array.replicate 18 undef).setIfInBounds 3 d).setIfInBounds 0 d)) = #[a, b, c, d, undef, undef, d, undef, undef, undef, undef, undef, undef, undef, undef, undef, undef, undef, undef, undef, undef] := fun _ _ _ _ => by simp [Array.replicate]
  refine callsD_of_wpS Tryd.func32 rfl fun c₀ cs hu => ?_
  apply wpS_seq
  apply wpS_region
  simp [wpOpsS, go_sem, recoverD, hu, Tryd.ntmps32, Exit.thenS]
  refine wpS_of_wp ?_
  rw [hfr]
  have l1 : b1 < w.heap.size := by
    rcases Nat.lt_or_ge b1 w.heap.size with g | g
    · exact g
    · rw [Array.getElem?_eq_none g] at h1; cases h1
  have l2 : b2 < w.heap.size := by
    rcases Nat.lt_or_ge b2 w.heap.size with g | g
    · exact g
    · rw [Array.getElem?_eq_none g] at h2; cases h2
  have l3 : b3 < w.heap.size := by
    rcases Nat.lt_or_ge b3 w.heap.size with g | g
    · exact g
    · rw [Array.getElem?_eq_none g] at h3; cases h3
  obtain ⟨W, hW⟩ : ∃ W, W = w.alloc (.cells #[.int .i64 l, .int .i64 er] 70) := ⟨_, rfl⟩
  have hbW : Below w.heap.size w W := by rw [hW]; exact (Below.refl _ _).alloc (Nat.le_refl _) _
  have hn : W.heap[w.heap.size]? = some (.cells #[.int .i64 l, .int .i64 er] 70 (0, 0)) := by rw [hW]; exact heap_alloc_new w _
  have g1 := (hbW.block b1 l1).trans h1
  have g2 := (hbW.block b2 l2).trans h2
  have g3 := (hbW.block b3 l3).trans h3
  have HW := Lib.hid hW
  have G1 := Lib.hid g1
  have G2 := Lib.hid g2
  have G3 := Lib.hid g3
  have HBW := Lib.hid hbW
  have n0 := cell_of_heap hn 0 rfl
  have n1 := cell_of_heap hn 1 rfl
  have p0 := cell_of_heap g1 0 rfl
  have p1 := cell_of_heap g1 1 rfl
  have p2 := cell_of_heap g1 2 rfl
  have p3 := cell_of_heap g1 3 rfl
  have q0 := cell_of_heap g2 0 rfl
  have r0 := cell_of_heap g3 0 rfl
  have zp0 := frozen_of_heap g1 0
  have zp1 := frozen_of_heap g1 1
  have zp2 := frozen_of_heap g1 2
  have zp3 := frozen_of_heap g1 3
  have zq0 := frozen_of_heap g2 0
  have zr0 := frozen_of_heap g3 0
  clear h1 h2 h3 hW hbW hn g1 g2 g3
  go_upto_region 3 with fail
  rw [← HW.out]
  go_region
  have HL := laid_of (l := l) (er := er) G1.out G2.out G3.out h12 h13 h23
  refine ⟨rfl, _, rfl, _, by simp [results, Tryd.results32, go_sem], rfl, rfl, HL.a, HL.b, HL.c, fun B h0 h1 h2 h3 => (HBW.out.mono h0).trans (HL.d B (Nat.le_trans h0 HBW.out.size) h1 h2 h3)⟩

set_option maxHeartbeats 4000000 in
theorem catch_idle (b1 b2 b3 : Nat) (w : World) :
    CallsD Tryd.prog 32 #[.pointer (some ⟨b1, 0, none⟩), .pointer (some ⟨b2, 0, none⟩), .pointer (some ⟨b3, 0, none⟩)] .returning w fun e u' w' =>
      e = .returned (.tuple #[]) ∧ u' = .returning ∧ Below w.heap.size w w' := by
  have hta : ∀ (w : World), (Instr.typeAssert .nilIface 20 70 true).run Tryd.prog w = .ok (.tuple #[.agg #[.int .i64 0, .int .i64 0], .bool false]) w := fun _ => by
    kernel_rfl
  have hfr : ∀ a b c d : Value, (#[a, b, c] ++ (((Array.replicate 18 undef).setIfInBounds 3 d).setIfInBounds 0 d)) = #[a, b, c, d, undef, undef, d, undef, undef, undef, undef, undef, undef, undef, undef, undef, undef, undef, undef, undef, undef] := fun _ _ _ _ => by simp [Array.replicate]
  refine callsD_of_wpS Tryd.func32 rfl fun c₀ cs hu => ?_
  apply wpS_seq
  apply wpS_region
  simp [wpOpsS, go_sem, recoverD, hu, Tryd.ntmps32, Exit.thenS]
  refine wpS_of_wp ?_
  rw [hfr]
  go_wp2_with fail
  refine ⟨rfl, .returning, ?_, _, by simp [results, Tryd.results32, go_sem], rfl, rfl, (Below.refl _ _).alloc (Nat.le_refl _) _⟩
  cases c₀
  simp_all
end Go.Proofs.YtdgifgdadminbaaDoor
