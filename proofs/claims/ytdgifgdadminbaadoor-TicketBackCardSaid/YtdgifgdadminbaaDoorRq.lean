/- file.Parse, whole. Written by this session. -/
import Derived.Test.YtdgifgdadminbaaDoorRa
import Derived.Test.YtdgifgdadminbaaDoorS1
set_option linter.unusedSimpArgs false
set_option linter.unusedVariables false
set_option maxRecDepth 100000
namespace Go.Proofs.YtdgifgdadminbaaDoor
open Go.RowKit Go.Proofs.YtdgifgdadminbaaDoorW.PrintWords Sp
open PFileParses (wrap_id ba_len toList_data info3 info2 info9)

theorem bulk_length : ∀ ls : List ByteArray, ls.length ≤ bulk ls
  | [] => Nat.zero_le _
  | l :: ls => by
    have := bulk_length ls
    unfold bulk at this ⊢
    simp only [List.length_cons, List.map_cons, List.sum_cons]
    omega
theorem bulk_mem : ∀ {ls : List ByteArray} {l : ByteArray}, l ∈ ls → l.size ≤ bulk ls
  | x :: ls, l, h => by
    unfold bulk
    simp only [List.map_cons, List.sum_cons]
    rcases List.mem_cons.1 h with rfl | h
    · omega
    · have := bulk_mem h
      unfold bulk at this
      omega
theorem set6 {b1 b2 b3 : Nat} {u1 u2 u3 u4 u5 u6 c1 c2 c3 c4 x y : Value} {W : World} (h1 : W.heap[b1]? = some (.cells #[c1, c2, c3, c4] 27 (0, 0))) (h2 : W.heap[b2]? = some (.cells #[x] 3 (0, 0)))
    (h3 : W.heap[b3]? = some (.cells #[y] 28 (0, 0))) (h12 : b1 ≠ b2) (h13 : b1 ≠ b3) (h23 : b2 ≠ b3) (w' : World) (hw : w' = ((((((W.setCell ⟨b1, 0, none⟩ u1).setCell ⟨b1, 1, none⟩ u2).setCell ⟨b1, 2, none⟩ u3).setCell ⟨b1, 3, none⟩ u4).setCell ⟨b2, 0, none⟩ u5).setCell ⟨b3, 0, none⟩ u6)) :
    w'.heap[b1]? = some (.cells #[u1, u2, u3, u4] 27 (0, 0)) ∧ w'.heap[b2]? = some (.cells #[u5] 3 (0, 0)) ∧ w'.heap[b3]? = some (.cells #[u6] 28 (0, 0)) ∧ w'.heap.size = W.heap.size ∧ (∀ B, B ≤ b1 → B ≤ b2 → B ≤ b3 → Below B W w') ∧
      ∀ (base : Nat) (rv tv lv : Value) (p : Pl), b1 < base → b2 < base → b3 < base → PlanR base rv tv lv p W → PlanR base rv tv lv p w' := by
  subst hw
  refine ⟨?_, ?_, ?_, by simp [World.setCell], ?_, ?_⟩
  · rw [set_other h13, set_other h12]
    exact setCell_blk (setCell_blk (setCell_blk (setCell_blk h1 0 _) 1 _) 2 _) 3 _
  · rw [set_other h23]
    refine setCell_blk (cs := #[x]) ?_ 0 _
    rw [set_other h12.symm, set_other h12.symm, set_other h12.symm, set_other h12.symm]
    exact h2
  · refine setCell_blk (cs := #[y]) ?_ 0 _
    rw [set_other h23.symm, set_other h13.symm, set_other h13.symm, set_other h13.symm, set_other h13.symm]
    exact h3
  · intro B hB1 hB2 hB3
    exact ((((((Below.refl B W).setCell (p := ⟨b1, 0, none⟩) hB1 _).setCell (p := ⟨b1, 1, none⟩) hB1 _).setCell (p := ⟨b1, 2, none⟩) hB1 _).setCell (p := ⟨b1, 3, none⟩) hB1 _).setCell (p := ⟨b2, 0, none⟩) hB2 _).setCell (p := ⟨b3, 0, none⟩) hB3 _
  · intro base rv tv lv p k1 k2 k3 h
    exact (((((h.far (a := ⟨b1, 0, none⟩) k1 _).far (a := ⟨b1, 1, none⟩) k1 _).far (a := ⟨b1, 2, none⟩) k1 _).far (a := ⟨b1, 3, none⟩) k1 _).far (a := ⟨b2, 0, none⟩) k2 _).far (a := ⟨b3, 0, none⟩) k3 _
theorem PlanR.lower {base base' : Nat} {rv tv lv : Value} {p : Pl} {w : World} (h : PlanR base rv tv lv p w) (hb : base' ≤ base) : PlanR base' rv tv lv p w := ⟨R_from h.r hb, R_from h.t hb, R_from h.l hb⟩
def zPl : Value := .agg #[.slice none 0 0, .slice none 0 0, .slice none 0 0, .int .i64 0]
def parseQ (s : ByteArray) (w : World) (e : Ending) (w' : World) : Prop :=
  Below w.heap.size w w' ∧ match parseS s with
  | .error x => e = .returned (.tuple #[zPl, .int .i64 x.1, .int .i64 x.2])
  | .ok p => ∃ rv tv lv, e = .returned (.tuple #[.agg #[rv, tv, lv, .int .i64 p.cost], .int .i64 0, .int .i64 0]) ∧ PlanR w.heap.size rv tv lv p w'

set_option maxHeartbeats 2000000 in
theorem results_parse (tmps : Array Value) (w : World) (g1 g2 g3 : Nat) (v1 v2 v3 v4 : Value) (l er : Int) (h2 : tmps.getD 2 undef = .pointer (some ⟨g1, 0, none⟩)) (h3 : tmps.getD 3 undef = .pointer (some ⟨g2, 0, none⟩)) (h4 : tmps.getD 4 undef = .pointer (some ⟨g3, 0, none⟩))
    (b1 : w.heap[g1]? = some (.cells #[v1, v2, v3, v4] 27 (0, 0))) (b2 : w.heap[g2]? = some (.cells #[.int .i64 l] 3 (0, 0))) (b3 : w.heap[g3]? = some (.cells #[.int .i64 er] 28 (0, 0))) :
    (results Tryd.f12 tmps).run Tryd.prog w = .ok (.tuple #[.agg #[v1, v2, v3, v4], .int .i64 l, .int .i64 er]) w := by
  have h2' : tmps[2]?.getD undef = .pointer (some ⟨g1, 0, none⟩) := by simpa using h2
  have h3' : tmps[3]?.getD undef = .pointer (some ⟨g2, 0, none⟩) := by simpa using h3
  have h4' : tmps[4]?.getD undef = .pointer (some ⟨g3, 0, none⟩) := by simpa using h4
  have a0 : w.cell? ⟨g1, 0, none⟩ = some v1 := cell_of_heap b1 0 rfl
  have a1 : w.cell? ⟨g1, 1, none⟩ = some v2 := cell_of_heap b1 1 rfl
  have a2 : w.cell? ⟨g1, 2, none⟩ = some v3 := cell_of_heap b1 2 rfl
  have a3 : w.cell? ⟨g1, 3, none⟩ = some v4 := cell_of_heap b1 3 rfl
  have c2 : w.cell? ⟨g2, 0, none⟩ = some (.int .i64 l) := cell_of_heap b2 0 rfl
  have c3 : w.cell? ⟨g3, 0, none⟩ = some (.int .i64 er) := cell_of_heap b3 0 rfl
  simp [results, Tryd.results12, h2', h3', h4', asAddr, go_sem, a0, a1, a2, a3, c2, c3, Result.andThen]

set_option maxHeartbeats 4000000 in
theorem parse_c (s : ByteArray) (w : World) (hE : Env w) (hs : s.size < 4294967281) :
    Calls Tryd.prog 12 #[.string s] w fun e w' => parseQ s w e w' := by
  have hmf : ∀ (fn : Fn) (first cap : Array Value) (w : World), (Instr.makeFunc fn first cap).run Tryd.prog w = .ok (.func fn first cap) w := fun _ _ _ _ => rfl
  obtain ⟨W, hW⟩ : ∃ W, W = ((w.alloc Z27).alloc (.cells #[.int .i64 0] 3)).alloc (.cells #[.int .i64 0] 28) := ⟨_, rfl⟩
  have hbW : Below w.heap.size w W := by rw [hW]; exact (((Below.refl _ _).alloc (Nat.le_refl _) _).alloc (by simp) _).alloc (by simp; omega) _
  have hEW := hE.below hbW hE.size
  have hL := lines_walk s W hEW hs
  obtain ⟨ls, er, hls⟩ : ∃ ls er, linesS s = (ls, er) := ⟨_, _, rfl⟩
  rw [hls] at hL
  have HW := Lib.hid hW
  have HBW := Lib.hid hbW
  have HLS := Lib.hid hls
  clear hW hbW hls
  go_enter_defers Tryd.func12, Tryd.ntmps12
  go_wp2_with fail
  rw [show (((w.alloc (.cells #[.slice none 0 0, .slice none 0 0, .slice none 0 0, .int .i64 0] 27)).alloc (.cells #[.int .i64 0] 3)).alloc (.cells #[.int .i64 0] 28)) = W from HW.out.symm]
  have hWs : W.heap.size = w.heap.size + 3 := by rw [HW.out]; simp
  have hW0 : W.heap[w.heap.size]? = some Z27 := by
    rw [HW.out, Below.heap_alloc _ _ _ (by simp; omega), Below.heap_alloc _ _ _ (by simp)]
    exact heap_alloc_new w Z27
  have hW1 : W.heap[w.heap.size + 1]? = some (.cells #[.int .i64 0] 3 (0, 0)) := by
    rw [HW.out, Below.heap_alloc _ _ _ (by simp)]
    have := heap_alloc_new (w.alloc Z27) (.cells #[.int .i64 0] 3)
    simpa using this
  have hW2 : W.heap[w.heap.size + 2]? = some (.cells #[.int .i64 0] 28 (0, 0)) := by
    rw [HW.out]
    have := heap_alloc_new ((w.alloc Z27).alloc (.cells #[.int .i64 0] 3)) (.cells #[.int .i64 0] 28)
    simpa using this
  refine hL.mono ?_
  rintro e w1 ⟨v, rfl, hR, hB1⟩
  obtain ⟨Av, cv, rfl⟩ : ∃ Av cv, v = .slice Av ls.length cv := by
    obtain ⟨A', c', e, _, _⟩ := Kd.R_reads hR
    exact ⟨A', c', e⟩
  obtain ⟨_, hle, hC⟩ := Kd.R_reads' hR
  have h10 := (hB1.block (w.heap.size) (by omega)).trans hW0
  have h11 := (hB1.block (w.heap.size + 1) (by omega)).trans hW1
  have h12 := (hB1.block (w.heap.size + 2) (by omega)).trans hW2
  have c2 := cell_of_heap h12 0 rfl
  have f2 := frozen_of_heap h12 0
  obtain ⟨w2, hw2⟩ : ∃ w2, w2 = w1.setCell ⟨w.heap.size + 2, 0, none⟩ (.int .i64 er) := ⟨_, rfl⟩
  have h20 : w2.heap[w.heap.size]? = some Z27 := by rw [hw2, set_other (by omega)]; exact h10
  have h21 : w2.heap[w.heap.size + 1]? = some (.cells #[.int .i64 0] 3 (0, 0)) := by rw [hw2, set_other (by omega)]; exact h11
  have h22 : w2.heap[w.heap.size + 2]? = some (.cells #[.int .i64 er] 28 (0, 0)) := by rw [hw2]; exact setCell_blk (cs := #[.int .i64 0]) h12 0 _
  have hs2 : w2.heap.size = w1.heap.size := by rw [hw2]; simp [World.setCell]
  have hB2 : Below w.heap.size w w2 := by
    rw [hw2]
    exact (HBW.out.trans (hB1.mono (by omega))).setCell (p := ⟨w.heap.size + 2, 0, none⟩) (by show w.heap.size ≤ w.heap.size + 2; omega) _
  have hC2 : Kd.string.C w2 Av ls.length ls := by
    have h1 := Kd.R_mono (Kd.R_bound hR) (ok' := fun k => W.heap.size ≤ k) (fun k h => h.2.1)
    have h2 := Kd.R_far (p := ⟨w.heap.size + 2, 0, none⟩) h1 (fun k h => by show k ≠ w.heap.size + 2; omega) (.int .i64 er)
    rw [← hw2] at h2
    exact (Kd.R_reads' h2).2.2
  have H20 := Lib.hid h20
  have H21 := Lib.hid h21
  have H22 := Lib.hid h22
  have HB2 := Lib.hid hB2
  have HC2 := Lib.hid hC2
  have HS1 : w.heap.size + 3 ≤ w1.heap.size := by have := hB1.size; omega
  have HS2 : w.heap.size + 3 ≤ w2.heap.size := by omega
  have HW2 := Lib.hid hw2
  clear hW0 hW1 hW2 hWs hR hB1 hle hC h10 h11 h12 h20 h21 h22 hw2 hs2 hB2 hC2 hL
  by_cases he : er = 0
  · subst he
    have hps : parseS s = planS ls := by unfold parseS; rw [HLS.out, if_neg (by simp)]
    have HPS := Lib.hid hps
    have hinv := linesS_inv HLS.out
    have hRd : Rd w2.heap.size Av cv ls 0 (w2.alloc (.cells #[.slice Av ls.length cv, .int .i64 0] 74)) := by
      refine ⟨heap_alloc_new w2 _, ⟨w2, rfl, HC2.out, (Below.refl _ _).alloc (Nat.le_refl _) _⟩, (hE.below HB2.out hE.size).below ((Below.refl w2.heap.size w2).alloc (Nat.le_refl _) _) (by have := hE.size; omega), by have := hE.size; omega, ?_, ?_, by omega, by omega⟩
      · have := bulk_length ls
        omega
      · intro l hl
        have := bulk_mem hl
        omega
    have hP := plan_c w2.heap.size Av cv ls _ hRd
    have HP := Lib.hid hP
    clear hps hinv hRd hP
    go_upto_region 2 with fail
    rw [← HW2.out]
    have r0 := cell_of_heap H22.out 0 rfl
    clear c2 f2
    go_wp2_with fail
    refine HP.out.mono ?_
    cases hpl : planS ls with
    | error x =>
      rintro e w4 ⟨he, hb4⟩
      unfold Fell at he
      subst he
      have HPL := Lib.hid hpl
      have HB4 := Lib.hid hb4
      clear hpl hb4 r0
      have hB24 : Below w2.heap.size w2 w4 := ((Below.refl _ _).alloc (Nat.le_refl _) _).trans HB4.out
      have h40 := (hB24.block w.heap.size (by omega)).trans H20.out
      have h41 := (hB24.block (w.heap.size + 1) (by omega)).trans H21.out
      have h42 := (hB24.block (w.heap.size + 2) (by omega)).trans H22.out
      have H40 := Lib.hid h40
      have H41 := Lib.hid h41
      have H42 := Lib.hid h42
      have HB24 := Lib.hid hB24
      clear h40 h41 h42 hB24
      go_wp2_with fail
      refine leaves_cons (f := 32) (args := #[.pointer (some ⟨w.heap.size, 0, none⟩), .pointer (some ⟨w.heap.size + 1, 0, none⟩), .pointer (some ⟨w.heap.size + 2, 0, none⟩)]) (by simp) (by simp [go_sem]) ?_
      refine (catch_fault w.heap.size (w.heap.size + 1) (w.heap.size + 2) x.1 x.2 _ _ _ _ _ _ [] w4 H40.out H41.out H42.out (by omega) (by omega) (by omega)).mono ?_
      rintro e u' w5 ⟨rfl, rfl, hl⟩
      show Leaves _ _ _ _ [] .returning w5
      have hB24 := HB24.out
      refine ⟨_, results_parse _ w5 _ _ _ _ _ _ _ _ _ rfl rfl rfl hl.a hl.b hl.c, (HB2.out.trans (HB24.out.mono (by omega))).trans (hl.d _ (by have := HB24.out.size; omega) (by omega) (by omega) (by omega)), ?_⟩
      rw [HPS.out, HPL.out]
      rfl
    | ok p =>
      rintro e w4 ⟨rv, tv, lv, rfl, hpr, hb4⟩
      have HPL := Lib.hid hpl
      have HB4 := Lib.hid hb4
      have HPR := Lib.hid hpr
      clear hpl hb4 hpr r0
      have hB24 : Below w2.heap.size w2 w4 := ((Below.refl _ _).alloc (Nat.le_refl _) _).trans HB4.out
      have h40 := (hB24.block w.heap.size (by omega)).trans H20.out
      have h41 := (hB24.block (w.heap.size + 1) (by omega)).trans H21.out
      have h42 := (hB24.block (w.heap.size + 2) (by omega)).trans H22.out
      have H40 := Lib.hid h40
      have H41 := Lib.hid h41
      have H42 := Lib.hid h42
      have HB24 := Lib.hid hB24
      have p0 := cell_of_heap h40 0 rfl
      have p1 := cell_of_heap h40 1 rfl
      have p2 := cell_of_heap h40 2 rfl
      have p3 := cell_of_heap h40 3 rfl
      have q0 := cell_of_heap h41 0 rfl
      have r0 := cell_of_heap h42 0 rfl
      have z0 := frozen_of_heap h40 0
      have z1 := frozen_of_heap h40 1
      have z2 := frozen_of_heap h40 2
      have z3 := frozen_of_heap h40 3
      have y0 := frozen_of_heap h41 0
      have x0 := frozen_of_heap h42 0
      clear h40 h41 h42 hB24
      obtain ⟨rvA, rvc, rfl⟩ := Kd.R_slice HPR.out.r
      obtain ⟨tvA, tvc, rfl⟩ := Kd.R_slice HPR.out.t
      obtain ⟨lvA, lvc, rfl⟩ := Kd.R_slice HPR.out.l
      go_wp2_with fail
      rw [show w.heap.size + 1 + 1 = w.heap.size + 2 from rfl]
      obtain ⟨w5, hw5⟩ : ∃ w5, w5 = ((((((w4.setCell ⟨w.heap.size, 0, none⟩ (.slice rvA p.routes.length rvc)).setCell ⟨w.heap.size, 1, none⟩ (.slice tvA p.times.length tvc)).setCell ⟨w.heap.size, 2, none⟩ (.slice lvA p.left.length lvc)).setCell ⟨w.heap.size, 3, none⟩ (.int .i64 p.cost)).setCell ⟨w.heap.size + 1, 0, none⟩ (.int .i64 0)).setCell ⟨w.heap.size + 2, 0, none⟩ (.int .i64 0)) := ⟨_, rfl⟩
      rw [← hw5]
      obtain ⟨k1, k2, k3, k4, k5, k6⟩ := set6 H40.out H41.out H42.out (by omega) (by omega) (by omega) w5 hw5
      refine leaves_cons (f := 32) (args := #[.pointer (some ⟨w.heap.size, 0, none⟩), .pointer (some ⟨w.heap.size + 1, 0, none⟩), .pointer (some ⟨w.heap.size + 2, 0, none⟩)]) (by simp) (by simp [go_sem]) ?_
      refine (catch_idle w.heap.size (w.heap.size + 1) (w.heap.size + 2) w5).mono ?_
      rintro e u' w6 ⟨rfl, rfl, hb6⟩
      show Leaves _ _ _ _ [] .returning w6
      have hB24 := HB24.out
      have hsz := hB24.size
      have hsz2 := HB4.out.size
      rw [show (w2.alloc (.cells #[.slice Av ls.length cv, .int .i64 0] 74)).heap.size = w2.heap.size + 1 by simp] at hsz2
      refine ⟨_, results_parse _ w6 _ _ _ _ _ _ _ _ _ rfl rfl rfl ((hb6.block _ (by omega)).trans k1) ((hb6.block _ (by omega)).trans k2) ((hb6.block _ (by omega)).trans k3), ((HB2.out.trans (HB24.out.mono (by omega))).trans (k5 _ (by omega) (by omega) (by omega))).trans (hb6.mono (by omega)), ?_⟩
      rw [HPS.out, HPL.out]
      refine ⟨_, _, _, rfl, ?_⟩
      have hpr := HPR.out
      rw [show (w2.alloc (.cells #[.slice Av ls.length cv, .int .i64 0] 74)).heap.size = w2.heap.size + 1 by simp] at hpr
      have hpr2 := k6 (w2.heap.size + 1) _ _ _ _ (by omega) (by omega) (by omega) hpr
      have hpr3 := hpr2.below hb6
      exact PlanR.lower (base' := w.heap.size) hpr3 (by omega)
  · have hb : (er != 0) = true := by simpa using he
    have p0 := cell_of_heap H20.out 0 rfl
    have p1 := cell_of_heap H20.out 1 rfl
    have p2 := cell_of_heap H20.out 2 rfl
    have p3 := cell_of_heap H20.out 3 rfl
    have q0 := cell_of_heap H21.out 0 rfl
    have r0 := cell_of_heap H22.out 0 rfl
    have z0 := frozen_of_heap H20.out 0
    have z1 := frozen_of_heap H20.out 1
    have z2 := frozen_of_heap H20.out 2
    have z3 := frozen_of_heap H20.out 3
    have y0 := frozen_of_heap H21.out 0
    have x0 := frozen_of_heap H22.out 0
    have HE := Lib.hid he
    clear he
    go_upto_region 2 with fail
    rw [← HW2.out]
    clear c2 f2
    go_upto_region 3 with fail
    go_region
    have HL := laid_of (l := 0) (er := er) H20.out H21.out H22.out (by omega) (by omega) (by omega)
    obtain ⟨w3, hw3⟩ : ∃ w3, w3 = ((((((w2.setCell ⟨w.heap.size, 0, none⟩ (.slice none 0 0)).setCell ⟨w.heap.size, 1, none⟩ (.slice none 0 0)).setCell ⟨w.heap.size, 2, none⟩ (.slice none 0 0)).setCell ⟨w.heap.size, 3, none⟩ (.int .i64 0)).setCell ⟨w.heap.size + 1, 0, none⟩ (.int .i64 0)).setCell ⟨w.heap.size + 2, 0, none⟩ (.int .i64 er)).drew := ⟨_, rfl⟩
    rw [← hw3] at HL
    rw [show w.heap.size + 1 + 1 = w.heap.size + 2 from rfl, ← hw3]
    clear hw3
    have HL3 := Lib.hid HL
    clear HL
    go_wp2_with fail
    have hps : parseS s = .error (0, er) := by unfold parseS; rw [HLS.out, if_pos HE.out]
    refine ⟨_, results_parse _ w3 _ _ _ _ _ _ _ _ _ rfl rfl rfl HL3.out.a HL3.out.b HL3.out.c, HB2.out.trans (HL3.out.d _ (by omega) (by omega) (by omega) (by omega)), ?_⟩
    rw [hps]
    rfl
end Go.Proofs.YtdgifgdadminbaaDoor
