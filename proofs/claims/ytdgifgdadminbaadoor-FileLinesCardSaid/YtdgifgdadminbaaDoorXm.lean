/- file's many, ranged. Written by this session. -/
import Derived.Test.YtdgifgdadminbaaDoorXp
set_option linter.unusedSimpArgs false
set_option linter.unusedVariables false
set_option maxRecDepth 100000
namespace Go.Proofs.YtdgifgdadminbaaDoor
open Go.RowKit Go.Proofs.YtdgifgdadminbaaDoorW.PrintWords Sp
open PFileParses (wrap_id ba_len toList_data info3 info2 info9)

set_option maxHeartbeats 1000000 in
theorem many_c (rv tv lv : Value) (p : Pl) (w : World) (hp : PlanAt rv tv lv p w) :
    Calls Tryd.prog 42 #[.agg #[rv, tv, lv, .int .i64 p.cost]] w fun e w' => e = .returned (.bool (manyB p)) ∧ Below w.heap.size w w' := by
  obtain ⟨⟨A1, c1, rfl, l1, h1⟩, ⟨A2, c2, rfl, l2, h2⟩, ⟨A3, c3, rfl, l3, h3⟩⟩ := hp
  have s1 := h1.2.1
  have s3 := h3.2.1
  have hW := (Below.refl w.heap.size w).alloc (Nat.le_refl _) (.cells #[.slice A1 p.routes.length c1, .slice A2 p.times.length c2, .slice A3 p.left.length c3, .int .i64 p.cost] 27)
  have hX := anyLong_75 A1 c1 p.routes _ (Kd.C_below h1 hW)
  have HX := Lib.hid hX
  have HW := Lib.hid hW
  obtain ⟨b, hb⟩ : ∃ b, manyB p = b := ⟨_, rfl⟩
  have HM := Lib.hid hb
  rw [hb]
  clear hX hW h1 h2 h3 hb
  by_cases k1 : 64 < p.routes.length
  · have b1 : decide ((64 : Int) < (p.routes.length : Int)) = true := decide_eq_true (by omega)
    have hm : b = true := by rw [← HM.out]; unfold manyB; rw [decide_eq_true k1]; rfl
    subst hm
    clear k1
    go_enter Tryd.func42, Tryd.ntmps42
    go_wp2_with fail
    go_ret
    exact ⟨rfl, HW.out⟩
  · have b1 : decide ((64 : Int) < (p.routes.length : Int)) = false := decide_eq_false (by omega)
    by_cases k2 : 4096 < p.left.length
    · have b2 : decide ((4096 : Int) < (p.left.length : Int)) = true := decide_eq_true (by omega)
      have hm : b = true := by rw [← HM.out]; unfold manyB; rw [decide_eq_true k2, Bool.or_true]; rfl
      subst hm
      clear k1 k2
      go_enter Tryd.func42, Tryd.ntmps42
      go_wp2_with fail
      go_ret
      exact ⟨rfl, HW.out⟩
    · have b2 : decide ((4096 : Int) < (p.left.length : Int)) = false := decide_eq_false (by omega)
      have hm : p.routes.any longB = b := by rw [← HM.out]; unfold manyB longB; rw [decide_eq_false k1, decide_eq_false k2]; rfl
      rw [hm] at HX
      have HX2 := Lib.hid HX.out
      clear k1 k2 hm HX
      go_enter Tryd.func42, Tryd.ntmps42
      go_wp2_with fail
      refine HX2.out.mono ?_
      rintro e w' ⟨rfl, hB⟩
      have HB := Lib.hid hB
      clear hB
      go_wp2_with fail
      go_ret
      exact ⟨rfl, HW.out.trans (HB.out.mono (by have := HW.out.size; omega))⟩

set_option maxHeartbeats 2000000 in
theorem ranged_c (rv tv lv : Value) (p : Pl) (w : World) (hp : PlanAt rv tv lv p w) :
    Calls Tryd.prog 44 #[.agg #[rv, tv, lv, .int .i64 p.cost]] w fun e w' => e = .returned (.bool (rangedB p)) ∧ Below w.heap.size w w' := by
  obtain ⟨⟨A1, c1, rfl, l1, h1⟩, ⟨A2, c2, rfl, l2, h2⟩, ⟨A3, c3, rfl, l3, h3⟩⟩ := hp
  obtain ⟨W, hW⟩ : ∃ W, W = w.alloc (.cells #[.slice A1 p.routes.length c1, .slice A2 p.times.length c2, .slice A3 p.left.length c3, .int .i64 p.cost] 27) := ⟨_, rfl⟩
  have hB : Below w.heap.size w W := by rw [hW]; exact (Below.refl w.heap.size w).alloc (Nat.le_refl _) _
  have hn : W.heap[w.heap.size]? = some (.cells #[.slice A1 p.routes.length c1, .slice A2 p.times.length c2, .slice A3 p.left.length c3, .int .i64 p.cost] 27 (0, 0)) := by rw [hW]; exact heap_alloc_new w _
  have hsz : w.heap.size < W.heap.size := by rw [hW]; simp
  have H1 := Lib.hid (Kd.C_below h1 hB)
  have H2 := Lib.hid (Kd.C_below h2 hB)
  have H3 := Lib.hid (Kd.C_below h3 hB)
  have HN := Lib.hid hn
  have HB := Lib.hid hB
  have HW := Lib.hid hW
  obtain ⟨bR, hR⟩ : ∃ b, p.routes.any (fun r => r.any outB) = b := ⟨_, rfl⟩
  obtain ⟨bT, hT⟩ : ∃ b, p.times.any (fun r => r.any outB) = b := ⟨_, rfl⟩
  obtain ⟨bL, hL⟩ : ∃ b, p.left.any outB = b := ⟨_, rfl⟩
  have hspec : rangedB p = (!bR && !bT && !bL && !outB p.cost) := by unfold rangedB; rw [hR, hT, hL]
  have hX := anyOut_75 A1 c1 p.routes W H1.out
  rw [hR] at hX
  have HX := Lib.hid hX
  have hY := fun w2 (hb : Below W.heap.size W w2) => anyOut_80 A2 c2 p.times w2 (Kd.C_below H2.out hb)
  rw [hT] at hY
  have HY := Lib.hid hY
  have hZ := fun w2 (hb : Below W.heap.size W w2) => anyOut_78 A3 c3 p.left w2 (Kd.C_below H3.out hb)
  rw [hL] at hZ
  have HZ := Lib.hid hZ
  rw [hspec]
  have n3 : W.cell? ⟨w.heap.size, 3, none⟩ = some (.int .i64 p.cost) := cell_of_heap hn 3 rfl
  have n0 : W.cell? ⟨w.heap.size, 0, none⟩ = some (.slice A1 p.routes.length c1) := cell_of_heap hn 0 rfl
  have n1 : W.cell? ⟨w.heap.size, 1, none⟩ = some (.slice A2 p.times.length c2) := cell_of_heap hn 1 rfl
  have n2 : W.cell? ⟨w.heap.size, 2, none⟩ = some (.slice A3 p.left.length c3) := cell_of_heap hn 2 rfl
  have N := Lib.hid (And.intro n0 (And.intro n1 (And.intro n2 n3)))
  clear h1 h2 h3 hB hn hW hR hT hL hX hY hZ hspec n1 n2 n3
  go_enter Tryd.func44, Tryd.ntmps44
  go_upto_region 1 with fail
  rw [← HW.out]
  go_wp2_with fail
  refine HX.out.mono ?_
  rintro e w2 ⟨rfl, hb2⟩
  have m1 := cell_below N.out.2.1 hb2
  have HB2 := Lib.hid hb2
  clear hb2 n0
  go_wp2_with fail
  refine (HY.out w2 HB2.out).mono ?_
  rintro e w3 ⟨rfl, hb3⟩
  have hb23 := HB2.out.trans (hb3.mono HB2.out.size)
  have HB3 := Lib.hid hb23
  clear hb3 hb23 m1
  cases bR
  · cases bT
    · have m2 := cell_below N.out.2.2.1 HB3.out
      go_wp2_with fail
      refine (HZ.out w3 HB3.out).mono ?_
      rintro e w4 ⟨rfl, hb4⟩
      have hb24 := HB3.out.trans (hb4.mono HB3.out.size)
      have HB4 := Lib.hid hb24
      clear hb4 hb24 m2
      cases bL
      · have m3 := cell_below N.out.2.2.2 HB4.out
        go_wp2_with fail
        refine (out_83 p.cost w4).mono ?_
        rintro e w5 ⟨rfl, hb5⟩
        have HB5 := Lib.hid hb5
        clear hb5 m3
        go_wp2_with fail
        go_ret
        exact ⟨rfl, (HB.out.trans (HB4.out.mono (by omega))).trans (HB5.out.mono (by have := HB4.out.size; omega))⟩
      · go_wp2_with fail
        go_ret
        exact ⟨rfl, HB.out.trans (HB4.out.mono (by omega))⟩
    · go_wp2_with fail
      go_ret
      exact ⟨rfl, HB.out.trans (HB3.out.mono (by omega))⟩
  · go_wp2_with fail
    go_ret
    exact ⟨rfl, HB.out.trans (HB3.out.mono (by omega))⟩
end Go.Proofs.YtdgifgdadminbaaDoor
