/- FilePrints: its walk. Written by this session. -/
import Derived.Test.YtdgifgdadminbaaDoorZr
import Derived.Test.YtdgifgdadminbaaDoorYa
set_option linter.unusedSimpArgs false
set_option linter.unusedVariables false
set_option maxRecDepth 100000
namespace Go.Proofs.YtdgifgdadminbaaDoor
open Go.RowKit Go.Proofs.YtdgifgdadminbaaDoorW.PrintWords Sp
open PFileParses (wrap_id ba_len toList_data info3 info2 info9 rd_L1 rd_L2 at_L1 at_L2)

set_option maxHeartbeats 16000000 in
theorem filePrints_walk (rv tv lv : Value) (p : Pl) (w : World) (hp : PlanAt rv tv lv p w) (hE : Env w) (hI : ∀ r ∈ p.routes, ∀ n ∈ r, I64 n) (hJ : ∀ r ∈ p.times, ∀ n ∈ r, I64 n) (hK : ∀ n ∈ p.left, I64 n) (hc : I64 p.cost) :
    Calls Tryd.prog 5 #[.agg #[rv, tv, lv, .int .i64 p.cost]] w fun e w' => e = .returned (.bool true) ∧ Below w.heap.size w w' := by
  obtain ⟨⟨A1, c1, rfl, l1, h1⟩, ⟨A2, c2, rfl, l2, h2⟩, ⟨A3, c3, rfl, l3, h3⟩⟩ := hp
  have hr := h1.2.1
  have ht := h2.2.1
  obtain ⟨W, hW⟩ : ∃ W, W = w.alloc (.cells #[.slice A1 p.routes.length c1, .slice A2 p.times.length c2, .slice A3 p.left.length c3, .int .i64 p.cost] 27) := ⟨_, rfl⟩
  have hB : Below w.heap.size w W := by rw [hW]; exact (Below.refl w.heap.size w).alloc (Nat.le_refl _) _
  have hn : W.heap[w.heap.size]? = some (.cells #[.slice A1 p.routes.length c1, .slice A2 p.times.length c2, .slice A3 p.left.length c3, .int .i64 p.cost] 27 (0, 0)) := by rw [hW]; exact heap_alloc_new w _
  have hsz : w.heap.size < W.heap.size := by rw [hW]; simp
  have hP : PlanAt (.slice A1 p.routes.length c1) (.slice A2 p.times.length c2) (.slice A3 p.left.length c3) p W := ⟨⟨A1, c1, rfl, l1, Kd.C_below h1 hB⟩, ⟨A2, c2, rfl, l2, Kd.C_below h2 hB⟩, ⟨A3, c3, rfl, l3, Kd.C_below h3 hB⟩⟩
  have hEW := hE.below hB hE.size
  have h3s := hE.size
  have HA := Lib.hid (alive_c W hEW)
  have HF := Lib.hid (fun w' (hb : Below W.heap.size W w') => few_c _ _ _ p w' (hP.below hb) hr ht)
  have HPP := Lib.hid (fun w' (hb : Below W.heap.size W w') => print_c _ _ _ p w' (hP.below hb) (hEW.below hb (by omega)))
  have HRP := Lib.hid (fun w' (hb : Below W.heap.size W w') => refPrint_c _ _ _ p w' (hP.below hb) (hEW.below hb (by omega)) hI hJ hK hc)
  have HAS := Lib.hid (fun w' => as_c A1 p.routes.length c1 A2 p.times.length c2 A3 p.left.length c3 p.cost w')
  have HBX : Hid (∀ w', Below W.heap.size W w' → Box w.heap.size A1 p.routes.length c1 A2 p.times.length c2 A3 p.left.length c3 p.cost w') := Lib.hid (fun w' hb => box_below hn hb)
  have HB := Lib.hid hB
  have HW := Lib.hid hW
  clear hP hn hB hW hEW hE hr ht h1 h2 h3 hI hJ hK hc
  go_enter Tryd.func5, Tryd.ntmps5
  go_upto_region 1 with fail
  rw [← HW.out]
  go_wp2_with fail
  refine HA.out.mono ?_
  rintro e w1 ⟨rfl, hb1⟩
  have HB1 := Lib.hid hb1
  have hz1 := hb1.size
  obtain ⟨a0, a1, a2, a3⟩ := HBX.out w1 hb1
  obtain ⟨bF, hbF⟩ : ∃ b, fewB p = b := ⟨_, rfl⟩
  have hF := HF.out w1 hb1
  rw [hbF] at hF
  have HF1 := Lib.hid hF
  clear hb1 hF hbF
  go_wp2_with fail
  refine HF1.out.mono ?_
  rintro e w2 ⟨rfl, hb2⟩
  have hb12 := HB1.out.trans (hb2.mono hz1)
  have HB2 := Lib.hid hb12
  have hz2 := hb12.size
  clear hb2 hb12 a0 a1 a2 a3 hz1 HF1
  cases bF
  · go_wp2_with fail
    go_ret
    exact ⟨rfl, HB.out.trans (HB2.out.mono (by omega))⟩
  · obtain ⟨a0, a1, a2, a3⟩ := HBX.out w2 HB2.out
    have hPr := HPP.out w2 HB2.out
    unfold printQ at hPr
    obtain ⟨s1, hs1⟩ : ∃ s, s = mk (printS p).1 := ⟨_, rfl⟩
    obtain ⟨x1, hx1⟩ : ∃ x, x = (printS p).2 := ⟨_, rfl⟩
    rw [← hs1, ← hx1] at hPr
    have HPr := Lib.hid hPr
    have HS1 := Lib.hid hs1
    have HX1 := Lib.hid hx1
    clear hPr hs1 hx1
    go_wp2_with fail
    refine HPr.out.mono ?_
    rintro e w3 ⟨rfl, hb3⟩
    have hb13 := HB2.out.trans (hb3.mono hz2)
    have HB3 := Lib.hid hb13
    have hz3 := hb13.size
    clear hb3 hb13 a0 a1 a2 a3 HPr
    obtain ⟨a0, a1, a2, a3⟩ := HBX.out w3 HB3.out
    go_wp2_with fail
    refine (HAS.out w3).mono ?_
    rintro e w4 ⟨rfl, hb4⟩
    have hb14 := HB3.out.trans (hb4.mono hz3)
    have HB4 := Lib.hid hb14
    have hz4 := hb14.size
    clear hb4 hb14 a0 a1 a2 a3
    have hPr := HRP.out w4 HB4.out
    unfold printQ at hPr
    rw [← HS1.out, ← HX1.out] at hPr
    have HPr := Lib.hid hPr
    clear hPr
    go_wp2_with fail
    refine HPr.out.mono ?_
    rintro e w5 ⟨rfl, hb5⟩
    have hb15 := HB4.out.trans (hb5.mono hz4)
    have HB5 := Lib.hid hb15
    clear hb5 hb15 HPr
    have k1 : (x1 == x1) = true := beq_self_eq_true _
    have k2 : (s1.toList == s1.toList) = true := beq_self_eq_true _
    go_wp2_with fail
    go_ret
    exact ⟨rfl, HB.out.trans (HB5.out.mono (by omega))⟩
end Go.Proofs.YtdgifgdadminbaaDoor
