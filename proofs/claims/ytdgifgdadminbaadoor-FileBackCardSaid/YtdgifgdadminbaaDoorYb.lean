/- FileBack: its walk. Written by this session. -/
import Derived.Test.YtdgifgdadminbaaDoorYl
import Derived.Test.YtdgifgdadminbaaDoorYs
import Derived.Test.YtdgifgdadminbaaDoorSq
set_option linter.unusedSimpArgs false
set_option linter.unusedVariables false
set_option maxRecDepth 100000
namespace Go.Proofs.YtdgifgdadminbaaDoor
open Go.RowKit Go.Proofs.YtdgifgdadminbaaDoorW.PrintWords Sp
open PFileParses (wrap_id ba_len toList_data info3 info2 info9 rd_L1 rd_L2 at_L1 at_L2)

theorem parse_both (s : ByteArray) (w : World) (hE : Env w) (hs : s.size < 4294967281) :
    Calls Tryd.prog 12 #[.string s] w fun e w' => match parseS s with
      | .error x => e = .returned (.tuple #[.agg #[.slice none 0 0, .slice none 0 0, .slice none 0 0, .int .i64 0], .int .i64 x.1, .int .i64 x.2]) ∧ Below w.heap.size w w'
      | .ok p => ∃ A1 c1 A2 c2 A3 c3, e = .returned (.tuple #[.agg #[.slice A1 p.routes.length c1, .slice A2 p.times.length c2, .slice A3 p.left.length c3, .int .i64 p.cost], .int .i64 0, .int .i64 0]) ∧
          PlanR w.heap.size (.slice A1 p.routes.length c1) (.slice A2 p.times.length c2) (.slice A3 p.left.length c3) p w' ∧ Below w.heap.size w w' := by
  cases h : parseS s with
  | error x => exact parse_err h w hE hs
  | ok p => exact parse_ok h w hE hs

set_option maxHeartbeats 16000000 in
theorem fileBack_walk (rv tv lv : Value) (p : Pl) (t : ByteArray) (w : World) (hp : PlanAt rv tv lv p w) (hE : Env w) :
    Calls Tryd.prog 6 #[.agg #[rv, tv, lv, .int .i64 p.cost], .string t] w fun e w' => e = .returned (.bool true) ∧ Below w.heap.size w w' := by
  obtain ⟨⟨A1, c1, rfl, l1, h1⟩, ⟨A2, c2, rfl, l2, h2⟩, ⟨A3, c3, rfl, l3, h3⟩⟩ := hp
  have hr := h1.2.1
  have ht := h2.2.1
  obtain ⟨W, hW⟩ : ∃ W, W = w.alloc (.cells #[.slice A1 p.routes.length c1, .slice A2 p.times.length c2, .slice A3 p.left.length c3, .int .i64 p.cost] 27) := ⟨_, rfl⟩
  have hB : Below w.heap.size w W := by rw [hW]; exact (Below.refl w.heap.size w).alloc (Nat.le_refl _) _
  have hn : W.heap[w.heap.size]? = some (.cells #[.slice A1 p.routes.length c1, .slice A2 p.times.length c2, .slice A3 p.left.length c3, .int .i64 p.cost] 27 (0, 0)) := by rw [hW]; exact heap_alloc_new w _
  have hsz : w.heap.size < W.heap.size := by rw [hW]; simp
  have hP : PlanAt (.slice A1 p.routes.length c1) (.slice A2 p.times.length c2) (.slice A3 p.left.length c3) p W := ⟨⟨A1, c1, rfl, l1, Kd.C_below h1 hB⟩, ⟨A2, c2, rfl, l2, Kd.C_below h2 hB⟩, ⟨A3, c3, rfl, l3, Kd.C_below h3 hB⟩⟩
  have hEW := hE.below hB hE.size
  have h3s := hE.size
  have HA := Lib.hid (alive_c W hEW)
  have HF := Lib.hid (fun w' (hb : Below W.heap.size W w') => few_c _ _ _ p w' (hP.below hb) hr ht)
  have HPP := Lib.hid (fun w' (hb : Below W.heap.size W w') => print_c _ _ _ p w' (hP.below hb) (hEW.below hb (by omega)))
  have HP := Lib.hid hP
  have HN := Lib.hid hn
  have HEW := Lib.hid hEW
  have HB := Lib.hid hB
  have HW := Lib.hid hW
  clear hP hn hB hW hEW hE hr ht h1 h2 h3
  go_enter Tryd.func6, Tryd.ntmps6
  go_upto_region 1 with fail
  rw [← HW.out]
  go_wp2_with fail
  refine HA.out.mono ?_
  rintro e w1 ⟨rfl, hb1⟩
  have HB1 := Lib.hid hb1
  have hz1 := hb1.size
  obtain ⟨a0, a1, a2, a3⟩ := box_below HN.out hb1
  obtain ⟨bF, hbF⟩ : ∃ b, fewB p = b := ⟨_, rfl⟩
  have hF := HF.out w1 hb1
  rw [hbF] at hF
  have HF1 := Lib.hid hF
  have HBF := Lib.hid hbF
  clear hb1 hF hbF
  go_wp2_with fail
  refine HF1.out.mono ?_
  rintro e w2 ⟨rfl, hb2⟩
  have hb12 := HB1.out.trans (hb2.mono hz1)
  have HB2 := Lib.hid hb12
  have hz2 := hb12.size
  clear hb2 hb12 a0 a1 a2 a3 hz1 HF1
  cases bF
  · go_wp2_with fail
    go_ret
    exact ⟨rfl, HB.out.trans (HB2.out.mono (by omega))⟩
  · by_cases hlong : 3000 < t.size
    · have hb : decide ((3000 : Int) < (t.size : Int)) = true := decide_eq_true (by omega)
      go_wp2_with fail
      go_ret
      exact ⟨rfl, HB.out.trans (HB2.out.mono (by omega))⟩
    · have hb : decide ((3000 : Int) < (t.size : Int)) = false := decide_eq_false (by omega)
      have htl : t.size ≤ 3000 := by omega
      have HPT := Lib.hid (fun w' (hb : Below W.heap.size W w') => parse_both t w' (HEW.out.below hb (by omega)) (by omega))
      obtain ⟨a0, a1, a2, a3⟩ := box_below HN.out HB2.out
      have hPr := HPP.out w2 HB2.out
      unfold printQ at hPr
      clear hlong
      rcases printS_cases p with ⟨hg, hs⟩ | ⟨hng, hs1, hs2⟩
      · rw [hs] at hPr
        dsimp only at hPr
        have hlen := text_few p hg (few_iff p HBF.out)
        have hps := parse_text hg (by omega)
        obtain ⟨s, hse⟩ : ∃ s, s = mk (textP p) := ⟨_, rfl⟩
        have hsl : s.size ≤ 1000000 := by rw [hse, mk_size]; exact hlen
        rw [← hse] at hPr hps
        have HPr := Lib.hid hPr
        have HPS := Lib.hid hps
        clear hPr hg hs hps hse hlen
        go_wp2_with fail
        refine HPr.out.mono ?_
        rintro e w3 ⟨rfl, hb3⟩
        have hb13 := HB2.out.trans (hb3.mono hz2)
        have HB3 := Lib.hid hb13
        have hz3 := hb13.size
        clear hb3 hb13 a0 a1 a2 a3 HPr
        have hPo := parse_ok HPS.out w3 (HEW.out.below HB3.out (by omega)) (by omega)
        have HPo := Lib.hid hPo
        clear hPo
        go_wp2_with fail
        refine HPo.out.mono ?_
        rintro e w4 ⟨D1, y1, D2, y2, D3, y3, rfl, hpr, hb4⟩
        have hb14 := HB3.out.trans (hb4.mono hz3)
        have HB4 := Lib.hid hb14
        have HPR := Lib.hid hpr
        have hz4 := hb14.size
        clear hb4 hb14 hpr
        go_upto_region 8 with fail
        obtain ⟨W4, hW4⟩ : ∃ W4, W4 = w4.alloc (.cells #[.slice D1 p.routes.length y1, .slice D2 p.times.length y2, .slice D3 p.left.length y3, .int .i64 p.cost] 27) := ⟨_, rfl⟩
        rw [← hW4]
        have hbW4 : Below w4.heap.size w4 W4 := by rw [hW4]; exact (Below.refl _ _).alloc (Nat.le_refl _) _
        have hn4 : W4.heap[w4.heap.size]? = some (.cells #[.slice D1 p.routes.length y1, .slice D2 p.times.length y2, .slice D3 p.left.length y3, .int .i64 p.cost] 27 (0, 0)) := by rw [hW4]; exact heap_alloc_new w4 _
        have HBW4 := Lib.hid (HB4.out.trans (hbW4.mono hz4))
        have HPR4 := Lib.hid (HPR.out.below hbW4)
        have hzW4 := HBW4.out.size
        obtain ⟨a0, a1, a2, a3⟩ := box_below HN.out HBW4.out
        obtain ⟨e0, e1, e2, e3⟩ := box_below hn4 (Below.refl _ _)
        have hSm := same_c _ _ _ p _ _ _ p W4 HPR4.out.at_ (HP.out.below HBW4.out)
        rw [(sameB_iff p p).2 rfl] at hSm
        have HSm := Lib.hid hSm
        clear hSm hW4 hbW4 hn4
        go_wp2_with fail
        refine HSm.out.mono ?_
        rintro e wz ⟨rfl, hbz⟩
        have HBZ := Lib.hid (HBW4.out.trans (hbz.mono hzW4))
        have hzz := HBZ.out.size
        clear hbz a0 a1 a2 a3 e0 e1 e2 e3
        go_upto_region 10 with fail
        have hPt := HPT.out wz HBZ.out
        cases hpt : parseS t with
        | error x =>
          rw [hpt] at hPt
          dsimp only at hPt
          have hx := parseS_err hpt
          have hxb : (x.2 != 0) = true := by simpa using hx
          have HPt := Lib.hid hPt
          clear hPt hpt hx
          go_wp2_with fail
          refine HPt.out.mono ?_
          rintro e wy ⟨rfl, hby⟩
          have HBY := Lib.hid (HBZ.out.trans (hby.mono hzz))
          clear hby
          go_wp2_with fail
          go_ret
          exact ⟨rfl, (HB.out.trans (HBY.out.mono (by omega))).alloc (by have := HBY.out.size; omega) _⟩
        | ok q =>
          obtain ⟨hgq, hlq⟩ := parseS_inv hpt
          rw [hpt] at hPt
          dsimp only at hPt
          have HPt := Lib.hid hPt
          have HGQ := Lib.hid hgq
          have hl3 : (textP q).length ≤ 3000 := by omega
          have hptx := parse_text hgq (by omega)
          have HPTX := Lib.hid hptx
          have HLQ := Lib.hid hlq
          clear hPt hpt hptx hgq hlq
          go_wp2_with fail
          refine HPt.out.mono ?_
          rintro e wy ⟨E1, k1, E2, k2, E3, k3, rfl, hqr, hby⟩
          have HBY := Lib.hid (HBZ.out.trans (hby.mono hzz))
          have HQR := Lib.hid hqr
          have hzy := HBY.out.size
          clear hby hqr
          go_upto_region 11 with fail
          obtain ⟨V, hV⟩ : ∃ V, V = wy.alloc (.cells #[.slice E1 q.routes.length k1, .slice E2 q.times.length k2, .slice E3 q.left.length k3, .int .i64 q.cost] 27) := ⟨_, rfl⟩
          rw [← hV]
          have hbV : Below wy.heap.size wy V := by rw [hV]; exact (Below.refl _ _).alloc (Nat.le_refl _) _
          have hnV : V.heap[wy.heap.size]? = some (.cells #[.slice E1 q.routes.length k1, .slice E2 q.times.length k2, .slice E3 q.left.length k3, .int .i64 q.cost] 27 (0, 0)) := by rw [hV]; exact heap_alloc_new wy _
          have HBV := Lib.hid (HBY.out.trans (hbV.mono hzy))
          have HNV := Lib.hid hnV
          have HQV := Lib.hid (HQR.out.below hbV)
          have hzV := HBV.out.size
          clear hV hbV hnV
          obtain ⟨a0, a1, a2, a3⟩ := box_below HNV.out (Below.refl _ _)
          have hPq := print_c _ _ _ q V HQV.out.at_ (HEW.out.below HBV.out (by omega))
          unfold printQ at hPq
          rw [printS_good HGQ.out] at hPq
          dsimp only at hPq
          obtain ⟨u, hu⟩ : ∃ u, u = mk (textP q) := ⟨_, rfl⟩
          have hus : u.size ≤ t.size := by rw [hu, mk_size]; exact HLQ.out
          have hpu : parseS u = .ok q := by rw [hu]; exact HPTX.out
          rw [← hu] at hPq
          have HPq := Lib.hid hPq
          have HPU := Lib.hid hpu
          clear hPq hu hpu
          go_wp2_with fail
          refine HPq.out.mono ?_
          rintro e wx ⟨rfl, hbx⟩
          have HVX := Lib.hid hbx
          have HBXX := Lib.hid (HBV.out.trans (hbx.mono hzV))
          have hzx := HBXX.out.size
          have hzvx := hbx.size
          clear hbx a0 a1 a2 a3
          have hPu := parse_ok HPU.out wx (HEW.out.below HBXX.out (by omega)) (by omega)
          have HPu := Lib.hid hPu
          clear hPu
          go_wp2_with fail
          refine HPu.out.mono ?_
          rintro e wv ⟨F1, j1, F2, j2, F3, j3, rfl, hqr2, hbv⟩
          have HXV := Lib.hid hbv
          have HBVV := Lib.hid (HBXX.out.trans (hbv.mono hzx))
          have HQR2 := Lib.hid hqr2
          have hzv := HBVV.out.size
          have hzxv := hbv.size
          clear hbv hqr2
          go_upto_region 15 with fail
          obtain ⟨U, hU⟩ : ∃ U, U = wv.alloc (.cells #[.slice F1 q.routes.length j1, .slice F2 q.times.length j2, .slice F3 q.left.length j3, .int .i64 q.cost] 27) := ⟨_, rfl⟩
          rw [← hU]
          have hbU : Below wv.heap.size wv U := by rw [hU]; exact (Below.refl _ _).alloc (Nat.le_refl _) _
          have hnU : U.heap[wv.heap.size]? = some (.cells #[.slice F1 q.routes.length j1, .slice F2 q.times.length j2, .slice F3 q.left.length j3, .int .i64 q.cost] 27 (0, 0)) := by rw [hU]; exact heap_alloc_new wv _
          have HBU := Lib.hid (HBVV.out.trans (hbU.mono hzv))
          have HVU := Lib.hid (HVX.out.trans ((HXV.out.mono hzvx).trans (hbU.mono (by omega))))
          have HQU := Lib.hid (HQR2.out.below hbU)
          have HNU := Lib.hid hnU
          clear hU hbU hnU
          obtain ⟨a0, a1, a2, a3⟩ := box_below HNV.out HVU.out
          obtain ⟨e0, e1, e2, e3⟩ := box_below HNU.out (Below.refl _ _)
          have hSm := same_c _ _ _ q _ _ _ q U HQU.out.at_ (HQV.out.below HVU.out).at_
          rw [(sameB_iff q q).2 rfl] at hSm
          have HSm := Lib.hid hSm
          clear hSm
          have hle : decide ((u.size : Int) ≤ (t.size : Int)) = true := decide_eq_true (by omega)
          go_wp2_with fail
          refine HSm.out.mono ?_
          rintro e wu ⟨rfl, hbu⟩
          have HBUU := Lib.hid (HBU.out.trans (hbu.mono HBU.out.size))
          clear hbu a0 a1 a2 a3 e0 e1 e2 e3
          go_wp2_with fail
          go_ret
          exact ⟨rfl, HB.out.trans (HBUU.out.mono (by omega))⟩
      · have hs2' : ((printS p).2 == 0) = false := by simpa using hs2
        rw [hs1] at hPr
        have HPr := Lib.hid hPr
        clear hPr hs1 hs2 hng
        go_wp2_with fail
        refine HPr.out.mono ?_
        rintro e wz ⟨rfl, hbz⟩
        have HBZ := Lib.hid (HB2.out.trans (hbz.mono hz2))
        have hzz := HBZ.out.size
        clear hbz a0 a1 a2 a3 HPr
        go_upto_region 10 with fail
        have hPt := HPT.out wz HBZ.out
        cases hpt : parseS t with
        | error x =>
          rw [hpt] at hPt
          dsimp only at hPt
          have hx := parseS_err hpt
          have hxb : (x.2 != 0) = true := by simpa using hx
          have HPt := Lib.hid hPt
          clear hPt hpt hx
          go_wp2_with fail
          refine HPt.out.mono ?_
          rintro e wy ⟨rfl, hby⟩
          have HBY := Lib.hid (HBZ.out.trans (hby.mono hzz))
          clear hby
          go_wp2_with fail
          go_ret
          exact ⟨rfl, (HB.out.trans (HBY.out.mono (by omega))).alloc (by have := HBY.out.size; omega) _⟩
        | ok q =>
          obtain ⟨hgq, hlq⟩ := parseS_inv hpt
          rw [hpt] at hPt
          dsimp only at hPt
          have HPt := Lib.hid hPt
          have HGQ := Lib.hid hgq
          have hl3 : (textP q).length ≤ 3000 := by omega
          have hptx := parse_text hgq (by omega)
          have HPTX := Lib.hid hptx
          have HLQ := Lib.hid hlq
          clear hPt hpt hptx hgq hlq
          go_wp2_with fail
          refine HPt.out.mono ?_
          rintro e wy ⟨E1, k1, E2, k2, E3, k3, rfl, hqr, hby⟩
          have HBY := Lib.hid (HBZ.out.trans (hby.mono hzz))
          have HQR := Lib.hid hqr
          have hzy := HBY.out.size
          clear hby hqr
          go_upto_region 11 with fail
          obtain ⟨V, hV⟩ : ∃ V, V = wy.alloc (.cells #[.slice E1 q.routes.length k1, .slice E2 q.times.length k2, .slice E3 q.left.length k3, .int .i64 q.cost] 27) := ⟨_, rfl⟩
          rw [← hV]
          have hbV : Below wy.heap.size wy V := by rw [hV]; exact (Below.refl _ _).alloc (Nat.le_refl _) _
          have hnV : V.heap[wy.heap.size]? = some (.cells #[.slice E1 q.routes.length k1, .slice E2 q.times.length k2, .slice E3 q.left.length k3, .int .i64 q.cost] 27 (0, 0)) := by rw [hV]; exact heap_alloc_new wy _
          have HBV := Lib.hid (HBY.out.trans (hbV.mono hzy))
          have HNV := Lib.hid hnV
          have HQV := Lib.hid (HQR.out.below hbV)
          have hzV := HBV.out.size
          clear hV hbV hnV
          obtain ⟨a0, a1, a2, a3⟩ := box_below HNV.out (Below.refl _ _)
          have hPq := print_c _ _ _ q V HQV.out.at_ (HEW.out.below HBV.out (by omega))
          unfold printQ at hPq
          rw [printS_good HGQ.out] at hPq
          dsimp only at hPq
          obtain ⟨u, hu⟩ : ∃ u, u = mk (textP q) := ⟨_, rfl⟩
          have hus : u.size ≤ t.size := by rw [hu, mk_size]; exact HLQ.out
          have hpu : parseS u = .ok q := by rw [hu]; exact HPTX.out
          rw [← hu] at hPq
          have HPq := Lib.hid hPq
          have HPU := Lib.hid hpu
          clear hPq hu hpu
          go_wp2_with fail
          refine HPq.out.mono ?_
          rintro e wx ⟨rfl, hbx⟩
          have HVX := Lib.hid hbx
          have HBXX := Lib.hid (HBV.out.trans (hbx.mono hzV))
          have hzx := HBXX.out.size
          have hzvx := hbx.size
          clear hbx a0 a1 a2 a3
          have hPu := parse_ok HPU.out wx (HEW.out.below HBXX.out (by omega)) (by omega)
          have HPu := Lib.hid hPu
          clear hPu
          go_wp2_with fail
          refine HPu.out.mono ?_
          rintro e wv ⟨F1, j1, F2, j2, F3, j3, rfl, hqr2, hbv⟩
          have HXV := Lib.hid hbv
          have HBVV := Lib.hid (HBXX.out.trans (hbv.mono hzx))
          have HQR2 := Lib.hid hqr2
          have hzv := HBVV.out.size
          have hzxv := hbv.size
          clear hbv hqr2
          go_upto_region 15 with fail
          obtain ⟨U, hU⟩ : ∃ U, U = wv.alloc (.cells #[.slice F1 q.routes.length j1, .slice F2 q.times.length j2, .slice F3 q.left.length j3, .int .i64 q.cost] 27) := ⟨_, rfl⟩
          rw [← hU]
          have hbU : Below wv.heap.size wv U := by rw [hU]; exact (Below.refl _ _).alloc (Nat.le_refl _) _
          have hnU : U.heap[wv.heap.size]? = some (.cells #[.slice F1 q.routes.length j1, .slice F2 q.times.length j2, .slice F3 q.left.length j3, .int .i64 q.cost] 27 (0, 0)) := by rw [hU]; exact heap_alloc_new wv _
          have HBU := Lib.hid (HBVV.out.trans (hbU.mono hzv))
          have HVU := Lib.hid (HVX.out.trans ((HXV.out.mono hzvx).trans (hbU.mono (by omega))))
          have HQU := Lib.hid (HQR2.out.below hbU)
          have HNU := Lib.hid hnU
          clear hU hbU hnU
          obtain ⟨a0, a1, a2, a3⟩ := box_below HNV.out HVU.out
          obtain ⟨e0, e1, e2, e3⟩ := box_below HNU.out (Below.refl _ _)
          have hSm := same_c _ _ _ q _ _ _ q U HQU.out.at_ (HQV.out.below HVU.out).at_
          rw [(sameB_iff q q).2 rfl] at hSm
          have HSm := Lib.hid hSm
          clear hSm
          have hle : decide ((u.size : Int) ≤ (t.size : Int)) = true := decide_eq_true (by omega)
          go_wp2_with fail
          refine HSm.out.mono ?_
          rintro e wu ⟨rfl, hbu⟩
          have HBUU := Lib.hid (HBU.out.trans (hbu.mono HBU.out.size))
          clear hbu a0 a1 a2 a3 e0 e1 e2 e3
          go_wp2_with fail
          go_ret
          exact ⟨rfl, HB.out.trans (HBUU.out.mono (by omega))⟩
end Go.Proofs.YtdgifgdadminbaaDoor
