/- FileTurns: its walk. Written by this session. -/
import Derived.Test.YtdgifgdadminbaaDoorYl
import Derived.Test.YtdgifgdadminbaaDoorYs
set_option linter.unusedSimpArgs false
set_option linter.unusedVariables false
set_option maxRecDepth 100000
namespace Go.Proofs.YtdgifgdadminbaaDoor
open Go.RowKit Go.Proofs.YtdgifgdadminbaaDoorW.PrintWords Sp
open PFileParses (wrap_id ba_len toList_data info3 info2 info9 rd_L1 rd_L2 at_L1 at_L2)

theorem joinL_last {ls : List (List UInt8)} (h : ls ≠ []) : joinL ls = joinL ls.dropLast ++ (ls.getLast h ++ [10]) := by
  conv => lhs; rw [← List.dropLast_concat_getLast h]
  rw [joinL_append]
  congr 1
  simp [joinL]
theorem joinL_end {ls : List (List UInt8)} (h : ls ≠ []) : ∃ r, joinL ls = r ++ [10] := ⟨joinL ls.dropLast ++ ls.getLast h, by rw [List.append_assoc]; exact joinL_last h⟩

set_option maxHeartbeats 16000000 in
theorem fileTurns_walk (rv tv lv : Value) (p : Pl) (rv' tv' lv' : Value) (q : Pl) (w : World) (hp : PlanAt rv tv lv p w) (hq : PlanAt rv' tv' lv' q w) (hE : Env w) :
    Calls Tryd.prog 7 #[.agg #[rv, tv, lv, .int .i64 p.cost], .agg #[rv', tv', lv', .int .i64 q.cost]] w fun e w' => e = .returned (.bool true) ∧ Below w.heap.size w w' := by
  obtain ⟨⟨A1, c1, rfl, l1, h1⟩, ⟨A2, c2, rfl, l2, h2⟩, ⟨A3, c3, rfl, l3, h3⟩⟩ := hp
  obtain ⟨⟨B1, d1, rfl, m1, g1⟩, ⟨B2, d2, rfl, m2, g2⟩, ⟨B3, d3, rfl, m3, g3⟩⟩ := hq
  have hr := h1.2.1
  have ht := h2.2.1
  have hr' := g1.2.1
  have ht' := g2.2.1
  obtain ⟨W, hW⟩ : ∃ W, W = (w.alloc (.cells #[.slice A1 p.routes.length c1, .slice A2 p.times.length c2, .slice A3 p.left.length c3, .int .i64 p.cost] 27)).alloc (.cells #[.slice B1 q.routes.length d1, .slice B2 q.times.length d2, .slice B3 q.left.length d3, .int .i64 q.cost] 27) := ⟨_, rfl⟩
  have hB : Below w.heap.size w W := by rw [hW]; exact ((Below.refl w.heap.size w).alloc (Nat.le_refl _) _).alloc (by simp) _
  have hn : W.heap[w.heap.size]? = some (.cells #[.slice A1 p.routes.length c1, .slice A2 p.times.length c2, .slice A3 p.left.length c3, .int .i64 p.cost] 27 (0, 0)) := by
    rw [hW, Below.heap_alloc _ _ _ (by simp)]
    exact heap_alloc_new w _
  have hn2 : W.heap[w.heap.size + 1]? = some (.cells #[.slice B1 q.routes.length d1, .slice B2 q.times.length d2, .slice B3 q.left.length d3, .int .i64 q.cost] 27 (0, 0)) := by
    rw [hW]
    have := heap_alloc_new (w.alloc (.cells #[.slice A1 p.routes.length c1, .slice A2 p.times.length c2, .slice A3 p.left.length c3, .int .i64 p.cost] 27)) (.cells #[.slice B1 q.routes.length d1, .slice B2 q.times.length d2, .slice B3 q.left.length d3, .int .i64 q.cost] 27)
    simpa using this
  have hsz : w.heap.size + 1 < W.heap.size := by rw [hW]; simp
  have hP : PlanAt (.slice A1 p.routes.length c1) (.slice A2 p.times.length c2) (.slice A3 p.left.length c3) p W := ⟨⟨A1, c1, rfl, l1, Kd.C_below h1 hB⟩, ⟨A2, c2, rfl, l2, Kd.C_below h2 hB⟩, ⟨A3, c3, rfl, l3, Kd.C_below h3 hB⟩⟩
  have hQ : PlanAt (.slice B1 q.routes.length d1) (.slice B2 q.times.length d2) (.slice B3 q.left.length d3) q W := ⟨⟨B1, d1, rfl, m1, Kd.C_below g1 hB⟩, ⟨B2, d2, rfl, m2, Kd.C_below g2 hB⟩, ⟨B3, d3, rfl, m3, Kd.C_below g3 hB⟩⟩
  have hEW := hE.below hB hE.size
  have h3s := hE.size
  have HBX : Hid (∀ w', Below W.heap.size W w' → Box w.heap.size A1 p.routes.length c1 A2 p.times.length c2 A3 p.left.length c3 p.cost w' ∧ Box (w.heap.size + 1) B1 q.routes.length d1 B2 q.times.length d2 B3 q.left.length d3 q.cost w') := Lib.hid (fun w' hb => ⟨box_below hn hb, box_below hn2 hb⟩)
  have HA := Lib.hid (alive_c W hEW)
  have HF := Lib.hid (fun w' (hb : Below W.heap.size W w') => few_c _ _ _ p w' (hP.below hb) hr ht)
  have HG := Lib.hid (fun w' (hb : Below W.heap.size W w') => few_c _ _ _ q w' (hQ.below hb) hr' ht')
  have HPP := Lib.hid (fun w' (hb : Below W.heap.size W w') => print_c _ _ _ p w' (hP.below hb) (hEW.below hb (by omega)))
  have HPQ := Lib.hid (fun w' (hb : Below W.heap.size W w') => print_c _ _ _ q w' (hQ.below hb) (hEW.below hb (by omega)))
  have HSM := Lib.hid (fun w' (hb : Below W.heap.size W w') => same_c _ _ _ p _ _ _ q w' (hP.below hb) (hQ.below hb))
  have HEW := Lib.hid hEW
  have HB := Lib.hid hB
  have HW := Lib.hid hW
  clear hP hQ hn hn2 hB hW hEW hE hr ht hr' ht' h1 h2 h3 g1 g2 g3
  go_enter Tryd.func7, Tryd.ntmps7
  go_upto_region 1 with fail
  rw [← HW.out]
  go_wp2_with fail
  refine HA.out.mono ?_
  rintro e w1 ⟨rfl, hb1⟩
  have HB1 := Lib.hid hb1
  have hz1 := hb1.size
  obtain ⟨⟨a0, a1, a2, a3⟩, ⟨e0, e1, e2, e3⟩⟩ := HBX.out w1 hb1
  obtain ⟨bF, hbF⟩ : ∃ b, fewB p = b := ⟨_, rfl⟩
  obtain ⟨bG, hbG⟩ : ∃ b, fewB q = b := ⟨_, rfl⟩
  have hF := HF.out w1 hb1
  rw [hbF] at hF
  have HF1 := Lib.hid hF
  have HBF := Lib.hid hbF
  have HBG := Lib.hid hbG
  clear hb1 hF hbF hbG
  go_wp2_with fail
  refine HF1.out.mono ?_
  rintro e w2 ⟨rfl, hb2⟩
  have hb12 := HB1.out.trans (hb2.mono hz1)
  have HB2 := Lib.hid hb12
  have hz2 := hb12.size
  clear hb2 hb12 a0 a1 a2 a3 e0 e1 e2 e3 hz1 HF1
  cases bF
  · go_wp2_with fail
    go_ret
    exact ⟨rfl, HB.out.trans (HB2.out.mono (by omega))⟩
  · obtain ⟨⟨a0, a1, a2, a3⟩, ⟨e0, e1, e2, e3⟩⟩ := HBX.out w2 HB2.out
    have hG := HG.out w2 HB2.out
    rw [HBG.out] at hG
    have HG1 := Lib.hid hG
    clear hG
    go_wp2_with fail
    refine HG1.out.mono ?_
    rintro e w3 ⟨rfl, hb3⟩
    have hb13 := HB2.out.trans (hb3.mono hz2)
    have HB3 := Lib.hid hb13
    have hz3 := hb13.size
    clear hb3 hb13 a0 a1 a2 a3 e0 e1 e2 e3 HG1
    cases bG
    · go_wp2_with fail
      go_ret
      exact ⟨rfl, HB.out.trans (HB3.out.mono (by omega))⟩
    · obtain ⟨⟨a0, a1, a2, a3⟩, ⟨e0, e1, e2, e3⟩⟩ := HBX.out w3 HB3.out
      have hPr := HPP.out w3 HB3.out
      unfold printQ at hPr
      obtain ⟨s1, hs1⟩ : ∃ s, s = mk (printS p).1 := ⟨_, rfl⟩
      obtain ⟨x1, hx1⟩ : ∃ x, x = (printS p).2 := ⟨_, rfl⟩
      obtain ⟨s2, hs2⟩ : ∃ s, s = mk (printS q).1 := ⟨_, rfl⟩
      obtain ⟨x2, hx2⟩ : ∃ x, x = (printS q).2 := ⟨_, rfl⟩
      rw [← hs1, ← hx1] at hPr
      have HPr := Lib.hid hPr
      have HS1 := Lib.hid hs1
      have HX1 := Lib.hid hx1
      have HS2 := Lib.hid hs2
      have HX2 := Lib.hid hx2
      clear hPr hs1 hx1 hs2 hx2
      go_wp2_with fail
      refine HPr.out.mono ?_
      rintro e w4 ⟨rfl, hb4⟩
      have hb14 := HB3.out.trans (hb4.mono hz3)
      have HB4 := Lib.hid hb14
      have hz4 := hb14.size
      clear hb4 hb14 a0 a1 a2 a3 e0 e1 e2 e3 HPr
      obtain ⟨⟨a0, a1, a2, a3⟩, ⟨e0, e1, e2, e3⟩⟩ := HBX.out w4 HB4.out
      have hPr := HPQ.out w4 HB4.out
      unfold printQ at hPr
      rw [← HS2.out, ← HX2.out] at hPr
      have HPr := Lib.hid hPr
      clear hPr
      go_wp2_with fail
      refine HPr.out.mono ?_
      rintro e w5 ⟨rfl, hb5⟩
      have hb15 := HB4.out.trans (hb5.mono hz4)
      have HB5 := Lib.hid hb15
      have hz5 := hb15.size
      clear hb5 hb15 a0 a1 a2 a3 e0 e1 e2 e3 HPr
      by_cases hx1 : x1 = 0
      · by_cases hx2 : x2 = 0
        · have hgp : Good p := by
            rcases printS_cases p with ⟨h, _⟩ | ⟨_, _, h⟩
            · exact h
            · exact absurd (by rw [← HX1.out]; exact hx1) h
          have hgq : Good q := by
            rcases printS_cases q with ⟨h, _⟩ | ⟨_, _, h⟩
            · exact h
            · exact absurd (by rw [← HX2.out]; exact hx2) h
          subst hx1
          subst hx2
          have hls := printS_good hgp
          have hls2 := printS_good hgq
          have hlen := text_few p hgp (few_iff p HBF.out)
          have hlen2 := text_few q hgq (few_iff q HBG.out)
          have hd1 : s1.data.toList = textP p := by rw [HS1.out, hls, data_mk]
          have hd2 : s2.data.toList = textP q := by rw [HS2.out, hls2, data_mk]
          have hne := linesP_ne p
          have hsp := joinL_last hne
          have hll := linesP_length hgp
          obtain ⟨D, hD⟩ : ∃ D, D = joinL (linesP p).dropLast := ⟨_, rfl⟩
          obtain ⟨L, hL⟩ : ∃ L, L = (linesP p).getLast hne := ⟨_, rfl⟩
          have hL10 : (10 : UInt8) ∉ L := by rw [hL]; exact linesP_free hgp _ (List.getLast_mem hne)
          have hDe : ∃ r, D = r ++ [10] := by
            rw [hD]
            refine joinL_end (fun e => ?_)
            have := congrArg List.length e
            rw [List.length_dropLast, hll] at this
            simp at this
          have hd1' : s1.data.toList = D ++ (L ++ [10]) := by rw [hd1, hD, hL]; exact hsp
          have hsz1 : s1.size = D.length + L.length + 1 := by
            rw [← ba_len, hd1']
            simp only [List.length_append, List.length_cons, List.length_nil]
            omega
          have hs1b : s1.size ≤ 1000000 := by rw [← ba_len, hd1]; exact hlen
          have hDp : 0 < D.length := by
            obtain ⟨r, hr⟩ := hDe
            rw [hr]
            simp
          have hpe1 := parse_short hgp (by omega)
          rw [← hD] at hpe1
          have hpe2 := parse_more hgp (by omega)
          have hex : s1.extract 0 D.length = mk D := by
            refine ba_mk ?_
            rw [extract_take, hd1']
            exact List.take_left' rfl
          rw [← hex] at hpe1
          have hcat : s1 ++ ⟨#[108, 101, 102, 116, 10]⟩ = mk (textP p ++ [108, 101, 102, 116, 10]) := by
            refine ba_mk ?_
            rw [cat_list, hd1]
          rw [← hcat] at hpe2
          have hbyte : ∀ M (h : M < s1.size), D.length ≤ M → M < D.length + L.length → (((s1[M]'h).toNat : Int) != 10) = true := by
            intro M h h1 h2
            have hM : M < s1.data.toList.length := by rw [ba_len]; exact h
            have e1 : (s1[M]'h).toNat = (s1.data.toList[M]'hM).toNat := rfl
            have e2 : s1.data.toList[M]'hM ∈ L := by
              have : s1.data.toList[M]? = L[M - D.length]? := by rw [hd1', List.getElem?_append_right h1, List.getElem?_append_left (by omega)]
              rw [List.getElem?_eq_getElem hM] at this
              exact List.mem_of_getElem? this.symm
            rw [e1]
            refine bne_iff_ne.2 (fun e => hL10 ?_)
            have : s1.data.toList[M]'hM = 10 := UInt8.toNat_inj.1 (by show _ = 10; omega)
            rw [← this]
            exact e2
          have hbyte0 : ∀ M (h : M < s1.size), M + 1 = D.length → (((s1[M]'h).toNat : Int) != 10) = false := by
            intro M h h1
            have hM : M < s1.data.toList.length := by rw [ba_len]; exact h
            have e1 : (s1[M]'h).toNat = (s1.data.toList[M]'hM).toNat := rfl
            obtain ⟨r, hr⟩ := hDe
            have e2 : s1.data.toList[M]'hM = 10 := by
              have hrl : r.length = M := by
                have := congrArg List.length hr
                rw [List.length_append] at this
                simp at this
                omega
              have : s1.data.toList[M]? = some 10 := by rw [hd1', hr, List.append_assoc, List.getElem?_append_right (by omega), hrl, Nat.sub_self]; rfl
              rw [List.getElem?_eq_getElem hM] at this
              exact Option.some.inj this
            rw [e1, e2]
            rfl
          have hcars := hgp.cars
          have hsame : (s1.toList == s2.toList) = sameB p q := by
            rw [toList_data, toList_data, hd1, hd2, Bool.eq_iff_iff, sameB_iff, beq_iff_eq]
            exact ⟨fun h => text_inj hgp hgq (by omega) h, fun h => by rw [h]⟩
          have HPE1 := Lib.hid (fun w' (hb : Below W.heap.size W w') => parse_err hpe1 w' (HEW.out.below hb (by omega)) (by
            have : (s1.extract 0 D.length).size ≤ s1.size := by simp [ByteArray.size_extract]; omega
            omega))
          have HPE2 := Lib.hid (fun w' (hb : Below W.heap.size W w') => parse_err hpe2 w' (HEW.out.below hb (by omega)) (by
            rw [cat_size]
            have : (ByteArray.mk #[108, 101, 102, 116, 10]).size = 5 := rfl
            omega))
          have HBY := Lib.hid hbyte
          have HBY0 := Lib.hid hbyte0
          have HSAME := Lib.hid hsame
          have HSZ := Lib.hid hsz1
          have hs1p : 1 ≤ s1.size := by omega
          obtain ⟨N1, hN1⟩ : ∃ N1, N1 = D.length := ⟨_, rfl⟩
          obtain ⟨N2, hN2⟩ : ∃ N2, N2 = L.length := ⟨_, rfl⟩
          rw [← hN1] at HPE1 HBY HBY0 HSZ hDp
          rw [← hN2] at HBY HSZ
          clear hls hls2 hlen hlen2 hd1 hd2 hne hsp hll hD hL hL10 hDe hd1' hsz1 hpe1 hpe2 hex hcat hbyte hbyte0 hsame hN1 hN2 hgp hgq
          go_wp2_with fail
          go_loop [9] (fun i => ∃ j : Nat, j ≤ N2 ∧ i = .int .i64 ((N1 + j : Nat) : Int)) (fun i => (intOf i).toNat)
          case atStart =>
            refine ⟨N2, Nat.le_refl _, ?_⟩
            have := HSZ.out
            congr 1
            omega
          case round =>
            obtain ⟨j, hj, rfl⟩ := hrel
            have hszz := HSZ.out
            cases j with
            | zero =>
              obtain ⟨M, hM⟩ : ∃ M, N1 = M + 1 := ⟨N1 - 1, by omega⟩
              have hMs : M < s1.size := by omega
              have hby := HBY0.out M hMs hM.symm
              have HM := Lib.hid hM
              rw [show ((N1 + 0 : Nat) : Int) = (M : Int) + 1 by omega]
              have hM0 : (0 : Int) ≤ (M : Int) := by omega
              have hp1 := HPE1.out
              rw [HM.out] at hp1
              have HP1 := Lib.hid hp1
              clear hM hszz hp1
              go_wp2_with fail
              refine (HP1.out w5 HB5.out).mono ?_
              rintro e w6 ⟨rfl, hb6⟩
              have hb16 := HB5.out.trans (hb6.mono hz5)
              have HB6 := Lib.hid hb16
              have hz6 := hb16.size
              clear hb6 hb16 hby
              go_upto_region 13 with fail
              obtain ⟨W6, hW6⟩ : ∃ W6, W6 = w6.alloc (.cells #[.slice none 0 0, .slice none 0 0, .slice none 0 0, .int .i64 0] 27) := ⟨_, rfl⟩
              rw [← hW6]
              have hbW6 : Below w6.heap.size w6 W6 := by rw [hW6]; exact (Below.refl _ _).alloc (Nat.le_refl _) _
              have HBW6 := Lib.hid (HB6.out.trans (hbW6.mono hz6))
              clear hW6 hbW6
              go_wp2_with fail
              refine (HPE2.out W6 HBW6.out).mono ?_
              rintro e w7 ⟨rfl, hb7⟩
              have hzW6 := HBW6.out.size
              have hb17 := HBW6.out.trans (hb7.mono hzW6)
              have HB7 := Lib.hid hb17
              have hz7 := hb17.size
              clear hb7 hb17
              go_upto_region 14 with fail
              obtain ⟨W7, hW7⟩ : ∃ W7, W7 = w7.alloc (.cells #[.slice none 0 0, .slice none 0 0, .slice none 0 0, .int .i64 0] 27) := ⟨_, rfl⟩
              rw [← hW7]
              have hbW7 : Below w7.heap.size w7 W7 := by rw [hW7]; exact (Below.refl _ _).alloc (Nat.le_refl _) _
              have HBW7 := Lib.hid (HB7.out.trans (hbW7.mono hz7))
              clear hW7 hbW7
              obtain ⟨⟨a0, a1, a2, a3⟩, ⟨e0, e1, e2, e3⟩⟩ := HBX.out W7 HBW7.out
              have hsm := HSM.out W7 HBW7.out
              obtain ⟨bS, hbS⟩ : ∃ b, sameB p q = b := ⟨_, rfl⟩
              have hsame2 := HSAME.out
              rw [hbS] at hsm hsame2
              have HSM2 := Lib.hid hsm
              have HSA2 := Lib.hid hsame2
              clear hsm hsame2 hbS
              go_wp2_with fail
              refine HSM2.out.mono ?_
              rintro e w8 ⟨rfl, hb8⟩
              have hzW7 := HBW7.out.size
              have hb18 := HBW7.out.trans (hb8.mono hzW7)
              have HB8 := Lib.hid hb18
              clear hb8 a0 a1 a2 a3 e0 e1 e2 e3
              obtain ⟨⟨a0, a1, a2, a3⟩, ⟨e0, e1, e2, e3⟩⟩ := HBX.out w8 hb18
              rw [HSA2.out]
              have hbb : (bS == bS) = true := by simp
              clear hb18
              go_wp2_with fail
              go_ret
              exact ⟨rfl, HB.out.trans (HB8.out.mono (by omega))⟩
            | succ j =>
              obtain ⟨M, hM⟩ : ∃ M, N1 + j = M := ⟨_, rfl⟩
              have hMs : M < s1.size := by omega
              have hby := HBY.out M hMs (by omega) (by omega)
              have HM := Lib.hid hM
              rw [show ((N1 + (j + 1) : Nat) : Int) = (M : Int) + 1 by omega]
              have hM0 : (0 : Int) ≤ (M : Int) := by omega
              clear hM hszz
              go_wp2_with fail
              go_round
              case rel => exact ⟨j, by omega, by rw [HM.out]⟩
              case measure => (simp [intOf] <;> omega)
        · have hxb : (x2 != 0) = true := by simpa using hx2
          subst hx1
          clear hx2
          go_wp2_with fail
          go_ret
          exact ⟨rfl, HB.out.trans (HB5.out.mono (by omega))⟩
      · have hxb : (x1 != 0) = true := by simpa using hx1
        clear hx1
        go_wp2_with fail
        go_ret
        exact ⟨rfl, HB.out.trans (HB5.out.mono (by omega))⟩
end Go.Proofs.YtdgifgdadminbaaDoor
