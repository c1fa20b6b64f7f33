/- The document's Print (jitneyref23.Print). Written by this session (by zp.py). -/
import Derived.Test.YtdgifgdadminbaaDoorZp
import Derived.Deep.DeepCutAuto
import Derived.Deep.CutRange
import Derived.Deep.RegionHeld3
set_option linter.unusedSimpArgs false
set_option linter.unusedVariables false
set_option maxRecDepth 100000
namespace Go.Proofs.YtdgifgdadminbaaDoor
open Go.RowKit Go.Proofs.YtdgifgdadminbaaDoorW.PrintWords Sp
open PFileParses (wrap_id ba_len toList_data info3 info2 info9 rd_L1 rd_L2 at_L1 at_L2)

set_option maxHeartbeats 32000000 in
theorem refPrint_ok (rv tv lv : Value) (p : Pl) (w : World) (hp : PlanAt rv tv lv p w) (hE : Env w) (hI : ∀ r ∈ p.routes, ∀ n ∈ r, I64 n) (hJ : ∀ r ∈ p.times, ∀ n ∈ r, I64 n) (hK : ∀ n ∈ p.left, I64 n) (hc : I64 p.cost) (hmm : manyB p = false) (hpp : pairedB p = true) :
    Calls Tryd.prog 18 #[.agg #[rv, tv, lv, .int .i64 p.cost]] w fun e w' => printQ p w e w' := by
  obtain ⟨⟨A1, c1, rfl, l1, h1⟩, ⟨A2, c2, rfl, l2, h2⟩, ⟨A3, c3, rfl, l3, h3⟩⟩ := hp
  obtain ⟨W, hW⟩ : ∃ W, W = w.alloc (.cells #[.slice A1 p.routes.length c1, .slice A2 p.times.length c2, .slice A3 p.left.length c3, .int .i64 p.cost] 31) := ⟨_, rfl⟩
  have hB : Below w.heap.size w W := by rw [hW]; exact (Below.refl w.heap.size w).alloc (Nat.le_refl _) _
  have hn : W.heap[w.heap.size]? = some (.cells #[.slice A1 p.routes.length c1, .slice A2 p.times.length c2, .slice A3 p.left.length c3, .int .i64 p.cost] 31 (0, 0)) := by rw [hW]; exact heap_alloc_new w _
  have hsz : w.heap.size < W.heap.size := by rw [hW]; simp
  have HC1 := Lib.hid (Kd.C_below h1 hB)
  have HC2 := Lib.hid (Kd.C_below h2 hB)
  have HC3 := Lib.hid (Kd.C_below h3 hB)
  have h3s := hE.size
  have HE := Lib.hid (hE.below hB hE.size)
  have HN := Lib.hid hn
  have HB := Lib.hid hB
  have HW := Lib.hid hW
  have HI := Lib.hid hI
  have HJ := Lib.hid hJ
  have HK := Lib.hid hK
  have HCC := Lib.hid hc
  have HMM := Lib.hid hmm
  have HPP := Lib.hid hpp
  clear hmm hpp
  have s1 := h1.2.1
  have s2 := h2.2.1
  have s3 := h3.2.1
  obtain ⟨a0, a1, a2, a3⟩ := box_belowT hn (Below.refl _ _)
  clear hn hB hW hI hJ hK hc hE h1 h2 h3
  by_cases k1 : 64 < p.routes.length
  · exact absurd (show manyB p = true by unfold manyB; rw [decide_eq_true k1]; rfl) (by rw [HMM.out]; decide)
  · have b1 : decide ((64 : Int) < (p.routes.length : Int)) = false := decide_eq_false (by omega)
    by_cases k2 : 4096 < p.left.length
    · exact absurd (show manyB p = true by unfold manyB; rw [decide_eq_true k2, Bool.or_true]; rfl) (by rw [HMM.out]; decide)
    · have b2 : decide ((4096 : Int) < (p.left.length : Int)) = false := decide_eq_false (by omega)
      have HMB := Lib.hid (manyB_rows k1 k2)
      have hcars : p.routes.length ≤ 64 := by omega
      have hlefts : p.left.length ≤ 4096 := by omega
      clear k1 k2
      go_enter Tryd.func18, Tryd.ntmps18
      go_upto_region 1 with fail
      rw [← HW.out]
      go_wp2_with fail
      clear b1 b2
      go_loop [4] (fun i => ∃ k : Nat, k ≤ p.routes.length ∧ i = .int .i64 k ∧ ∀ j (hj : j < p.routes.length), j < k → longB (p.routes[j]'hj) = false) (fun i => p.routes.length - (intOf i).toNat)
      case atStart => exact ⟨0, Nat.zero_le _, rfl, fun j _ hj => absurd hj (Nat.not_lt_zero _)⟩
      case round =>
        obtain ⟨k, hk, rfl, hno⟩ := hrel
        have HNO := Lib.hid hno
        clear hno
        by_cases hlt : k < p.routes.length
        · obtain ⟨ad1, B1, y1, rfl, hc1, hl1, hR1⟩ := at_L1 HC1.out (k : Int) (by omega) (by omega)
          rw [Int.toNat_natCast, rd_L1_at p.routes k hlt] at hc1
          rw [rd_L1_at p.routes k hlt] at hl1
          obtain ⟨row, hrow⟩ : ∃ r, r = p.routes[k]'hlt := ⟨_, rfl⟩
          rw [← hrow] at hc1 hl1
          have hrl : row.length ≤ 9223372036854775807 := by
            have := hR1.2.1
            rw [rd_L1_at p.routes k hlt] at this
            rw [hrow]
            exact this
          have HROW := Lib.hid hrow
          clear hR1 hrow
          by_cases hlong : 4096 < row.length
          · exact absurd (show manyB p = true by rw [HMB.out]; exact any_true_at hlt (by unfold longB; rw [← HROW.out]; exact decide_eq_true hlong)) (by rw [HMM.out]; decide)
          · have b3 : decide ((4096 : Int) < (row.length : Int)) = false := decide_eq_false (by omega)
            have hlb : longB (p.routes[k]'hlt) = false := by unfold longB; rw [← HROW.out]; exact decide_eq_false hlong
            have HLB := Lib.hid hlb
            clear hlb hlong
            go_wp2_with fail
            go_round
            case rel =>
              refine ⟨k + 1, by omega, by go_num, fun j hj hjk => ?_⟩
              by_cases hjk2 : j < k
              · exact HNO.out j hj hjk2
              · have : j = k := by omega
                subst this
                exact HLB.out
            case measure => (simp [intOf] <;> omega)
        · have hm : manyB p = false := by rw [HMB.out]; exact any_false_take (fun j hj => HNO.out j hj (by omega))
          have HM := Lib.hid hm
          clear hm
          by_cases hlen : p.times.length = p.routes.length
          · have b3 : ((p.times.length : Int) != (p.routes.length : Int)) = false := by simp; omega
            have HLEN := Lib.hid hlen
            have hpl : (pairs p).length = p.routes.length := by unfold pairs; rw [List.length_zip]; omega
            have HPL := Lib.hid hpl
            have hrows : ∀ r ∈ p.routes, r.length ≤ 4096 := by
              intro r hr
              obtain ⟨j, hj, rfl⟩ := List.getElem_of_mem hr
              have := HNO.out j hj (by omega)
              unfold longB at this
              simp at this
              omega
            have HROWS := Lib.hid hrows
            clear hlen hpl hrows
            go_wp2_with fail
            clear b3 a0 a1 a2 a3
            go_loopw [5] (fun i wr => ∃ k : Nat, k ≤ p.routes.length ∧ i = .int .i64 k ∧ (∀ j (hj : j < (pairs p).length), j < k → pairB ((pairs p)[j]'hj) = false) ∧ Below W.heap.size W wr) (fun i _ => p.routes.length - (intOf i).toNat)
            case atStart => exact ⟨0, Nat.zero_le _, rfl, fun j _ hj => absurd hj (Nat.not_lt_zero _), Below.refl _ _⟩
            case round =>
              obtain ⟨m, hm, rfl, hno2, hbr⟩ := hrel
              have HNO2 := Lib.hid hno2
              have HBR := Lib.hid hbr
              have hzr := hbr.size
              obtain ⟨a0, a1, a2, a3⟩ := box_belowT HN.out hbr
              clear hno2 hbr
              by_cases hmt : m < p.routes.length
              · have hmt2 : m < p.times.length := by rw [HLEN.out]; exact hmt
                have hmp : m < (pairs p).length := by rw [HPL.out]; exact hmt
                obtain ⟨ad1, B1, y1, hA1, hc1, hl1, hR1⟩ := at_L1 HC1.out (m : Int) (by omega) (by omega)
                obtain ⟨ad2, B2, y2, hA2, hc2, hl2, hR2⟩ := at_L2 HC2.out (m : Int) (by omega) (by omega)
                rw [Int.toNat_natCast, rd_L1_at p.routes m hmt] at hc1
                rw [Int.toNat_natCast, rd_L2_at p.times m hmt2] at hc2
                have hx := pairs_at p m hmp hmt hmt2
                have hd1 := cell_below hc1 HBR.out
                have hd2 := cell_below hc2 HBR.out
                have q1 := HROWS.out _ (List.getElem_mem hmt)
                have hq2 : (p.times[m]'hmt2).length ≤ 9223372036854775807 := by
                  have := hR2.2.1
                  rw [rd_L2_at p.times m hmt2] at this
                  exact this
                obtain ⟨row, hrow⟩ : ∃ r, r = p.routes[m]'hmt := ⟨_, rfl⟩
                obtain ⟨tim, htim⟩ : ∃ r, r = p.times[m]'hmt2 := ⟨_, rfl⟩
                rw [← hrow] at hd1 hx q1
                rw [← htim] at hd2 hx hq2
                have HX := Lib.hid hx
                have HA1 := Lib.hid hA1
                have HA2 := Lib.hid hA2
                subst hA1
                subst hA2
                clear hx hrow htim hc1 hc2 hl1 hl2 hR1 hR2
                have hbad : pairB (row, tim) = true → False := by
                  intro h
                  have hpr : pairedB p = false := by
                    unfold pairedB
                    rw [any_true_at (q := pairB) hmp (by rw [HX.out]; exact h)]
                    simp
                  rw [HPP.out] at hpr
                  cases hpr
                have HBAD := Lib.hid hbad
                have hgood : pairB (row, tim) = false → ∀ j (hj : j < (pairs p).length), j < m + 1 → pairB ((pairs p)[j]'hj) = false := by
                  intro h j hj hjm
                  by_cases hj2 : j < m
                  · exact HNO2.out j hj hj2
                  · have : j = m := by omega
                    subst this
                    rw [HX.out]
                    exact h
                have HGOOD := Lib.hid hgood
                clear hbad hgood
                by_cases e1 : row.length = 0
                · have g1 : ((row.length : Int) == 0) = true := beq_iff_eq.2 (by omega)
                  have HPB := Lib.hid (show pairB (row, tim) = true by unfold pairB; rw [decide_eq_true e1]; rfl)
                  exact (HBAD.out HPB.out).elim
                · have g1 : ((row.length : Int) == 0) = false := beq_eq_false_iff_ne.2 (by omega)
                  by_cases e2 : tim.length = row.length
                  · have g2 : ((tim.length : Int) != (row.length : Int)) = false := by rw [bne_eq_false_iff_eq]; omega
                    have HPB := Lib.hid (show pairB (row, tim) = false by unfold pairB; rw [decide_eq_false e1, decide_eq_false (fun h => h e2)]; rfl)
                    clear e1 e2
                    go_upto_region 13 with fail
                    go_quiet (fail)
                    go_wp2_with fail
                    go_roundw
                    case rel => exact ⟨m + 1, by omega, by go_num, HGOOD.out HPB.out, HBR.out.trans ((pw_below_drewN (Below.refl wr.heap.size wr) _).mono hzr)⟩
                    case measure => (simp [intOf] <;> omega)
                  · have g2 : ((tim.length : Int) != (row.length : Int)) = true := bne_iff_ne.2 (by omega)
                    by_cases e3 : 0 < tim.length
                    · have g3 : decide ((0 : Int) < (tim.length : Int)) = true := decide_eq_true (by omega)
                      have g4 : decide (0 < tim.length) = true := decide_eq_true e3
                      have HPB := Lib.hid (show pairB (row, tim) = true by unfold pairB; rw [decide_eq_false e1, decide_eq_true (show tim.length ≠ row.length from e2), decide_eq_true e3]; rfl)
                      exact (HBAD.out HPB.out).elim
                    · have g3 : decide ((0 : Int) < (tim.length : Int)) = false := decide_eq_false (by omega)
                      have g4 : decide (0 < tim.length) = false := decide_eq_false e3
                      have HPB := Lib.hid (show pairB (row, tim) = false by unfold pairB; rw [decide_eq_false e1, decide_eq_false e3, Bool.and_false]; rfl)
                      clear e1 e2 e3
                      go_upto_region 13 with fail
                      go_quiet (fail)
                      go_wp2_with fail
                      go_roundw
                      case rel => exact ⟨m + 1, by omega, by go_num, HGOOD.out HPB.out, HBR.out.trans ((pw_below_drewN (Below.refl wr.heap.size wr) _).mono hzr)⟩
                      case measure => (simp [intOf] <;> omega)
              · have hpr : pairedB p = true := by
                  unfold pairedB
                  rw [decide_eq_true HLEN.out, any_false_take (fun j hj => HNO2.out j hj (by have := HPL.out; omega))]
                  rfl
                have HPR := Lib.hid hpr
                clear hpr
                have hfit : Fit p := by
                  refine ⟨hcars, hlefts, HROWS.out, HLEN.out, ?_, HI.out, HJ.out, HK.out, HCC.out⟩
                  intro r hr
                  obtain ⟨j, hj, rfl⟩ := List.getElem_of_mem hr
                  have hlen2 := HLEN.out
                  have hjp : j < (pairs p).length := by rw [HPL.out]; omega
                  have hno3 := HNO2.out j hjp (by omega)
                  rw [pairs_at p j hjp (by omega) hj, pairB_ok] at hno3
                  have hrr := HROWS.out _ (List.getElem_mem (l := p.routes) (n := j) (by omega))
                  rcases hno3.2 with h | h
                  · dsimp only at h
                    omega
                  · dsimp only at h
                    rw [h]
                    simp
                have HFIT := Lib.hid hfit
                have hil := itoa_len (n := (p.routes.length : Int)) (by unfold I64; omega)
                have hil2 := itoa_len HCC.out
                obtain ⟨t1, ht1⟩ : ∃ t, t = mk (Lib.itoa (p.routes.length : Int)) := ⟨_, rfl⟩
                obtain ⟨t2, ht2⟩ : ∃ t, t = mk (Lib.itoa p.cost) := ⟨_, rfl⟩
                have hz1 : t1.size ≤ 20 := by rw [ht1, mk_size]; exact hil
                have hz2 : t2.size ≤ 20 := by rw [ht2, mk_size]; exact hil2
                have hIt := fun w' (hb : Below wr.heap.size wr w') => itoa_c (p.routes.length : Int) w' (by unfold I64; omega) ((HE.out.below HBR.out (by omega)).below hb (by omega))
                have hFt := fun w' (hb : Below wr.heap.size wr w') => format_c p.cost w' HCC.out ((HE.out.below HBR.out (by omega)).below hb (by omega))
                rw [← ht1] at hIt
                rw [← ht2] at hFt
                have HIT := Lib.hid hIt
                have HFT := Lib.hid hFt
                have HT1 := Lib.hid ht1
                have HT2 := Lib.hid ht2
                have HS0 := Lib.hid (And.intro a0 (And.intro a3 (Below.refl wr.heap.size wr)))
                have k5 : (ByteArray.mk #[112, 108, 97, 110, 32]).size = 5 := rfl
                have k1 : (ByteArray.mk #[32]).size = 1 := rfl
                have k10 : (ByteArray.mk #[10]).size = 1 := rfl
                have q1 := fun (W' : World) => run_string_add_sum (P := Tryd.prog) (w := W') (ByteArray.mk #[112, 108, 97, 110, 32]) t1 (by omega)
                have q2 := fun (W' : World) => run_string_add_sum (P := Tryd.prog) (w := W') (ByteArray.mk #[112, 108, 97, 110, 32] ++ t1) (ByteArray.mk #[32]) (by rw [cat_size]; omega)
                have q3 := fun (W' : World) => run_string_add_sum (P := Tryd.prog) (w := W') (ByteArray.mk #[112, 108, 97, 110, 32] ++ t1 ++ ByteArray.mk #[32]) t2 (by rw [cat_size, cat_size]; omega)
                have q4 := fun (W' : World) => run_string_add_sum (P := Tryd.prog) (w := W') (ByteArray.mk #[112, 108, 97, 110, 32] ++ t1 ++ ByteArray.mk #[32] ++ t2) (ByteArray.mk #[10]) (by rw [cat_size, cat_size, cat_size]; omega)
                clear hfit hil hil2 ht1 ht2 hIt hFt k5 k1 k10
                go_upto_region 15 with fail
                have htx : (ByteArray.mk #[112, 108, 97, 110, 32] ++ t1 ++ ByteArray.mk #[32] ++ t2 ++ ByteArray.mk #[10]).data.toList = txt p 0 := by
                  rw [cat_list, cat_list, cat_list, cat_list, HT1.out, HT2.out, data_mk, data_mk, txt_zero]
                  simp [lineW, lineB, bPlan]
                have HTX := Lib.hid htx
                clear htx
                go_cut [6] (fun out wx => ∃ s0 : ByteArray, out = .string s0 ∧ s0.data.toList = txt p 0 ∧ Below wr.heap.size wr wx)
                case first =>
                  go_region_held3 (fun w' => w'.cell? ⟨w.heap.size, 0, none⟩ = some (.slice A1 p.routes.length c1) ∧ w'.cell? ⟨w.heap.size, 3, none⟩ = some (.int .i64 p.cost) ∧ Below wr.heap.size wr w')
                    (first | assumption | exact keepZ HS0.out (drewB _) | exact keepZ (by assumption) (by assumption))
                    (first | (go_at_call 48; refine (HIT.out _ ?_).mono ?_; (exact And.right (And.right (by assumption))); rintro e w' ⟨rfl, hbX⟩) | (go_at_call 49; refine (HFT.out _ ?_).mono ?_; (exact And.right (And.right (by assumption))); rintro e w' ⟨rfl, hbX⟩))
                  all_goals
                    have hbb := And.right (And.right (by assumption : w'.cell? ⟨w.heap.size, 0, none⟩ = some (.slice A1 p.routes.length c1) ∧ w'.cell? ⟨w.heap.size, 3, none⟩ = some (.int .i64 p.cost) ∧ Below wr.heap.size wr w'))
                    have HBB := Lib.hid hbb
                    clear hbb
                    go_wp2_with fail
                    go_meet
                    case rel => exact ⟨_, rfl, HTX.out, HBB.out⟩
                case rest =>
                  clear q1 q2 q3 q4
                  obtain ⟨s0, rfl, hs0, hbc⟩ := hcut
                  have HS00 := Lib.hid hs0
                  have HBC := Lib.hid hbc
                  clear hs0 hbc
                  have hbwc := HBR.out.trans (HBC.out.mono hzr)
                  have HBWC := Lib.hid hbwc
                  clear hbwc a0 a1 a2 a3
                  obtain ⟨a0, a1, a2, a3⟩ := box_belowT HN.out HBWC.out
                  go_upto_region 16 with fail
                  go_cut [7] (fun bad wx => bad = .bool (outB p.cost) ∧ wx = wc)
                  case first =>
                    by_cases hneg : p.cost < 0
                    · have b7 : decide (p.cost < 0) = true := decide_eq_true hneg
                      have ho : outB p.cost = true := by unfold outB; rw [b7]; rfl
                      have HO := Lib.hid ho
                      clear ho hneg
                      go_wp2_with fail
                      go_meet
                      case rel => exact ⟨by rw [HO.out], rfl⟩
                    · have b7 : decide (p.cost < 0) = false := decide_eq_false hneg
                      have ho : outB p.cost = decide (1099511627776 < p.cost) := by unfold outB; rw [b7]; rfl
                      have HO := Lib.hid ho
                      clear ho hneg
                      go_wp2_with fail
                      go_meet
                      case rel => exact ⟨by rw [HO.out], rfl⟩
                  case rest =>
                    obtain ⟨rfl, rfl⟩ := hcut
                    go_wp2_with fail
                    clear a0 a1 a2 a3
                    go_loopw [6, 7, 8] (fun out bad ii wr2 => ∃ (k : Nat) (s : ByteArray), k ≤ p.routes.length ∧ ii = .int .i64 k ∧ out = .string s ∧ s.data.toList = txt p k ∧ bad = .bool (badB p k) ∧ Below W.heap.size W wr2) (fun _ _ ii _ => p.routes.length - (intOf ii).toNat)
                    case atStart => exact ⟨0, _, Nat.zero_le _, rfl, rfl, HS00.out, (by rw [badB_zero]), HBWC.out⟩
                    case round =>
                      obtain ⟨k, so, hk, rfl, rfl, hsd, rfl, hbq⟩ := hrel
                      have HBQ0 := Lib.hid hbq
                      obtain ⟨a0, a1, a2, a3⟩ := box_belowT HN.out hbq
                      have HSO := Lib.hid hsd
                      have hsl : so.size ≤ 14000000 := by
                        rw [← ba_len, hsd]
                        have := txt_fit p HFIT.out k (by rw [HPL.out]; exact hk)
                        omega
                      by_cases hkt : k < p.routes.length
                      · have hkt2 : k < p.times.length := by rw [HLEN.out]; exact hkt
                        have hkp : k < (pairs p).length := by rw [HPL.out]; exact hkt
                        obtain ⟨ad1, B1, y1, hA1, hc1, hl1, hR1⟩ := at_L1 HC1.out (k : Int) (by omega) (by omega)
                        obtain ⟨ad2, B2, y2, hA2, hc2, hl2, hR2⟩ := at_L2 HC2.out (k : Int) (by omega) (by omega)
                        rw [Int.toNat_natCast, rd_L1_at p.routes k hkt] at hc1
                        rw [rd_L1_at p.routes k hkt] at hR1
                        rw [Int.toNat_natCast, rd_L2_at p.times k hkt2] at hc2
                        rw [rd_L2_at p.times k hkt2] at hR2
                        have hx := pairs_at p k hkp hkt hkt2
                        have hts := txt_succ p k hkp
                        have hsu := badB_succ p k hkp
                        rw [hx] at hts hsu
                        dsimp only at hts hsu
                        have q1 := HROWS.out _ (List.getElem_mem hkt)
                        have q2 := HFIT.out.tims _ (List.getElem_mem hkt2)
                        have hri := HI.out _ (List.getElem_mem hkt)
                        have hrj := HJ.out _ (List.getElem_mem hkt2)
                        obtain ⟨row, hrow⟩ : ∃ r, r = p.routes[k]'hkt := ⟨_, rfl⟩
                        obtain ⟨tim, htim⟩ : ∃ r, r = p.times[k]'hkt2 := ⟨_, rfl⟩
                        rw [← hrow] at hc1 hR1 hts hsu q1 hri
                        rw [← htim] at hc2 hR2 hts hsu q2 hrj
                        have HCR1 := Lib.hid hc1
                        have HCR2 := Lib.hid hc2
                        have HR1C := Lib.hid hR1
                        have HR2C := Lib.hid hR2
                        have HTS := Lib.hid hts
                        have HSUC := Lib.hid hsu
                        have HRI := Lib.hid hri
                        have HRJ := Lib.hid hrj
                        have hsta : ∀ s' : ByteArray, s' = so ++ ByteArray.mk #[114, 111, 117, 116, 101] → s'.data.toList = txt p k ++ lineW bRoute (row.take 0) := by
                          rintro s' rfl
                          rw [cat_list, HSO.out, List.take_zero, lineW_nil]
                          rfl
                        have HSTA := Lib.hid hsta
                        subst hA1
                        subst hA2
                        clear hsta hx hts hsu hri hrj hrow htim hc1 hc2 hl1 hl2 hR1 hR2 hsd hbq
                        have e7 := fun (W' : World) => run_string_add_sum (P := Tryd.prog) (w := W') so (ByteArray.mk #[114, 111, 117, 116, 101]) (by rw [show (ByteArray.mk #[114, 111, 117, 116, 101]).size = 5 from rfl]; omega)
                        go_wp2_with fail
                        clear e7 a0 a1 a2 a3
                        go_loopw [6, 7, 9] (fun out bad jj wq => ∃ (j : Nat) (s : ByteArray), j ≤ row.length ∧ jj = .int .i64 j ∧ out = .string s ∧ s.data.toList = txt p k ++ lineW bRoute (row.take j) ∧ bad = .bool (badB p k || (row.take j).any outB) ∧ Below W.heap.size W wq) (fun _ _ jj _ => row.length - (intOf jj).toNat)
                        case atStart => exact ⟨0, _, Nat.zero_le _, rfl, rfl, HSTA.out _ rfl, (by rw [List.take_zero, List.any_nil, Bool.or_false]), HBQ0.out⟩
                        case round =>
                          as_aux_lemma =>
                            obtain ⟨j, s, hj, rfl, rfl, hsd, rfl, hbq⟩ := hrel
                            have HBQ := Lib.hid hbq
                            have hzq := hbq.size
                            obtain ⟨a0, a1, a2, a3⟩ := box_belowT HN.out hbq
                            have hd1 := cell_below HCR1.out hbq
                            obtain ⟨bb, hbb⟩ : ∃ bb, (badB p k || (row.take j).any outB) = bb := ⟨_, rfl⟩
                            rw [hbb]
                            have hsl : s.size ≤ 20000000 := by
                              rw [← ba_len, hsd, List.length_append]
                              have hw := lineW_len (a := bRoute) (ns := row.take j) (fun n hn => HRI.out n (List.mem_of_mem_take hn))
                              rw [List.length_take] at hw
                              have hb5 : bRoute.length ≤ 5 := by decide
                              have htl := txt_fit p HFIT.out k (by rw [HPL.out]; omega)
                              omega
                            have HSD := Lib.hid hsd
                            have HBB := Lib.hid hbb
                            clear hsd hbb hbq
                            by_cases hjt : j < row.length
                            · obtain ⟨ax, hax, hcx⟩ := Kd.at_int (Kd.C_below HR1C.out HBQ.out) (j : Int) (by omega) (by omega)
                              rw [Int.toNat_natCast, rd_at' row j hjt] at hcx
                              have hin := HRI.out (row[j]'hjt) (List.getElem_mem hjt)
                              have hat := any_take_succ row j hjt
                              have htk := List.take_succ_eq_append_getElem hjt
                              obtain ⟨n, hn⟩ : ∃ n, n = row[j]'hjt := ⟨_, rfl⟩
                              rw [← hn] at hcx hin hat htk
                              have hil := itoa_len hin
                              obtain ⟨t, ht⟩ : ∃ t, t = mk (Lib.itoa n) := ⟨_, rfl⟩
                              have hzt : t.size ≤ 20 := by rw [ht, mk_size]; exact hil
                              have hca := itoa_c n wr hin (HE.out.below HBQ.out (by omega))
                              rw [← ht] at hca
                              have HCA := Lib.hid hca
                              have htd : t.data.toList = Lib.itoa n := by rw [ht, data_mk]
                              have HTD := Lib.hid htd
                              have HAT := Lib.hid hat
                              have HTK := Lib.hid htk
                              have HAX := Lib.hid hax
                              subst hax
                              have e5 := fun (W' : World) => run_string_add_sum (P := Tryd.prog) (w := W') s (ByteArray.mk #[32]) (by rw [show (ByteArray.mk #[32]).size = 1 from rfl]; omega)
                              have e6 := fun (W' : World) => run_string_add_sum (P := Tryd.prog) (w := W') (s ++ ByteArray.mk #[32]) t (by rw [cat_size, show (ByteArray.mk #[32]).size = 1 from rfl]; omega)
                              clear hn hin hat htk hil ht hca htd
                              go_wp2_with fail
                              refine HCA.out.mono ?_
                              rintro e wp ⟨rfl, hbp⟩
                              have hbqp := HBQ.out.trans (hbp.mono hzq)
                              have HBP := Lib.hid hbqp
                              have hcx2 := cell_below hcx hbp
                              have hd1x := cell_below HCR1.out HBP.out
                              clear hbp hbqp hcx a0 a1 a2 a3 hd1
                              obtain ⟨a0, a1, a2, a3⟩ := box_belowT HN.out HBP.out
                              have hdat : ∀ s' : ByteArray, s' = s ++ ⟨#[32]⟩ ++ t → s'.data.toList = txt p k ++ lineW bRoute (row.take (j + 1)) := by
                                rintro s' rfl
                                rw [cat_list, cat_list, HSD.out, HTD.out, HTK.out]
                                unfold lineW
                                rw [List.map_append, List.map_cons, List.map_nil, lineB_snoc]
                                simp
                              have HDAT := Lib.hid hdat
                              clear hdat
                              cases bb
                              · by_cases hneg : n < 0
                                · have b7 : decide (n < 0) = true := decide_eq_true hneg
                                  have ho : outB n = true := by unfold outB; rw [b7]; rfl
                                  have HO := Lib.hid ho
                                  clear ho hneg
                                  go_wp2_with fail
                                  go_roundw
                                  case rel => exact ⟨j + 1, _, by omega, by go_num, rfl, HDAT.out _ rfl, (by rw [HAT.out, ← Bool.or_assoc, HBB.out, HO.out]; try rfl), HBP.out⟩
                                  case measure => (simp [intOf] <;> omega)
                                · have b7 : decide (n < 0) = false := decide_eq_false hneg
                                  have ho : outB n = decide (1099511627776 < n) := by unfold outB; rw [b7]; rfl
                                  have HO := Lib.hid ho
                                  clear ho hneg
                                  go_wp2_with fail
                                  go_roundw
                                  case rel => exact ⟨j + 1, _, by omega, by go_num, rfl, HDAT.out _ rfl, (by rw [HAT.out, ← Bool.or_assoc, HBB.out, HO.out]; try rfl), HBP.out⟩
                                  case measure => (simp [intOf] <;> omega)
                              · go_wp2_with fail
                                go_roundw
                                case rel => exact ⟨j + 1, _, by omega, by go_num, rfl, HDAT.out _ rfl, (by rw [HAT.out, ← Bool.or_assoc, HBB.out]; try rfl), HBP.out⟩
                                case measure => (simp [intOf] <;> omega)
                            · have hjn : j = row.length := by omega
                              subst hjn
                              have hsd2 := HSD.out
                              have hbb2 := HBB.out
                              rw [List.take_length] at hsd2 hbb2
                              have HSD2 := Lib.hid hsd2
                              have HBB2 := Lib.hid hbb2
                              clear hsd2 hbb2
                              have hstb : ∀ s' : ByteArray, s' = s ++ ByteArray.mk #[10, 116, 105, 109, 101, 115] → s'.data.toList = (txt p k ++ (lineW bRoute row ++ [10])) ++ lineW bTimes (tim.take 0) := by
                                rintro s' rfl
                                rw [cat_list, HSD2.out, List.take_zero, lineW_nil]
                                simp [bTimes]
                              have HSTB := Lib.hid hstb
                              clear hstb
                              have e7 := fun (W' : World) => run_string_add_sum (P := Tryd.prog) (w := W') s (ByteArray.mk #[10, 116, 105, 109, 101, 115]) (by rw [show (ByteArray.mk #[10, 116, 105, 109, 101, 115]).size = 6 from rfl]; omega)
                              go_wp2_with fail
                              clear e7 a0 a1 a2 a3 hd1
                              go_loopw [6, 7, 10] (fun out bad jj wq => ∃ (j : Nat) (s : ByteArray), j ≤ tim.length ∧ jj = .int .i64 j ∧ out = .string s ∧ s.data.toList = (txt p k ++ (lineW bRoute row ++ [10])) ++ lineW bTimes (tim.take j) ∧ bad = .bool ((badB p k || row.any outB) || (tim.take j).any outB) ∧ Below W.heap.size W wq) (fun _ _ jj _ => tim.length - (intOf jj).toNat)
                              case atStart => exact ⟨0, _, Nat.zero_le _, rfl, rfl, HSTB.out _ rfl, (by rw [List.take_zero, List.any_nil, Bool.or_false, HBB2.out]), HBQ.out⟩
                              case round =>
                                as_aux_lemma =>
                                  obtain ⟨j, s, hj, rfl, rfl, hsd, rfl, hbq⟩ := hrel
                                  have HBQ := Lib.hid hbq
                                  have hzq := hbq.size
                                  obtain ⟨a0, a1, a2, a3⟩ := box_belowT HN.out hbq
                                  have hd1 := cell_below HCR2.out hbq
                                  obtain ⟨bb, hbb⟩ : ∃ bb, ((badB p k || row.any outB) || (tim.take j).any outB) = bb := ⟨_, rfl⟩
                                  rw [hbb]
                                  have hsl : s.size ≤ 20000000 := by
                                    rw [← ba_len, hsd, List.length_append]
                                    have hw := lineW_len (a := bTimes) (ns := tim.take j) (fun n hn => HRJ.out n (List.mem_of_mem_take hn))
                                    rw [List.length_take] at hw
                                    have hb5 : bTimes.length ≤ 5 := by decide
                                    have htl := txt_fit p HFIT.out k (by rw [HPL.out]; omega)
                                    have hlr := lineW_len (a := bRoute) HRI.out
                                    have hb6 : bRoute.length = 5 := rfl
                                    simp only [List.length_append, List.length_cons, List.length_nil]
                                    omega
                                  have HSD := Lib.hid hsd
                                  have HBB := Lib.hid hbb
                                  clear hsd hbb hbq
                                  by_cases hjt : j < tim.length
                                  · obtain ⟨ax, hax, hcx⟩ := Kd.at_int (Kd.C_below HR2C.out HBQ.out) (j : Int) (by omega) (by omega)
                                    rw [Int.toNat_natCast, rd_at' tim j hjt] at hcx
                                    have hin := HRJ.out (tim[j]'hjt) (List.getElem_mem hjt)
                                    have hat := any_take_succ tim j hjt
                                    have htk := List.take_succ_eq_append_getElem hjt
                                    obtain ⟨n, hn⟩ : ∃ n, n = tim[j]'hjt := ⟨_, rfl⟩
                                    rw [← hn] at hcx hin hat htk
                                    have hil := itoa_len hin
                                    obtain ⟨t, ht⟩ : ∃ t, t = mk (Lib.itoa n) := ⟨_, rfl⟩
                                    have hzt : t.size ≤ 20 := by rw [ht, mk_size]; exact hil
                                    have hca := format_c n wr hin (HE.out.below HBQ.out (by omega))
                                    rw [← ht] at hca
                                    have HCA := Lib.hid hca
                                    have htd : t.data.toList = Lib.itoa n := by rw [ht, data_mk]
                                    have HTD := Lib.hid htd
                                    have HAT := Lib.hid hat
                                    have HTK := Lib.hid htk
                                    have HAX := Lib.hid hax
                                    subst hax
                                    have e5 := fun (W' : World) => run_string_add_sum (P := Tryd.prog) (w := W') s (ByteArray.mk #[32]) (by rw [show (ByteArray.mk #[32]).size = 1 from rfl]; omega)
                                    have e6 := fun (W' : World) => run_string_add_sum (P := Tryd.prog) (w := W') (s ++ ByteArray.mk #[32]) t (by rw [cat_size, show (ByteArray.mk #[32]).size = 1 from rfl]; omega)
                                    clear hn hin hat htk hil ht hca htd
                                    go_wp2_with fail
                                    refine HCA.out.mono ?_
                                    rintro e wp ⟨rfl, hbp⟩
                                    have hbqp := HBQ.out.trans (hbp.mono hzq)
                                    have HBP := Lib.hid hbqp
                                    have hcx2 := cell_below hcx hbp
                                    have hd1x := cell_below HCR2.out HBP.out
                                    clear hbp hbqp hcx a0 a1 a2 a3 hd1
                                    obtain ⟨a0, a1, a2, a3⟩ := box_belowT HN.out HBP.out
                                    have hdat : ∀ s' : ByteArray, s' = s ++ ⟨#[32]⟩ ++ t → s'.data.toList = (txt p k ++ (lineW bRoute row ++ [10])) ++ lineW bTimes (tim.take (j + 1)) := by
                                      rintro s' rfl
                                      rw [cat_list, cat_list, HSD.out, HTD.out, HTK.out]
                                      unfold lineW
                                      rw [List.map_append, List.map_cons, List.map_nil, lineB_snoc]
                                      simp
                                    have HDAT := Lib.hid hdat
                                    clear hdat
                                    cases bb
                                    · by_cases hneg : n < 0
                                      · have b7 : decide (n < 0) = true := decide_eq_true hneg
                                        have ho : outB n = true := by unfold outB; rw [b7]; rfl
                                        have HO := Lib.hid ho
                                        clear ho hneg
                                        go_wp2_with fail
                                        go_roundw
                                        case rel => exact ⟨j + 1, _, by omega, by go_num, rfl, HDAT.out _ rfl, (by rw [HAT.out, ← Bool.or_assoc, HBB.out, HO.out]; try rfl), HBP.out⟩
                                        case measure => (simp [intOf] <;> omega)
                                      · have b7 : decide (n < 0) = false := decide_eq_false hneg
                                        have ho : outB n = decide (1099511627776 < n) := by unfold outB; rw [b7]; rfl
                                        have HO := Lib.hid ho
                                        clear ho hneg
                                        go_wp2_with fail
                                        go_roundw
                                        case rel => exact ⟨j + 1, _, by omega, by go_num, rfl, HDAT.out _ rfl, (by rw [HAT.out, ← Bool.or_assoc, HBB.out, HO.out]; try rfl), HBP.out⟩
                                        case measure => (simp [intOf] <;> omega)
                                    · go_wp2_with fail
                                      go_roundw
                                      case rel => exact ⟨j + 1, _, by omega, by go_num, rfl, HDAT.out _ rfl, (by rw [HAT.out, ← Bool.or_assoc, HBB.out]; try rfl), HBP.out⟩
                                      case measure => (simp [intOf] <;> omega)
                                  · have hjn : j = tim.length := by omega
                                    subst hjn
                                    have hsd2 := HSD.out
                                    have hbb2 := HBB.out
                                    rw [List.take_length] at hsd2 hbb2
                                    have HSD2 := Lib.hid hsd2
                                    have HBB2 := Lib.hid hbb2
                                    clear hsd2 hbb2
                                    have hfin : ∀ s' : ByteArray, s' = s ++ ByteArray.mk #[10] → s'.data.toList = txt p (k + 1) := by
                                      rintro s' rfl
                                      rw [cat_list, HSD2.out, HTS.out]
                                      simp
                                    have HFIN := Lib.hid hfin
                                    clear hfin
                                    have e7 := fun (W' : World) => run_string_add_sum (P := Tryd.prog) (w := W') s (ByteArray.mk #[10]) (by rw [show (ByteArray.mk #[10]).size = 1 from rfl]; omega)
                                    go_wp2_with fail
                                    go_roundw
                                    case rel => exact ⟨k + 1, _, by omega, by go_num, rfl, HFIN.out _ rfl, by rw [HSUC.out, HBB2.out], HBQ.out⟩
                                    case measure => (simp [intOf] <;> omega)
                      · have hkn : k = p.routes.length := by omega
                        subst hkn
                        have hstc : ∀ s' : ByteArray, s' = so ++ ByteArray.mk #[108, 101, 102, 116] → s'.data.toList = txt p p.routes.length ++ lineW bLeft (p.left.take 0) := by
                          rintro s' rfl
                          rw [cat_list, HSO.out, List.take_zero, lineW_nil]
                          rfl
                        have HSTC := Lib.hid hstc
                        clear hstc hsd hbq
                        have e7 := fun (W' : World) => run_string_add_sum (P := Tryd.prog) (w := W') so (ByteArray.mk #[108, 101, 102, 116]) (by rw [show (ByteArray.mk #[108, 101, 102, 116]).size = 4 from rfl]; omega)
                        go_wp2_with fail
                        clear e7 a0 a1 a2 a3
                        go_loopw [6, 7, 11] (fun out bad jj wq => ∃ (j : Nat) (s : ByteArray), j ≤ p.left.length ∧ jj = .int .i64 j ∧ out = .string s ∧ s.data.toList = txt p p.routes.length ++ lineW bLeft (p.left.take j) ∧ bad = .bool (badB p p.routes.length || (p.left.take j).any outB) ∧ Below W.heap.size W wq) (fun _ _ jj _ => p.left.length - (intOf jj).toNat)
                        case atStart => exact ⟨0, _, Nat.zero_le _, rfl, rfl, HSTC.out _ rfl, (by rw [List.take_zero, List.any_nil, Bool.or_false]), HBQ0.out⟩
                        case round =>
                          as_aux_lemma =>
                            obtain ⟨j, s, hj, rfl, rfl, hsd, rfl, hbq⟩ := hrel
                            have HBQ := Lib.hid hbq
                            have hzq := hbq.size
                            obtain ⟨a0, a1, a2, a3⟩ := box_belowT HN.out hbq
                            obtain ⟨bb, hbb⟩ : ∃ bb, (badB p p.routes.length || (p.left.take j).any outB) = bb := ⟨_, rfl⟩
                            rw [hbb]
                            have hsl : s.size ≤ 20000000 := by
                              rw [← ba_len, hsd, List.length_append]
                              have hw := lineW_len (a := bLeft) (ns := p.left.take j) (fun n hn => HK.out n (List.mem_of_mem_take hn))
                              rw [List.length_take] at hw
                              have hb5 : bLeft.length ≤ 5 := by decide
                              have htl := txt_fit p HFIT.out p.routes.length (by rw [HPL.out]; exact Nat.le_refl _)
                              omega
                            have HSD := Lib.hid hsd
                            have HBB := Lib.hid hbb
                            clear hsd hbb hbq
                            by_cases hjt : j < p.left.length
                            · obtain ⟨ax, hax, hcx⟩ := Kd.at_int (Kd.C_below HC3.out HBQ.out) (j : Int) (by omega) (by omega)
                              rw [Int.toNat_natCast, rd_at' p.left j hjt] at hcx
                              have hin := HK.out (p.left[j]'hjt) (List.getElem_mem hjt)
                              have hat := any_take_succ p.left j hjt
                              have htk := List.take_succ_eq_append_getElem hjt
                              obtain ⟨n, hn⟩ : ∃ n, n = p.left[j]'hjt := ⟨_, rfl⟩
                              rw [← hn] at hcx hin hat htk
                              have hil := itoa_len hin
                              obtain ⟨t, ht⟩ : ∃ t, t = mk (Lib.itoa n) := ⟨_, rfl⟩
                              have hzt : t.size ≤ 20 := by rw [ht, mk_size]; exact hil
                              have hca := itoa_c n wr hin (HE.out.below HBQ.out (by omega))
                              rw [← ht] at hca
                              have HCA := Lib.hid hca
                              have htd : t.data.toList = Lib.itoa n := by rw [ht, data_mk]
                              have HTD := Lib.hid htd
                              have HAT := Lib.hid hat
                              have HTK := Lib.hid htk
                              have HAX := Lib.hid hax
                              subst hax
                              have e5 := fun (W' : World) => run_string_add_sum (P := Tryd.prog) (w := W') s (ByteArray.mk #[32]) (by rw [show (ByteArray.mk #[32]).size = 1 from rfl]; omega)
                              have e6 := fun (W' : World) => run_string_add_sum (P := Tryd.prog) (w := W') (s ++ ByteArray.mk #[32]) t (by rw [cat_size, show (ByteArray.mk #[32]).size = 1 from rfl]; omega)
                              clear hn hin hat htk hil ht hca htd
                              go_wp2_with fail
                              refine HCA.out.mono ?_
                              rintro e wp ⟨rfl, hbp⟩
                              have hbqp := HBQ.out.trans (hbp.mono hzq)
                              have HBP := Lib.hid hbqp
                              have hcx2 := cell_below hcx hbp
                              clear hbp hbqp hcx a0 a1 a2 a3 
                              obtain ⟨a0, a1, a2, a3⟩ := box_belowT HN.out HBP.out
                              have hdat : ∀ s' : ByteArray, s' = s ++ ⟨#[32]⟩ ++ t → s'.data.toList = txt p p.routes.length ++ lineW bLeft (p.left.take (j + 1)) := by
                                rintro s' rfl
                                rw [cat_list, cat_list, HSD.out, HTD.out, HTK.out]
                                unfold lineW
                                rw [List.map_append, List.map_cons, List.map_nil, lineB_snoc]
                                simp
                              have HDAT := Lib.hid hdat
                              clear hdat
                              cases bb
                              · by_cases hneg : n < 0
                                · have b7 : decide (n < 0) = true := decide_eq_true hneg
                                  have ho : outB n = true := by unfold outB; rw [b7]; rfl
                                  have HO := Lib.hid ho
                                  clear ho hneg
                                  go_wp2_with fail
                                  go_roundw
                                  case rel => exact ⟨j + 1, _, by omega, by go_num, rfl, HDAT.out _ rfl, (by rw [HAT.out, ← Bool.or_assoc, HBB.out, HO.out]; try rfl), HBP.out⟩
                                  case measure => (simp [intOf] <;> omega)
                                · have b7 : decide (n < 0) = false := decide_eq_false hneg
                                  have ho : outB n = decide (1099511627776 < n) := by unfold outB; rw [b7]; rfl
                                  have HO := Lib.hid ho
                                  clear ho hneg
                                  go_wp2_with fail
                                  go_roundw
                                  case rel => exact ⟨j + 1, _, by omega, by go_num, rfl, HDAT.out _ rfl, (by rw [HAT.out, ← Bool.or_assoc, HBB.out, HO.out]; try rfl), HBP.out⟩
                                  case measure => (simp [intOf] <;> omega)
                              · go_wp2_with fail
                                go_roundw
                                case rel => exact ⟨j + 1, _, by omega, by go_num, rfl, HDAT.out _ rfl, (by rw [HAT.out, ← Bool.or_assoc, HBB.out]; try rfl), HBP.out⟩
                                case measure => (simp [intOf] <;> omega)
                            · have hjn : j = p.left.length := by omega
                              subst hjn
                              have hsd2 := HSD.out
                              have hbb2 := HBB.out
                              rw [List.take_length] at hsd2 hbb2
                              have HSD2 := Lib.hid hsd2
                              have HBB2 := Lib.hid hbb2
                              clear hsd2 hbb2
                              have hba := badB_all p HLEN.out
                              rw [HPL.out, HBB2.out] at hba
                              have hfin : ∀ s' : ByteArray, s' = s ++ ByteArray.mk #[10] → s' = mk (textP p) := by
                                rintro s' rfl
                                have hall := txt_all p
                                rw [HPL.out] at hall
                                refine ba_mk' ?_
                                rw [cat_list, HSD2.out, ← hall]
                                simp
                              have HFIN := Lib.hid hfin
                              clear hfin
                              have hlast := HB.out.trans (HBQ.out.mono (by omega))
                              have HLAST := Lib.hid hlast
                              clear hlast
                              have e7 := fun (W' : World) => run_string_add_sum (P := Tryd.prog) (w := W') s (ByteArray.mk #[10]) (by rw [show (ByteArray.mk #[10]).size = 1 from rfl]; omega)
                              cases bb
                              · have hr : rangedB p = true := by
                                  cases h : rangedB p with
                                  | true => rfl
                                  | false => rw [h] at hba; cases hba
                                have hs : printS p = (textP p, 0) := by unfold printS; rw [HM.out, HPR.out, hr]; rfl
                                have HS := Lib.hid hs
                                clear hs hba hr
                                go_wp2_with fail
                                go_ret2
                                rw [printQ, HS.out]
                                exact ⟨by rw [HFIN.out _ rfl]; rfl, HLAST.out⟩
                              · have hr : rangedB p = false := by
                                  cases h : rangedB p with
                                  | false => rfl
                                  | true => rw [h] at hba; cases hba
                                have hs : printS p = ([], 23) := by unfold printS; rw [HM.out, HPR.out, hr]; rfl
                                have HS := Lib.hid hs
                                clear hs hba hr
                                go_wp2_with fail
                                go_ret2
                                rw [printQ, HS.out]
                                exact ⟨rfl, HLAST.out⟩
          · have hpr : pairedB p = false := by unfold pairedB; rw [decide_eq_false hlen]; rfl
            rw [HPP.out] at hpr
            cases hpr

theorem refPrint_c (rv tv lv : Value) (p : Pl) (w : World) (hp : PlanAt rv tv lv p w) (hE : Env w) (hI : ∀ r ∈ p.routes, ∀ n ∈ r, I64 n) (hJ : ∀ r ∈ p.times, ∀ n ∈ r, I64 n) (hK : ∀ n ∈ p.left, I64 n) (hc : I64 p.cost) :
    Calls Tryd.prog 18 #[.agg #[rv, tv, lv, .int .i64 p.cost]] w fun e w' => printQ p w e w' := by
  by_cases h : manyB p = false ∧ pairedB p = true
  · exact refPrint_ok rv tv lv p w hp hE hI hJ hK hc h.1 h.2
  · exact refPrint_bad rv tv lv p w hp hE hI hJ hK hc h
end Go.Proofs.YtdgifgdadminbaaDoor
