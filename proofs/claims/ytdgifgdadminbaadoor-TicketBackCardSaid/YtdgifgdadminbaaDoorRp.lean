/- The reader's plan. Written by this session. -/
import Derived.Test.YtdgifgdadminbaaDoorRr
set_option linter.unusedSimpArgs false
set_option linter.unusedVariables false
set_option maxRecDepth 100000
namespace Go.Proofs.YtdgifgdadminbaaDoor
open Go.RowKit Go.Proofs.YtdgifgdadminbaaDoorW.PrintWords Sp
open PFileParses (wrap_id ba_len toList_data info3 info2 info9)

theorem C_take {w : World} {A : Option Addr} {n : Nat} {xs : List ByteArray} (h : Kd.string.C w A n xs) (k : Nat) (hk : k ≤ n) : Kd.string.C w A k (xs.take k) := by
  obtain ⟨h1, h2, h3⟩ := h
  refine ⟨by rw [List.length_take]; omega, by omega, fun hp => ?_⟩
  obtain ⟨ad, e, hc⟩ := h3 (by omega)
  refine ⟨ad, e, fun j p hj => hc j p ?_⟩
  rw [List.getElem?_take] at hj
  split at hj
  · exact hj
  · cases hj

/-- A plan's three rows, as they lie. -/
def PlanAt (rv tv lv : Value) (p : Pl) (w : World) : Prop :=
  (∃ A c, rv = .slice A p.routes.length c ∧ p.routes.length ≤ c ∧ kRow.C w A p.routes.length p.routes) ∧
  (∃ A c, tv = .slice A p.times.length c ∧ p.times.length ≤ c ∧ kTim.C w A p.times.length p.times) ∧
  (∃ A c, lv = .slice A p.left.length c ∧ p.left.length ≤ c ∧ (Kd.int .i64).C w A p.left.length p.left)

/-- A plan's three rows, in blocks from base on. -/
structure PlanR (base : Nat) (rv tv lv : Value) (p : Pl) (w : World) : Prop where
  r : Kd.R kRow 25 w base (fun k => base ≤ k) rv p.routes
  t : Kd.R kTim 61 w base (fun k => base ≤ k) tv p.times
  l : Kd.R (Kd.int .i64) 3 w base (fun k => base ≤ k) lv p.left
theorem PlanR.at_ {base : Nat} {rv tv lv : Value} {p : Pl} {w : World} (h : PlanR base rv tv lv p w) : PlanAt rv tv lv p w := ⟨Kd.R_reads h.r, Kd.R_reads h.t, Kd.R_reads h.l⟩
theorem PlanR.below {base : Nat} {rv tv lv : Value} {p : Pl} {w w' : World} (h : PlanR base rv tv lv p w) (hb : Below w.heap.size w w') : PlanR base rv tv lv p w' := ⟨Kd.R_below h.r hb, Kd.R_below h.t hb, Kd.R_below h.l hb⟩
theorem PlanR.far {base : Nat} {rv tv lv : Value} {p : Pl} {w : World} (h : PlanR base rv tv lv p w) {a : Addr} (ha : a.block < base) (u : Value) : PlanR base rv tv lv p (w.setCell a u) :=
  ⟨Kd.R_far h.r (fun k hk => by omega) u, Kd.R_far h.t (fun k hk => by omega) u, Kd.R_far h.l (fun k hk => by omega) u⟩
theorem R_from {α : Type} {d : Kd α} {e : Nat} {w : World} {base base' : Nat} {ok : Nat → Prop} {v : Value} {xs : List α} (h : d.R e w base ok v xs) (hb : base' ≤ base) : d.R e w base' (fun k => base' ≤ k) v xs :=
  Kd.R_lower (Kd.R_mono (Kd.R_bound h) (fun k h => by have := h.2.1; omega)) hb

def planQ (R : Nat) (w : World) (x : Pl) (e : Ending) (w' : World) : Prop :=
  ∃ rv tv lv, e = .returned (.agg #[rv, tv, lv, .int .i64 x.cost]) ∧ PlanR w.heap.size rv tv lv x w' ∧ Below R w w'

theorem PS.setCost {P rv tv lv cost routes times w} (h : PS P rv tv lv cost routes times w) (n : Int) : PS P rv tv lv n routes times (w.setCell ⟨P, 3, none⟩ (.int .i64 n)) := by
  obtain ⟨okR, okT, h1, h2, h3⟩ := h.rows
  have hb := h.blk
  refine ⟨by simp [World.setCell, Array.getElem?_modify, hb], _, _, Kd.R_far (Kd.R_bound h1) (fun k h => by show k ≠ P; omega) _, Kd.R_far (Kd.R_bound h2) (fun k h => by show k ≠ P; omega) _, fun k a b => h3 k a.1 b.1⟩
theorem PS.setLeft {P rv tv lv cost routes times w} (h : PS P rv tv lv cost routes times w) (v : Value) : PS P rv tv v cost routes times (w.setCell ⟨P, 2, none⟩ v) := by
  obtain ⟨okR, okT, h1, h2, h3⟩ := h.rows
  have hb := h.blk
  refine ⟨by simp [World.setCell, Array.getElem?_modify, hb], _, _, Kd.R_far (Kd.R_bound h1) (fun k h => by show k ≠ P; omega) _, Kd.R_far (Kd.R_bound h2) (fun k h => by show k ≠ P; omega) _, fun k a b => h3 k a.1 b.1⟩

theorem setCell_blk {w : World} {b : Nat} {cs : Array Value} {t : TypeId} (h : w.heap[b]? = some (.cells cs t (0, 0))) (k : Nat) (v : Value) : (w.setCell ⟨b, k, none⟩ v).heap[b]? = some (.cells (cs.setIfInBounds k v) t (0, 0)) := by
  simp [World.setCell, Array.getElem?_modify, h]
def Z27 : Obj := .cells #[.slice none 0 0, .slice none 0 0, .slice none 0 0, .int .i64 0] 27 (0, 0)

set_option maxHeartbeats 8000000 in
theorem plan_c (R : Nat) (A c lines) (w : World) (h : Rd R A c lines 0 w) :
    Calls Tryd.prog 33 #[.pointer (some ⟨R, 0, none⟩)] w fun e w' => AnsL R w (planS lines) (planQ R w) e w' := by
  obtain ⟨W, hW⟩ : ∃ W, W = (w.alloc Z27).alloc Z27 := ⟨_, rfl⟩
  have hWs : W.heap.size = w.heap.size + 2 := by rw [hW]; simp
  have hbW : Below w.heap.size w W := by rw [hW]; exact ((Below.refl _ _).alloc (Nat.le_refl _) _).alloc (by simp) _
  have hRd := h.below hbW
  have hRlt := h.lt
  have hRP : R < w.heap.size + 1 := by omega
  have hbP : W.heap[w.heap.size + 1]? = some Z27 := by
    rw [hW]
    have := heap_alloc_new (w.alloc Z27) Z27
    simpa using this
  have hbR : W.heap[w.heap.size]? = some Z27 := by
    rw [hW, Below.heap_alloc _ _ _ (by simp)]
    exact heap_alloc_new w Z27
  have hPS : PS (w.heap.size + 1) (.slice none 0 0) (.slice none 0 0) (.slice none 0 0) 0 [] [] W := ⟨hbP, fun _ => False, fun _ => False, Kd.R_nil _ _ _ _ _, Kd.R_nil _ _ _ _ _, fun _ h => h.elim⟩
  have hn := next_c R A c lines 0 sPlan W hRd (by omega)
  have hthin := h.thin
  have HW := Lib.hid hW
  have HRd := Lib.hid hRd
  have HPS := Lib.hid hPS
  have HbR := Lib.hid hbR
  have HbW := Lib.hid hbW
  have HTH := Lib.hid hthin
  clear hW hRd hPS hbP hbR h hthin hbW
  unfold sPlan at hn
  rw [show ((0 : Nat) : Int) + 1 = 1 by rfl] at hn
  cases hs1 : nextS lines 0 sPlan with
  | error er =>
    unfold sPlan at hs1
    rw [hs1] at hn
    have hspec : planS lines = .error (1, er) := by unfold planS sPlan; rw [hs1]
    have HSP := Lib.hid hspec
    clear hspec hs1
    unfold Ans at hn
    dsimp only at hn
    go_enter Tryd.func33, Tryd.ntmps33
    go_wp2_with fail
    have hn' := hn
    rw [HW.out] at hn'
    refine hn'.mono ?_
    rintro e w1 ⟨he, hb⟩
    unfold Fell at he
    subst he
    go_wp2_with fail
    refine ⟨rfl, ?_⟩
    unfold AnsL
    rw [HSP.out]
    refine ⟨rfl, ?_⟩
    have h1 := HbW.out.mono (Nat.le_of_lt hRlt)
    rw [HW.out] at h1
    exact h1.trans hb
  | ok ws =>
    obtain ⟨hwl, hwt⟩ := nextS_ok hs1 HTH.out
    unfold sPlan at hs1
    rw [hs1] at hn
    have HS1 := Lib.hid hs1
    clear hs1 hwl
    unfold Ans nextQ at hn
    dsimp only at hn
    rw [HW.out] at hn
    have HN := Lib.hid hn
    clear hn
    by_cases hl2 : ws.length = 2
    · obtain ⟨a, b, rfl⟩ : ∃ a b, ws = [a, b] := by
        match ws, hl2 with
        | [a, b], _ => exact ⟨a, b, rfl⟩
      clear hl2
      go_enter Tryd.func33, Tryd.ntmps33
      go_wp2_with fail
      refine HN.out.mono ?_
      rintro e w1 ⟨A1, c1, rfl, hle1, hC1, hRd1, hEx1⟩
      rw [← HW.out] at hEx1
      have hle2 : 2 ≤ c1 := hle1
      have HRd1 := Lib.hid hRd1
      have HPS1 := Lib.hid (HPS.out.ex hEx1 hRP)
      have HC1 := Lib.hid hC1
      have HM1 := Lib.hid (Mid.of_ex hEx1 (P := w.heap.size + 1) (by omega))
      clear hC1 hRd1 hEx1 hle1
      have hwa := hwt a (by simp)
      have hwb := hwt b (by simp)
      clear hwt
      go_wp2_with fail
      have hWc := wholes_c R A c lines 1 A1 c1 [a] w1 HRd1.out (C_take HC1.out 1 (by simp)) (by simp) (by simpa using hwa)
      by_cases hma : (wholeS a).2 = 0
      · obtain ⟨m, hm⟩ : ∃ m : Nat, (wholeS a).1 = (m : Int) := ⟨(wholeS a).1.toNat, by have := wholeS_sign a hma; omega⟩
        rw [readAll_one hma, hm] at hWc
        unfold Ans wholesQ at hWc
        dsimp only at hWc
        refine hWc.mono ?_
        rintro e w2 ⟨v, rfl, hRv, hb2⟩
        obtain ⟨Av, cv, rfl⟩ := Kd.R_slice hRv
        obtain ⟨_, _, hCv⟩ := Kd.R_reads' hRv
        obtain ⟨adv, rfl, hcv⟩ := Kd.at_int hCv 0 (by omega) (by simp)
        have hcv2 : w2.cell? adv = some (.int .i64 m) := by simpa [Addr.add, rd] using hcv
        have HRd2 := Lib.hid (HRd1.out.below hb2)
        have HPS2 := Lib.hid (HPS1.out.below hb2)
        have HC2 := Lib.hid (Kd.C_below HC1.out hb2)
        have HM2 := Lib.hid (HM1.out.trans (Mid.of_below (R := R) (P := w.heap.size + 1) hb2 (by have := HM1.out.size; omega)))
        have HMA := Lib.hid hma
        have HM := Lib.hid hm
        clear hm
        clear hWc hRv hb2 hCv hma
        obtain ⟨ad1, rfl, hcb⟩ := Kd.at_string HC2.out 1 (by omega) (by simp)
        have hcb2 : w2.cell? ⟨ad1.block, ad1.off + 1, none⟩ = some (.string b) := by simpa [Addr.add, rdOf] using hcb
        have hLc := long_c R A c lines 1 b w2 HRd2.out hwb
        have hP3 := cell_of_heap HPS2.out.blk 3 rfl
        have fP3 := frozen_of_heap HPS2.out.blk 3
        clear hcv hcb
        go_wp2_with fail
        refine hLc.mono ?_
        rintro e w3 ⟨hyes, hno, hd3⟩
        by_cases hlb : (longS b).2 = 0
        · have he := hno hlb
          subst he
          have HLB := Lib.hid hlb
          have hb3 : Below w2.heap.size w2 w3 := drawn_below (Below.refl _ _) hd3
          have hP3' := cell_below hP3 hb3
          have fP3' := frozen_of_heap (HPS2.out.below hb3).blk 3
          have HPS3 := Lib.hid ((HPS2.out.below hb3).setCost (longS b).1)
          have HRd3 := Lib.hid (HRd2.out.below hb3)
          have HM3 := Lib.hid (HM2.out.trans (Mid.of_below (R := R) (P := w.heap.size + 1) hb3 (by have := HM2.out.size; omega)))
          clear hyes hno hlb hLc hP3 fP3 hb3 hd3
          have HB3 := Lib.hid ((Below.refl (w.heap.size + 1) w3).setCell (p := ⟨w.heap.size + 1, 3, none⟩) (Nat.le_refl _) (.int .i64 (longS b).1))
          obtain ⟨w4, hw4⟩ : ∃ w4, w4 = w3.setCell ⟨w.heap.size + 1, 3, none⟩ (.int .i64 (longS b).1) := ⟨_, rfl⟩
          have HW4 := Lib.hid hw4
          have HPS4 := Lib.hid (show PS (w.heap.size + 1) (.slice none 0 0) (.slice none 0 0) (.slice none 0 0) (longS b).1 [] [] w4 by rw [hw4]; exact HPS3.out)
          have hB34 : Below (w.heap.size + 1) w3 w4 := by rw [hw4]; exact HB3.out
          have HRd4 := Lib.hid (HRd3.out.belowB hB34 hRP)
          have HM4 := Lib.hid (HM3.out.trans (Mid.of_below (R := R) (P := w.heap.size + 1) hB34 (Nat.le_refl _)))
          have hs4 : W.heap.size ≤ w4.heap.size := HM4.out.size
          clear hw4 hB34
          by_cases hmany : 64 < m
          · have hb1 : decide ((64 : Int) < (m : Int)) = true := decide_eq_true (by omega)
            have hspec : planS lines = .error (1, 3) := by
              unfold planS sPlan
              rw [HS1.out]
              dsimp only
              rw [if_neg (by simpa using HMA.out), if_neg (by simpa using HLB.out), if_pos (by rw [HM.out]; omega)]
            have HSP := Lib.hid hspec
            clear hspec hmany
            go_wp2_with fail
            rw [← HW4.out]
            refine (fail_c R A c lines _ 3 _ HRd4.out).mono ?_
            rintro e w5 ⟨he, rfl⟩
            unfold Fell at he
            subst he
            go_wp2_with fail
            refine ⟨rfl, ?_⟩
            unfold AnsL
            rw [HSP.out]
            exact ⟨rfl, (HbW.out.mono (Nat.le_of_lt hRlt)).trans (HM4.out.below (Nat.le_of_lt hRP))⟩
          · have hb1 : decide ((64 : Int) < (m : Int)) = false := decide_eq_false (by omega)
            have HMANY := Lib.hid hmany
            have hpre : ∀ e, routesS lines m = .error e → planS lines = .error e := by
              intro e he
              unfold planS sPlan
              rw [HS1.out]
              dsimp only
              rw [if_neg (by simpa using HMA.out), if_neg (by simpa using HLB.out), if_neg (by rw [HM.out]; omega), HM.out, Int.toNat_natCast, he]
            have HPRE := Lib.hid hpre
            clear hpre hmany
            go_wp2_with fail
            rw [← HW4.out]
            go_loopw [30] (fun k wr => ∃ (j : Nat) (rs ts : List (List Int)), j ≤ m ∧ k = .int .i64 j ∧ routesS lines j = .ok (rs, ts) ∧ rs.length = j ∧ ts.length = j ∧ Rd R A c lines ((1 + 2 * j : Nat) : Int) wr ∧ (∃ rv tv, PS (w.heap.size + 1) rv tv (.slice none 0 0) (longS b).1 rs ts wr) ∧ Mid R (w.heap.size + 1) W wr) (fun k _ => m - (intOf k).toNat)
            case atStart => exact ⟨0, [], [], Nat.zero_le _, rfl, rfl, rfl, rfl, HRd4.out, ⟨_, _, HPS4.out⟩, HM4.out⟩
            case round =>
              obtain ⟨j, rs, ts, hj, rfl, hrs, hlr, hlt', hRdj, ⟨rv, tv, hPSj⟩, hMj⟩ := hrel
              have HRS := Lib.hid hrs
              have HRDJ := Lib.hid hRdj
              have HPSJ := Lib.hid hPSj
              have HMJ := Lib.hid hMj
              clear hrs hRdj hPSj hMj
              by_cases hlt : j < m
              · have hrc := route_c R (w.heap.size + 1) A c lines (1 + 2 * j) rv tv _ _ rs ts wr HRDJ.out HPSJ.out hRP (by have := HMANY.out; omega) (by have := HMANY.out; omega) (by have := HMANY.out; omega)
                go_wp2_with fail
                refine hrc.mono ?_
                rintro e w5 hans
                cases hro : routeS lines (1 + 2 * j) with
                | error er =>
                  rw [hro] at hans
                  obtain ⟨he, hb⟩ := hans
                  unfold Fell at he
                  subst he
                  have hsp : planS lines = .error er := by
                    refine HPRE.out er ?_
                    have h1 : routesS lines (j + 1) = .error er := by rw [routesS, HRS.out]; dsimp only; rw [hro]
                    have h2 := routesS_bad h1 (m - (j + 1))
                    rwa [show j + 1 + (m - (j + 1)) = m by omega] at h2
                  have HSP := Lib.hid hsp
                  clear hsp hro hrc
                  go_wp2_with fail
                  refine ⟨rfl, ?_⟩
                  unfold AnsL
                  rw [HSP.out]
                  exact ⟨rfl, (HbW.out.mono (Nat.le_of_lt hRlt)).trans ((HMJ.out.below (Nat.le_of_lt hRP)).trans hb)⟩
                | ok x =>
                  rw [hro] at hans
                  obtain ⟨he, hRd6, hPS6, hM6⟩ := hans
                  subst he
                  have h1 : routesS lines (j + 1) = .ok (rs ++ [x.1], ts ++ [x.2]) := by rw [routesS, HRS.out]; dsimp only; rw [hro]
                  have H1 := Lib.hid h1
                  have hwj := Lib.hid (show wrap64 ((j : Int) + 1) = (j : Int) + 1 from wrap_id (by omega) (by have := HMANY.out; omega))
                  have HRD6 := Lib.hid hRd6
                  have HPS6 := Lib.hid hPS6
                  have HM6 := Lib.hid hM6
                  clear h1 hRd6 hPS6 hM6 hro hrc
                  go_wp2_with fail
                  go_roundw
                  case rel =>
                    refine ⟨j + 1, _, _, by omega, by (rw [hwj.out]; rfl), H1.out, by simp [hlr], by simp [hlt'], ?_, HPS6.out, HMJ.out.trans HM6.out⟩
                    have := HRD6.out
                    rwa [show (((1 + 2 * j : Nat) : Int) + 2) = ((1 + 2 * (j + 1) : Nat) : Int) by omega] at this
                  case measure => (rw [hwj.out]; simp [intOf]; omega)
              · have hjm : j = m := by omega
                subst hjm
                have hpre2 : ∀ r, (match nextS lines (1 + 2 * j) sLeft with
                    | .error er => (.error (2 + 2 * (j : Int), er) : Except (Int × Int) Pl)
                    | .ok ls =>
                      match readAll wholeS ls with
                      | .error er => .error (2 + 2 * (j : Int), er)
                      | .ok left => if 2 + 2 * j < lines.length then .error (3 + 2 * (j : Int), 22) else .ok ⟨rs, ts, left, (longS b).1⟩) = r → planS lines = r := by
                  rintro r rfl
                  unfold planS sPlan
                  rw [HS1.out]
                  dsimp only
                  rw [if_neg (by simpa using HMA.out), if_neg (by simpa using HLB.out), if_neg (by rw [HM.out]; have := HMANY.out; omega), HM.out, Int.toNat_natCast, HRS.out]
                  rfl
                have HPRE2 := Lib.hid hpre2
                clear hpre2
                have hnl := next_c R A c lines (1 + 2 * j) sLeft wr HRDJ.out (by have := HMANY.out; omega)
                rw [show (((1 + 2 * j : Nat) : Int) + 1) = 2 + 2 * (j : Int) by omega] at hnl
                have HNL := Lib.hid hnl
                clear hnl
                go_wp2_with fail
                refine HNL.out.mono ?_
                rintro e w5 hans
                cases hls : nextS lines (1 + 2 * j) sLeft with
                | error er =>
                  rw [hls] at hans
                  obtain ⟨he, hb⟩ := hans
                  unfold Fell at he
                  subst he
                  have HSP := Lib.hid (HPRE2.out (.error (2 + 2 * (j : Int), er)) (by rw [hls]))
                  clear hls
                  go_wp2_with fail
                  refine ⟨rfl, ?_⟩
                  unfold AnsL
                  rw [HSP.out]
                  exact ⟨rfl, (HbW.out.mono (Nat.le_of_lt hRlt)).trans ((HMJ.out.below (Nat.le_of_lt hRP)).trans hb)⟩
                | ok ls =>
                  rw [hls] at hans
                  obtain ⟨A5, c5, he, hle5, hC5, hRd5, hEx5⟩ := hans
                  subst he
                  obtain ⟨hll, hlt5⟩ := nextS_ok hls HTH.out
                  have HLS := Lib.hid hls
                  have HRD5 := Lib.hid hRd5
                  have HPS5 := Lib.hid (HPSJ.out.ex hEx5 hRP)
                  have HM5 := Lib.hid (HMJ.out.trans (Mid.of_ex hEx5 (P := w.heap.size + 1) (by have := HMJ.out.size; omega)))
                  have HWC := Lib.hid (wholes_c R A c lines (2 + 2 * (j : Int)) A5 c5 ls w5 hRd5 hC5 (by omega) hlt5)
                  clear hls hRd5 hC5 hEx5 hll hlt5
                  go_wp2_with fail
                  refine HWC.out.mono ?_
                  rintro e w6 hans
                  cases hlf : readAll wholeS ls with
                  | error er =>
                    rw [hlf] at hans
                    obtain ⟨he, hb⟩ := hans
                    unfold Fell at he
                    subst he
                    have HSP := Lib.hid (HPRE2.out (.error (2 + 2 * (j : Int), er)) (by rw [HLS.out]; dsimp only; rw [hlf]))
                    clear hlf
                    go_wp2_with fail
                    refine ⟨rfl, ?_⟩
                    unfold AnsL
                    rw [HSP.out]
                    exact ⟨rfl, (HbW.out.mono (Nat.le_of_lt hRlt)).trans ((HM5.out.below (Nat.le_of_lt hRP)).trans hb)⟩
                  | ok lf =>
                    rw [hlf] at hans
                    obtain ⟨v, he, hRv, hb6⟩ := hans
                    subst he
                    obtain ⟨Av6, cv6, rfl⟩ := Kd.R_slice hRv
                    have HLF := Lib.hid hlf
                    have HRV := Lib.hid hRv
                    have hPS6 := HPS5.out.below hb6
                    have hP2 := cell_of_heap hPS6.blk 2 rfl
                    have fP2 := frozen_of_heap hPS6.blk 2
                    have HPS7 := Lib.hid (hPS6.setLeft (.slice Av6 lf.length cv6))
                    have hRd6 := HRD5.out.below hb6
                    have hB67 : Below (w.heap.size + 1) w6 (w6.setCell ⟨w.heap.size + 1, 2, none⟩ (.slice Av6 lf.length cv6)) := (Below.refl _ _).setCell (p := ⟨w.heap.size + 1, 2, none⟩) (Nat.le_refl _) _
                    have HRD7 := Lib.hid (hRd6.belowB hB67 hRP)
                    have HM6 := Lib.hid (HM5.out.trans (Mid.of_below (R := R) (P := w.heap.size + 1) hb6 (by have := HM5.out.size; omega)))
                    have HM7 := Lib.hid (HM6.out.trans (Mid.of_below (R := R) (P := w.heap.size + 1) hB67 (Nat.le_refl _)))
                    obtain ⟨w7, hw7⟩ : ∃ w7, w7 = w6.setCell ⟨w.heap.size + 1, 2, none⟩ (.slice Av6 lf.length cv6) := ⟨_, rfl⟩
                    rw [← hw7] at HPS7 HRD7 HM7
                    have HW7 := Lib.hid hw7
                    clear hw7 hRd6 hPS6 hlf hRv hb6 hB67
                    have hr1 := HRD7.out.cell1
                    have fr1 := HRD7.out.fz 1
                    have hr0 := HRD7.out.cell0
                    have hwr : wrap64 (2 + 2 * (j : Int) + 1) = 3 + 2 * (j : Int) := by rw [wrap_id (by omega) (by have := HMANY.out; omega)]; omega
                    go_upto_region 14 with fail
                    rw [← HW7.out]
                    obtain ⟨w8, hw8⟩ : ∃ w8, w8 = w7.setCell ⟨R, 1, none⟩ (.int .i64 (3 + 2 * (j : Int))) := ⟨_, rfl⟩
                    have hRd8 := HRD7.out.step (3 + 2 * (j : Int)) (by omega) (by have := HMANY.out; omega)
                    have hEx8 : Ex R w7 (w7.setCell ⟨R, 1, none⟩ (.int .i64 (3 + 2 * (j : Int)))) := ex_set w7
                    rw [← hw8] at hRd8 hEx8
                    have HRD8 := Lib.hid hRd8
                    have HEX8 := Lib.hid hEx8
                    have HW8 := Lib.hid hw8
                    have c80 := hRd8.cell0
                    have c81 := hRd8.cell1
                    clear hRd8 hEx8 hw8
                    go_upto_region 15 with fail
                    rw [← HW8.out]
                    clear hr1 fr1 hr0 hP2 fP2
                    have hPS8 := HPS7.out.ex HEX8.out hRP
                    have hbR8 : w8.heap[w.heap.size]? = some Z27 := (HEX8.out.block w.heap.size (by have := HM7.out.size; omega) (by omega)).trans ((HM7.out.block w.heap.size (by omega) (by omega)).trans HbR.out)
                    have HPS8 := Lib.hid hPS8
                    have HBR8 := Lib.hid hbR8
                    have HM8 := Lib.hid (HM7.out.trans (Mid.of_ex HEX8.out (P := w.heap.size + 1) (by have := HM7.out.size; omega)))
                    by_cases hmore : 2 + 2 * j < lines.length
                    · have hb2 : decide ((3 + 2 * (j : Int)) ≤ (lines.length : Int)) = true := decide_eq_true (by omega)
                      have HSP := Lib.hid (HPRE2.out (.error (3 + 2 * (j : Int), 22)) (by rw [HLS.out]; dsimp only; rw [HLF.out]; dsimp only; rw [if_pos hmore]))
                      clear hmore hPS8 hbR8
                      have hF := fun n => fail_c R A c lines (3 + 2 * (j : Int)) 22 _ (HRD8.out.below (pw_below_drewN (Below.refl w8.heap.size w8) n))
                      have hB8 := fun n => pw_below_drewN (Below.refl w8.heap.size w8) n
                      have HF := Lib.hid hF
                      have HB8 := Lib.hid hB8
                      clear hF hB8
                      go_quiet (fail)
                      go_wp2_with fail
                      refine (HF.out _).mono ?_
                      rintro e w9 ⟨he, rfl⟩
                      unfold Fell at he
                      subst he
                      go_wp2_with fail
                      refine ⟨rfl, ?_⟩
                      unfold AnsL
                      rw [HSP.out]
                      exact ⟨rfl, (HbW.out.mono (Nat.le_of_lt hRlt)).trans ((HM8.out.below (Nat.le_of_lt hRP)).trans ((HB8.out _).mono (Nat.le_of_lt HRD8.out.lt)))⟩
                    · have hb2 : decide ((3 + 2 * (j : Int)) ≤ (lines.length : Int)) = false := decide_eq_false (by omega)
                      have HSP := Lib.hid (HPRE2.out (.ok ⟨rs, ts, lf, (longS b).1⟩) (by rw [HLS.out]; dsimp only; rw [HLF.out]; dsimp only; rw [if_neg hmore]))
                      obtain ⟨Ar, cr, rfl⟩ : ∃ Ar cr, rv = .slice Ar rs.length cr := by
                        obtain ⟨okR, okT, h1, h2, h3⟩ := hPS8.rows
                        exact Kd.R_slice h1
                      obtain ⟨At, ct, rfl⟩ : ∃ At ct, tv = .slice At ts.length ct := by
                        obtain ⟨okR, okT, h1, h2, h3⟩ := hPS8.rows
                        exact Kd.R_slice h2
                      have p0 := cell_of_heap hPS8.blk 0 rfl
                      have p1 := cell_of_heap hPS8.blk 1 rfl
                      have p2 := cell_of_heap hPS8.blk 2 rfl
                      have p3 := cell_of_heap hPS8.blk 3 rfl
                      have q0 := cell_of_heap hbR8 0 rfl
                      have q1 := cell_of_heap hbR8 1 rfl
                      have q2 := cell_of_heap hbR8 2 rfl
                      have q3 := cell_of_heap hbR8 3 rfl
                      have z0 := frozen_of_heap hbR8 0
                      have z1 := frozen_of_heap hbR8 1
                      have z2 := frozen_of_heap hbR8 2
                      have z3 := frozen_of_heap hbR8 3
                      clear hPS8 hbR8 hmore
                      have hfar : ∀ (α : Type) (d : Kd α) (e : Nat) (n : Nat) (ok : Nat → Prop) (v v1 v2 v3 v4 : Value) (xs : List α) (base : Nat), (∀ k, ok k → k ≠ w.heap.size) → d.R e w8 base ok v xs →
                          d.R e (((((w8.drewN n).setCell ⟨w.heap.size, 0, none⟩ v1).setCell ⟨w.heap.size, 1, none⟩ v2).setCell ⟨w.heap.size, 2, none⟩ v3).setCell ⟨w.heap.size, 3, none⟩ v4) base ok v xs := by
                        intro α d e n ok v v1 v2 v3 v4 xs base hk h
                        exact Kd.R_far (Kd.R_far (Kd.R_far (Kd.R_far (Kd.R_drewN h n) hk _) hk _) hk _) hk _
                      have HFAR := Lib.hid hfar
                      clear hfar
                      have HRV8 : Kd.R (Kd.int .i64) 3 w8 w5.heap.size (fun k => w5.heap.size ≤ k) (.slice Av6 lf.length cv6) lf := by
                        have h1 := Kd.R_mono (Kd.R_bound HRV.out) (ok' := fun k => w5.heap.size ≤ k) (fun k h => h.2.1)
                        have h2 := Kd.R_far (p := ⟨w.heap.size + 1, 2, none⟩) h1 (fun k h => by show k ≠ w.heap.size + 1; have := HM5.out.size; omega) (.slice Av6 lf.length cv6)
                        rw [← HW7.out] at h2
                        have h3 := Kd.R_far (p := ⟨R, 1, none⟩) h2 (fun k h => by show k ≠ R; have := HM5.out.size; omega) (.int .i64 (3 + 2 * (j : Int)))
                        rw [← HW8.out] at h3
                        exact h3
                      have HRV9 := Lib.hid HRV8
                      clear HRV8
                      go_quiet (fail)
                      go_wp2_with fail
                      obtain ⟨w9, hw9⟩ : ∃ w9, w9 = (((((w8.drewN nq).setCell ⟨w.heap.size, 0, none⟩ (.slice Ar j cr)).setCell ⟨w.heap.size, 1, none⟩ (.slice At j ct)).setCell ⟨w.heap.size, 2, none⟩ (.slice Av6 lf.length cv6)).setCell ⟨w.heap.size, 3, none⟩ (.int .i64 (longS b).1)) := ⟨_, rfl⟩
                      have hres : w9.heap[w.heap.size]? = some (.cells #[.slice Ar j cr, .slice At j ct, .slice Av6 lf.length cv6, .int .i64 (longS b).1] 27 (0, 0)) := by
                        have h8 : (w8.drewN nq).heap[w.heap.size]? = some Z27 := ((pw_below_drewN (Below.refl w8.heap.size w8) nq).block w.heap.size (by have := HM8.out.size; omega)).trans HBR8.out
                        rw [hw9]
                        exact setCell_blk (setCell_blk (setCell_blk (setCell_blk h8 0 _) 1 _) 2 _) 3 _
                      have hbel : Below w.heap.size w8 w9 := by
                        rw [hw9]
                        exact (((((pw_below_drewN (Below.refl w.heap.size w8) nq)).setCell (p := ⟨w.heap.size, 0, none⟩) (Nat.le_refl _) _).setCell (p := ⟨w.heap.size, 1, none⟩) (Nat.le_refl _) _).setCell (p := ⟨w.heap.size, 2, none⟩) (Nat.le_refl _) _).setCell (p := ⟨w.heap.size, 3, none⟩) (Nat.le_refl _) _
                      rw [← hw9]
                      refine bodyPost_ret (v := .agg #[.slice Ar j cr, .slice At j ct, .slice Av6 lf.length cv6, .int .i64 (longS b).1]) ?_ rfl ?_
                      · exact results_cell_row rfl _ w9 w.heap.size 27 _ _ _ rfl hres Tryd.underlying27 rfl (by kernel_rfl)
                      · unfold AnsL
                        rw [HSP.out]
                        refine ⟨_, _, _, rfl, ?_, (HbW.out.mono (Nat.le_of_lt hRlt)).trans ((HM8.out.below (Nat.le_of_lt hRP)).trans (hbel.mono (Nat.le_of_lt hRlt)))⟩
                        obtain ⟨okR, okT, h1, h2, h3⟩ := HPS8.out.rows
                        have g1 := HFAR.out _ kRow 25 nq _ _ (.slice Ar j cr) (.slice At j ct) (.slice Av6 lf.length cv6) (.int .i64 (longS b).1) _ _ (fun k h => by have := h.2.1; omega) (Kd.R_bound h1)
                        have g2 := HFAR.out _ kTim 61 nq _ _ (.slice Ar j cr) (.slice At j ct) (.slice Av6 lf.length cv6) (.int .i64 (longS b).1) _ _ (fun k h => by have := h.2.1; omega) (Kd.R_bound h2)
                        have g3 := HFAR.out _ (Kd.int .i64) 3 nq _ _ (.slice Ar j cr) (.slice At j ct) (.slice Av6 lf.length cv6) (.int .i64 (longS b).1) _ _ (fun k h => by have := HM5.out.size; omega) HRV9.out
                        rw [← hw9] at g1 g2 g3
                        rw [hlr] at g1
                        rw [hlt'] at g2
                        exact ⟨R_from g1 (by omega), R_from g2 (by omega), R_from g3 (by have := HM5.out.size; omega)⟩
        · have he := hyes hlb
          unfold Fell at he
          subst he
          have hspec : planS lines = .error (1, (longS b).2) := by
            unfold planS sPlan
            rw [HS1.out]
            dsimp only
            rw [if_neg (by simpa using HMA.out), if_pos hlb]
          have HSP := Lib.hid hspec
          have hb3 := drawn_below (Below.refl R w2) hd3
          clear hspec hyes hno hlb hLc
          go_wp2_with fail
          refine ⟨rfl, ?_⟩
          unfold AnsL
          rw [HSP.out]
          exact ⟨rfl, (HbW.out.mono (Nat.le_of_lt hRlt)).trans ((HM2.out.below (Nat.le_of_lt hRP)).trans hb3)⟩
      · rw [readAll_one_bad hma] at hWc
        unfold Ans at hWc
        dsimp only at hWc
        have hspec : planS lines = .error (1, (wholeS a).2) := by
          unfold planS sPlan
          rw [HS1.out]
          dsimp only
          rw [if_pos hma]
        have HSP := Lib.hid hspec
        clear hspec hma
        refine hWc.mono ?_
        rintro e w2 ⟨he, hb⟩
        unfold Fell at he
        subst he
        clear hWc
        go_wp2_with fail
        refine ⟨rfl, ?_⟩
        unfold AnsL
        rw [HSP.out]
        exact ⟨rfl, (HbW.out.mono (Nat.le_of_lt hRlt)).trans ((HM1.out.below (Nat.le_of_lt hRP)).trans hb)⟩
    · have hspec : planS lines = .error (1, 21) := by
        unfold planS sPlan
        rw [HS1.out]
        dsimp only
        split
        · exact absurd rfl hl2
        · rfl
      have HSP := Lib.hid hspec
      have hb1 : ((ws.length : Int) != 2) = true := bne_iff_ne.2 (by omega)
      clear hspec hl2 hwt
      go_enter Tryd.func33, Tryd.ntmps33
      go_wp2_with fail
      refine HN.out.mono ?_
      rintro e w1 ⟨A1, c1, rfl, hle1, hC1, hRd1, hEx1⟩
      rw [← HW.out] at hEx1
      have HRd1 := Lib.hid hRd1
      have HM1 := Lib.hid (Mid.of_ex hEx1 (P := w.heap.size + 1) (by omega))
      clear hC1 hRd1 hEx1 hle1
      go_wp2_with fail
      refine (fail_c R A c lines _ 21 _ HRd1.out).mono ?_
      rintro e w2 ⟨he, rfl⟩
      unfold Fell at he
      subst he
      go_wp2_with fail
      refine ⟨rfl, ?_⟩
      unfold AnsL
      rw [HSP.out]
      exact ⟨rfl, (HbW.out.mono (Nat.le_of_lt hRlt)).trans (HM1.out.below (Nat.le_of_lt hRP))⟩
end Go.Proofs.YtdgifgdadminbaaDoor
