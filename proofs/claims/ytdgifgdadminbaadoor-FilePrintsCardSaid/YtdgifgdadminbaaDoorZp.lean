/- The document's Print (jitneyref23.Print). Written by this session (by zp.py). -/
import Derived.Test.YtdgifgdadminbaaDoorYf
import Derived.Deep.DeepCutAuto
import Derived.Deep.CutRange
import Derived.Deep.RegionHeld3
set_option linter.unusedSimpArgs false
set_option linter.unusedVariables false
set_option maxRecDepth 100000
namespace Go.Proofs.YtdgifgdadminbaaDoor
open Go.RowKit Go.Proofs.YtdgifgdadminbaaDoorW.PrintWords Sp
open PFileParses (wrap_id ba_len toList_data info3 info2 info9 rd_L1 rd_L2 at_L1 at_L2)

/-- A plan of bounded size, of numbers of int64. -/
structure Fit (p : Pl) : Prop where
  cars : p.routes.length ≤ 64
  lefts : p.left.length ≤ 4096
  rows : ∀ r ∈ p.routes, r.length ≤ 4096
  len : p.times.length = p.routes.length
  tims : ∀ r ∈ p.times, r.length ≤ 4096
  r : ∀ r ∈ p.routes, ∀ n ∈ r, I64 n
  t : ∀ r ∈ p.times, ∀ n ∈ r, I64 n
  l : ∀ n ∈ p.left, I64 n
  c : I64 p.cost
theorem Fit.pairs_len {p : Pl} (h : Fit p) : (pairs p).length = p.routes.length := by
  unfold pairs
  rw [List.length_zip, h.len]
  omega
theorem txt_fit (p : Pl) (hg : Fit p) : ∀ k, k ≤ (pairs p).length → (txt p k).length ≤ 100 + 200000 * k
  | 0, _ => by
    rw [txt_zero, List.length_append]
    have hc := hg.cars
    have := lineW_len (a := bPlan) (ns := [(p.routes.length : Int), p.cost]) (by
      intro n hn
      rcases List.mem_cons.1 hn with rfl | hn
      · unfold I64; omega
      · rw [List.mem_singleton.1 hn]; exact hg.c)
    simp only [List.length_cons, List.length_nil, bPlan] at this ⊢
    omega
  | k + 1, h => by
    have ih := txt_fit p hg k (by omega)
    have hm := List.getElem_mem (l := pairs p) (n := k) (by omega)
    obtain ⟨m1, m2⟩ := Good.mem_pairs hm
    have r1 := lineW_len (a := bRoute) (fun n hn => hg.r _ m1 n hn)
    have r2 := lineW_len (a := bTimes) (fun n hn => hg.t _ m2 n hn)
    have l1 := hg.rows _ m1
    have l3 := hg.tims _ m2
    rw [txt_succ p k (by omega)]
    simp only [List.length_append, List.length_cons, List.length_nil]
    have b1 : bRoute.length = 5 := rfl
    have b2 : bTimes.length = 5 := rfl
    omega
def badB (p : Pl) (k : Nat) : Bool := outB p.cost || ((pairs p).take k).any fun x => x.1.any outB || x.2.any outB
theorem badB_succ (p : Pl) (k : Nat) (h : k < (pairs p).length) : badB p (k + 1) = ((badB p k || ((pairs p)[k]'h).1.any outB) || ((pairs p)[k]'h).2.any outB) := by
  unfold badB
  rw [List.take_succ_eq_append_getElem h, List.any_append]
  simp [Bool.or_assoc]
theorem badB_all (p : Pl) (hl : p.times.length = p.routes.length) : (badB p (pairs p).length || p.left.any outB) = !rangedB p := by
  unfold badB rangedB
  rw [List.take_length]
  have e : (pairs p).any (fun x => x.1.any outB || x.2.any outB) = (p.routes.any (fun r => r.any outB) || p.times.any (fun r => r.any outB)) := by
    have h1 : p.routes = (pairs p).map Prod.fst := (List.map_fst_zip (by omega)).symm
    have h2 : p.times = (pairs p).map Prod.snd := (List.map_snd_zip (by omega)).symm
    conv => rhs; rw [h1, h2]
    rw [List.any_map, List.any_map]
    generalize pairs p = l
    induction l with
    | nil => rfl
    | cons x l ih =>
      simp only [List.any_cons, ih, Function.comp_apply]
      cases x.1.any outB <;> cases x.2.any outB <;> cases (l.any ((fun r => r.any outB) ∘ Prod.fst)) <;> rfl
  rw [e]
  cases outB p.cost <;> cases p.routes.any (fun r => r.any outB) <;> cases p.times.any (fun r => r.any outB) <;> cases p.left.any outB <;> rfl
theorem any_take_succ (l : List Int) (k : Nat) (h : k < l.length) : (l.take (k + 1)).any outB = ((l.take k).any outB || outB (l[k]'h)) := by
  rw [List.take_succ_eq_append_getElem h, List.any_append]
  simp
theorem badB_zero (p : Pl) : badB p 0 = outB p.cost := by simp [badB]
theorem rd_at' (xs : List Int) (i : Nat) (h : i < xs.length) : rd xs (i : Int) = xs[i]'h := by
  unfold rd
  rw [Int.toNat_natCast, List.getD_eq_getElem?_getD, List.getElem?_eq_getElem h]
  rfl
theorem ba_mk' {s : ByteArray} {l : List UInt8} (h : s.data.toList = l) : s = mk l := by rw [← h, mk_data]
theorem lineW_nil (a : List UInt8) : lineW a [] = a := by simp [lineW, lineB]
theorem itoa_c (n : Int) (w : World) (h : I64 n) (hE : Env w) :
    Calls Tryd.prog 48 #[.int .i64 n] w fun e w' => e = .returned (.string (mk (Lib.itoa n))) ∧ Below w.heap.size w w' := by
  refine (Tryd.strconv_Itoa n h.1 h.2 w hE.tab).mono ?_
  rintro e w' ⟨rfl, k, os, rfl⟩
  exact ⟨rfl, Lib.below_grow _ _ (Nat.le_refl _) _ _⟩
theorem box_belowT {b n1 c1 n2 c2 n3 c3 : Nat} {A1 A2 A3 : Option Addr} {cost : Int} {t : TypeId} {W w' : World} (h : W.heap[b]? = some (.cells #[.slice A1 n1 c1, .slice A2 n2 c2, .slice A3 n3 c3, .int .i64 cost] t (0, 0))) (hb : Below W.heap.size W w') : Box b A1 n1 c1 A2 n2 c2 A3 n3 c3 cost w' := by
  have hlt : b < W.heap.size := by
    rcases Nat.lt_or_ge b W.heap.size with g | g
    · exact g
    · rw [Array.getElem?_eq_none g] at h; cases h
  have h := (hb.block _ hlt).trans h
  exact ⟨cell_of_heap h 0 rfl, cell_of_heap h 1 rfl, cell_of_heap h 2 rfl, cell_of_heap h 3 rfl⟩
theorem manyB_rows {p : Pl} (h1 : ¬ 64 < p.routes.length) (h2 : ¬ 4096 < p.left.length) : manyB p = p.routes.any longB := by
  unfold manyB longB
  rw [decide_eq_false h1, decide_eq_false h2]
  rfl
theorem any_false_take {α : Type} {l : List α} {q : α → Bool} (h : ∀ j (hj : j < l.length), q (l[j]'hj) = false) : l.any q = false := by
  rw [List.any_eq_false]
  intro x hx
  obtain ⟨j, hj, rfl⟩ := List.getElem_of_mem hx
  rw [h j hj]
  exact Bool.false_ne_true
theorem any_true_at {α : Type} {l : List α} {q : α → Bool} {j : Nat} (hj : j < l.length) (h : q (l[j]'hj) = true) : l.any q = true := List.any_eq_true.2 ⟨_, List.getElem_mem hj, h⟩

theorem keepZ {W0 w w' : World} {p q : Addr} {v1 v2 : Value} (h : w.cell? p = some v1 ∧ w.cell? q = some v2 ∧ Below W0.heap.size W0 w) (hb : Below w.heap.size w w') : w'.cell? p = some v1 ∧ w'.cell? q = some v2 ∧ Below W0.heap.size W0 w' :=
  ⟨cell_below h.1 hb, cell_below h.2.1 hb, h.2.2.trans (hb.mono h.2.2.size)⟩
set_option maxHeartbeats 32000000 in
theorem refPrint_bad (rv tv lv : Value) (p : Pl) (w : World) (hp : PlanAt rv tv lv p w) (hE : Env w) (hI : ∀ r ∈ p.routes, ∀ n ∈ r, I64 n) (hJ : ∀ r ∈ p.times, ∀ n ∈ r, I64 n) (hK : ∀ n ∈ p.left, I64 n) (hc : I64 p.cost) (hng : ¬ (manyB p = false ∧ pairedB p = true)) :
    Calls Tryd.prog 18 #[.agg #[rv, tv, lv, .int .i64 p.cost]] w fun e w' => printQ p w e w' := by
  obtain ⟨⟨A1, c1, rfl, l1, h1⟩, ⟨A2, c2, rfl, l2, h2⟩, ⟨A3, c3, rfl, l3, h3⟩⟩ := hp
  obtain ⟨W, hW⟩ : ∃ W, W = w.alloc (.cells #[.slice A1 p.routes.length c1, .slice A2 p.times.length c2, .slice A3 p.left.length c3, .int .i64 p.cost] 31) := ⟨_, rfl⟩
  have hB : Below w.heap.size w W := by rw [hW]; exact (Below.refl w.heap.size w).alloc (Nat.le_refl _) _
  have hn : W.heap[w.heap.size]? = some (.cells #[.slice A1 p.routes.length c1, .slice A2 p.times.length c2, .slice A3 p.left.length c3, .int .i64 p.cost] 31 (0, 0)) := by rw [hW]; exact heap_alloc_new w _
  have hsz : w.heap.size < W.heap.size := by rw [hW]; simp
  have HC1 := Lib.hid (Kd.C_below h1 hB)
  have HC2 := Lib.hid (Kd.C_below h2 hB)
  have HC3 := Lib.hid (Kd.C_below h3 hB)
  have h3s := hE.size
  have HE := Lib.hid (hE.below hB hE.size)
  have HN := Lib.hid hn
  have HB := Lib.hid hB
  have HW := Lib.hid hW
  have HI := Lib.hid hI
  have HJ := Lib.hid hJ
  have HK := Lib.hid hK
  have HCC := Lib.hid hc
  have HNG := Lib.hid hng
  clear hng
  have s1 := h1.2.1
  have s2 := h2.2.1
  have s3 := h3.2.1
  obtain ⟨a0, a1, a2, a3⟩ := box_belowT hn (Below.refl _ _)
  clear hn hB hW hI hJ hK hc hE h1 h2 h3
  by_cases k1 : 64 < p.routes.length
  · have b1 : decide ((64 : Int) < (p.routes.length : Int)) = true := decide_eq_true (by omega)
    have hs : printS p = ([], 3) := by unfold printS manyB; rw [decide_eq_true k1]; rfl
    have HS := Lib.hid hs
    clear hs k1
    go_enter Tryd.func18, Tryd.ntmps18
    go_upto_region 1 with fail
    rw [← HW.out]
    go_wp2_with fail
    go_ret2
    rw [printQ, HS.out]
    exact ⟨rfl, HB.out⟩
  · have b1 : decide ((64 : Int) < (p.routes.length : Int)) = false := decide_eq_false (by omega)
    by_cases k2 : 4096 < p.left.length
    · have b2 : decide ((4096 : Int) < (p.left.length : Int)) = true := decide_eq_true (by omega)
      have hs : printS p = ([], 3) := by unfold printS manyB; rw [decide_eq_true k2, Bool.or_true]; rfl
      have HS := Lib.hid hs
      clear hs k1 k2
      go_enter Tryd.func18, Tryd.ntmps18
      go_upto_region 1 with fail
      rw [← HW.out]
      go_wp2_with fail
      go_ret2
      rw [printQ, HS.out]
      exact ⟨rfl, HB.out⟩
    · have b2 : decide ((4096 : Int) < (p.left.length : Int)) = false := decide_eq_false (by omega)
      have HMB := Lib.hid (manyB_rows k1 k2)
      have hcars : p.routes.length ≤ 64 := by omega
      have hlefts : p.left.length ≤ 4096 := by omega
      clear k1 k2
      go_enter Tryd.func18, Tryd.ntmps18
      go_upto_region 1 with fail
      rw [← HW.out]
      go_wp2_with fail
      clear b1 b2
      go_loop [4] (fun i => ∃ k : Nat, k ≤ p.routes.length ∧ i = .int .i64 k ∧ ∀ j (hj : j < p.routes.length), j < k → longB (p.routes[j]'hj) = false) (fun i => p.routes.length - (intOf i).toNat)
      case atStart => exact ⟨0, Nat.zero_le _, rfl, fun j _ hj => absurd hj (Nat.not_lt_zero _)⟩
      case round =>
        obtain ⟨k, hk, rfl, hno⟩ := hrel
        have HNO := Lib.hid hno
        clear hno
        by_cases hlt : k < p.routes.length
        · obtain ⟨ad1, B1, y1, rfl, hc1, hl1, hR1⟩ := at_L1 HC1.out (k : Int) (by omega) (by omega)
          rw [Int.toNat_natCast, rd_L1_at p.routes k hlt] at hc1
          rw [rd_L1_at p.routes k hlt] at hl1
          obtain ⟨row, hrow⟩ : ∃ r, r = p.routes[k]'hlt := ⟨_, rfl⟩
          rw [← hrow] at hc1 hl1
          have hrl : row.length ≤ 9223372036854775807 := by
            have := hR1.2.1
            rw [rd_L1_at p.routes k hlt] at this
            rw [hrow]
            exact this
          have HROW := Lib.hid hrow
          clear hR1 hrow
          by_cases hlong : 4096 < row.length
          · have b3 : decide ((4096 : Int) < (row.length : Int)) = true := decide_eq_true (by omega)
            have hm : manyB p = true := by rw [HMB.out]; exact any_true_at hlt (by unfold longB; rw [← HROW.out]; exact decide_eq_true hlong)
            have hs : printS p = ([], 3) := by unfold printS; rw [hm]; rfl
            have HS := Lib.hid hs
            clear hs hm hlong
            go_wp2_with fail
            go_ret2
            rw [printQ, HS.out]
            exact ⟨rfl, HB.out⟩
          · have b3 : decide ((4096 : Int) < (row.length : Int)) = false := decide_eq_false (by omega)
            have hlb : longB (p.routes[k]'hlt) = false := by unfold longB; rw [← HROW.out]; exact decide_eq_false hlong
            have HLB := Lib.hid hlb
            clear hlb hlong
            go_wp2_with fail
            go_round
            case rel =>
              refine ⟨k + 1, by omega, by go_num, fun j hj hjk => ?_⟩
              by_cases hjk2 : j < k
              · exact HNO.out j hj hjk2
              · have : j = k := by omega
                subst this
                exact HLB.out
            case measure => (simp [intOf] <;> omega)
        · have hm : manyB p = false := by rw [HMB.out]; exact any_false_take (fun j hj => HNO.out j hj (by omega))
          have HM := Lib.hid hm
          clear hm
          by_cases hlen : p.times.length = p.routes.length
          · have b3 : ((p.times.length : Int) != (p.routes.length : Int)) = false := by simp; omega
            have HLEN := Lib.hid hlen
            have hpl : (pairs p).length = p.routes.length := by unfold pairs; rw [List.length_zip]; omega
            have HPL := Lib.hid hpl
            have hrows : ∀ r ∈ p.routes, r.length ≤ 4096 := by
              intro r hr
              obtain ⟨j, hj, rfl⟩ := List.getElem_of_mem hr
              have := HNO.out j hj (by omega)
              unfold longB at this
              simp at this
              omega
            have HROWS := Lib.hid hrows
            clear hlen hpl hrows
            go_wp2_with fail
            clear b3 a0 a1 a2 a3
            go_loopw [5] (fun i wr => ∃ k : Nat, k ≤ p.routes.length ∧ i = .int .i64 k ∧ (∀ j (hj : j < (pairs p).length), j < k → pairB ((pairs p)[j]'hj) = false) ∧ Below W.heap.size W wr) (fun i _ => p.routes.length - (intOf i).toNat)
            case atStart => exact ⟨0, Nat.zero_le _, rfl, fun j _ hj => absurd hj (Nat.not_lt_zero _), Below.refl _ _⟩
            case round =>
              obtain ⟨m, hm, rfl, hno2, hbr⟩ := hrel
              have HNO2 := Lib.hid hno2
              have HBR := Lib.hid hbr
              have hzr := hbr.size
              obtain ⟨a0, a1, a2, a3⟩ := box_belowT HN.out hbr
              clear hno2 hbr
              by_cases hmt : m < p.routes.length
              · have hmt2 : m < p.times.length := by rw [HLEN.out]; exact hmt
                have hmp : m < (pairs p).length := by rw [HPL.out]; exact hmt
                obtain ⟨ad1, B1, y1, hA1, hc1, hl1, hR1⟩ := at_L1 HC1.out (m : Int) (by omega) (by omega)
                obtain ⟨ad2, B2, y2, hA2, hc2, hl2, hR2⟩ := at_L2 HC2.out (m : Int) (by omega) (by omega)
                rw [Int.toNat_natCast, rd_L1_at p.routes m hmt] at hc1
                rw [Int.toNat_natCast, rd_L2_at p.times m hmt2] at hc2
                have hx := pairs_at p m hmp hmt hmt2
                have hd1 := cell_below hc1 HBR.out
                have hd2 := cell_below hc2 HBR.out
                have q1 := HROWS.out _ (List.getElem_mem hmt)
                have hq2 : (p.times[m]'hmt2).length ≤ 9223372036854775807 := by
                  have := hR2.2.1
                  rw [rd_L2_at p.times m hmt2] at this
                  exact this
                obtain ⟨row, hrow⟩ : ∃ r, r = p.routes[m]'hmt := ⟨_, rfl⟩
                obtain ⟨tim, htim⟩ : ∃ r, r = p.times[m]'hmt2 := ⟨_, rfl⟩
                rw [← hrow] at hd1 hx q1
                rw [← htim] at hd2 hx hq2
                have HX := Lib.hid hx
                have HA1 := Lib.hid hA1
                have HA2 := Lib.hid hA2
                subst hA1
                subst hA2
                clear hx hrow htim hc1 hc2 hl1 hl2 hR1 hR2
                have hbad : pairB (row, tim) = true → ∀ w', Below W.heap.size W w' → printQ p w (.returned (.tuple #[.string ⟨#[]⟩, .int .i64 1])) w' := by
                  intro h w' hb
                  have hpr : pairedB p = false := by
                    unfold pairedB
                    rw [any_true_at (q := pairB) hmp (by rw [HX.out]; exact h)]
                    simp
                  have hs : printS p = ([], 1) := by unfold printS; rw [HM.out, hpr]; rfl
                  rw [printQ, hs]
                  exact ⟨rfl, HB.out.trans (hb.mono (by omega))⟩
                have HBAD := Lib.hid hbad
                have hgood : pairB (row, tim) = false → ∀ j (hj : j < (pairs p).length), j < m + 1 → pairB ((pairs p)[j]'hj) = false := by
                  intro h j hj hjm
                  by_cases hj2 : j < m
                  · exact HNO2.out j hj hj2
                  · have : j = m := by omega
                    subst this
                    rw [HX.out]
                    exact h
                have HGOOD := Lib.hid hgood
                clear hbad hgood
                by_cases e1 : row.length = 0
                · have g1 : ((row.length : Int) == 0) = true := beq_iff_eq.2 (by omega)
                  have HPB := Lib.hid (show pairB (row, tim) = true by unfold pairB; rw [decide_eq_true e1]; rfl)
                  clear e1
                  go_upto_region 13 with fail
                  go_quiet (fail)
                  go_wp2_with fail
                  go_ret2
                  exact HBAD.out HPB.out _ (HBR.out.trans ((pw_below_drewN (Below.refl wr.heap.size wr) _).mono hzr))
                · have g1 : ((row.length : Int) == 0) = false := beq_eq_false_iff_ne.2 (by omega)
                  by_cases e2 : tim.length = row.length
                  · have g2 : ((tim.length : Int) != (row.length : Int)) = false := by rw [bne_eq_false_iff_eq]; omega
                    have HPB := Lib.hid (show pairB (row, tim) = false by unfold pairB; rw [decide_eq_false e1, decide_eq_false (fun h => h e2)]; rfl)
                    clear e1 e2
                    go_upto_region 13 with fail
                    go_quiet (fail)
                    go_wp2_with fail
                    go_roundw
                    case rel => exact ⟨m + 1, by omega, by go_num, HGOOD.out HPB.out, HBR.out.trans ((pw_below_drewN (Below.refl wr.heap.size wr) _).mono hzr)⟩
                    case measure => (simp [intOf] <;> omega)
                  · have g2 : ((tim.length : Int) != (row.length : Int)) = true := bne_iff_ne.2 (by omega)
                    by_cases e3 : 0 < tim.length
                    · have g3 : decide ((0 : Int) < (tim.length : Int)) = true := decide_eq_true (by omega)
                      have g4 : decide (0 < tim.length) = true := decide_eq_true e3
                      have HPB := Lib.hid (show pairB (row, tim) = true by unfold pairB; rw [decide_eq_false e1, decide_eq_true (show tim.length ≠ row.length from e2), decide_eq_true e3]; rfl)
                      clear e1 e2
                      go_upto_region 13 with fail
                      go_quiet (fail)
                      go_wp2_with fail
                      go_ret2
                      exact HBAD.out HPB.out _ (HBR.out.trans ((pw_below_drewN (Below.refl wr.heap.size wr) _).mono hzr))
                    · have g3 : decide ((0 : Int) < (tim.length : Int)) = false := decide_eq_false (by omega)
                      have g4 : decide (0 < tim.length) = false := decide_eq_false e3
                      have HPB := Lib.hid (show pairB (row, tim) = false by unfold pairB; rw [decide_eq_false e1, decide_eq_false e3, Bool.and_false]; rfl)
                      clear e1 e2 e3
                      go_upto_region 13 with fail
                      go_quiet (fail)
                      go_wp2_with fail
                      go_roundw
                      case rel => exact ⟨m + 1, by omega, by go_num, HGOOD.out HPB.out, HBR.out.trans ((pw_below_drewN (Below.refl wr.heap.size wr) _).mono hzr)⟩
                      case measure => (simp [intOf] <;> omega)
              · have hpr : pairedB p = true := by
                  unfold pairedB
                  rw [decide_eq_true HLEN.out, any_false_take (fun j hj => HNO2.out j hj (by have := HPL.out; omega))]
                  rfl
                exact absurd ⟨HM.out, hpr⟩ HNG.out
          · have b3 : ((p.times.length : Int) != (p.routes.length : Int)) = true := by simp; omega
            have hpr : pairedB p = false := by unfold pairedB; rw [decide_eq_false hlen]; rfl
            have hs : printS p = ([], 1) := by unfold printS; rw [HM.out, hpr]; rfl
            have HS := Lib.hid hs
            clear hs hpr hlen
            go_wp2_with fail
            go_ret2
            rw [printQ, HS.out]
            exact ⟨rfl, HB.out⟩
end Go.Proofs.YtdgifgdadminbaaDoor
