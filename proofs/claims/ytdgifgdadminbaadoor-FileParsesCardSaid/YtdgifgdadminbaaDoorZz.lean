import Derived.Test.YtdgifgdadminbaaDoorZk
import Derived.Test.YtdgifgdadminbaaDoorSq
import Derived.Deep.RegionLaw
import Derived.RegionDies
import Derived.Deep.DeepCutAuto
set_option linter.unusedSimpArgs false
set_option linter.unusedVariables false
set_option maxRecDepth 100000
namespace Go.Proofs.YtdgifgdadminbaaDoor
open Go.RowKit Go.Proofs.YtdgifgdadminbaaDoorW.PrintWords Sp
open PFileParses (wrap_id ba_len toList_data info3 info2 info9)

theorem results_cell_row3 {P : Program} {fn : Func} {p t u : Tmp} {ty : TypeId} (h : fn.results = #[.cell p ty, .tmp t, .tmp u]) (tmps : Array Value) (w : World) (g : Nat) (t0 : TypeId) (cs : Array Value) (fr : Nat × Nat) (d : TypeDesc)
    (hp : tmps.getD p undef = .pointer (some ⟨g, 0, none⟩)) (hg : w.heap[g]? = some (.cells cs t0 fr))
    (hu : P.underlying ty = some d) (hd : (match d with | .struct _ | .array _ _ => true | _ => false) = true) (hi : (P.info? ty).map (·.size) = some cs.size) :
    (results fn tmps).run P w = .ok (.tuple #[.agg cs, tmps.getD t undef, tmps.getD u undef]) w := by
  have hp' : tmps[p]?.getD undef = .pointer (some ⟨g, 0, none⟩) := by simpa using hp
  simp [results, h, hp', asAddr, run_loadVar_row w g t0 ty cs fr d hg hu hd hi]
def Z31 : Obj := .cells #[.slice none 0 0, .slice none 0 0, .slice none 0 0, .int .i64 0] 31 (0, 0)
def put4 (b : Nat) (v0 v1 v2 v3 : Value) (w : World) : World := (((w.setCell ⟨b, 0, none⟩ v0).setCell ⟨b, 1, none⟩ v1).setCell ⟨b, 2, none⟩ v2).setCell ⟨b, 3, none⟩ v3
theorem put4_blk {b : Nat} {w : World} (h : w.heap[b]? = some Z31) (v0 v1 v2 v3 : Value) : (put4 b v0 v1 v2 v3 w).heap[b]? = some (.cells #[v0, v1, v2, v3] 31 (0, 0)) :=
  setCell_blk (setCell_blk (setCell_blk (setCell_blk h 0 _) 1 _) 2 _) 3 _
theorem put4_below {b B : Nat} {w0 w : World} (h : Below B w0 w) (hB : B ≤ b) (v0 v1 v2 v3 : Value) : Below B w0 (put4 b v0 v1 v2 v3 w) :=
  (((h.setCell (p := ⟨b, 0, none⟩) hB _).setCell (p := ⟨b, 1, none⟩) hB _).setCell (p := ⟨b, 2, none⟩) hB _).setCell (p := ⟨b, 3, none⟩) hB _
def refQ (x : Except (Int × Int) Pl) (w : World) (e : Ending) (w' : World) : Prop := match x with
  | .error x => e = .returned (.tuple #[.agg #[.slice none 0 0, .slice none 0 0, .slice none 0 0, .int .i64 0], .int .i64 x.1, .int .i64 x.2]) ∧ Below w.heap.size w w'
  | .ok p => ∃ A1 c1 A2 c2 A3 c3, e = .returned (.tuple #[.agg #[.slice A1 p.routes.length c1, .slice A2 p.times.length c2, .slice A3 p.left.length c3, .int .i64 p.cost], .int .i64 0, .int .i64 0]) ∧
      PlanR w.heap.size (.slice A1 p.routes.length c1) (.slice A2 p.times.length c2) (.slice A3 p.left.length c3) p w' ∧ Below w.heap.size w w'

theorem z31_cells {w : World} {b : Nat} (h : w.heap[b]? = some Z31) : w.cell? ⟨b, 0, none⟩ = some (.slice none 0 0) ∧ w.cell? ⟨b, 1, none⟩ = some (.slice none 0 0) ∧ w.cell? ⟨b, 2, none⟩ = some (.slice none 0 0) ∧ w.cell? ⟨b, 3, none⟩ = some (.int .i64 0) :=
  ⟨cell_of_heap h 0 rfl, cell_of_heap h 1 rfl, cell_of_heap h 2 rfl, cell_of_heap h 3 rfl⟩
theorem lines_thin {s : ByteArray} (h : (linesS s).2 = 0) : (linesS s).1.length ≤ 1048577 ∧ ∀ x ∈ (linesS s).1, x.size ≤ 1048576 := by
  obtain ⟨h1, h2⟩ := linesS_inv (s := s) (ls := (linesS s).1) (by rw [← h])
  have hb : ∀ ls : List ByteArray, ls.length ≤ bulk ls ∧ ∀ x ∈ ls, x.size ≤ bulk ls := by
    intro ls
    induction ls with
    | nil => exact ⟨Nat.le_refl _, fun x hx => by simp at hx⟩
    | cons a r ih =>
      have e : bulk (a :: r) = (a.size + 1) + bulk r := by simp [bulk]
      refine ⟨by rw [e, List.length_cons]; have := ih.1; omega, fun x hx => ?_⟩
      rw [e]
      rcases List.mem_cons.1 hx with rfl | hx
      · omega
      · have := ih.2 x hx; omega
  have := hb (linesS s).1
  exact ⟨by have := this.1; omega, fun x hx => by have := this.2 x hx; omega⟩

theorem R_put4 {α : Type} {d : Kd α} {e b base : Nat} {ok : Nat → Prop} {v : Value} {xs : List α} {w : World} (h : d.R e w base ok v xs) (hk : ∀ k, ok k → k ≠ b) (v0 v1 v2 v3 : Value) : d.R e (put4 b v0 v1 v2 v3 w) base ok v xs :=
  Kd.R_far (p := ⟨b, 3, none⟩) (Kd.R_far (p := ⟨b, 2, none⟩) (Kd.R_far (p := ⟨b, 1, none⟩) (Kd.R_far (p := ⟨b, 0, none⟩) h hk v0) hk v1) hk v2) hk v3

set_option maxHeartbeats 8000000 in
theorem refParse_c (s : ByteArray) (w : World) :
    Calls Tryd.prog 13 #[.string s] w fun e w' => refQ (parseS s) w e w' := by
  obtain ⟨W, hW⟩ : ∃ W, W = (w.alloc Z31).alloc Z31 := ⟨_, rfl⟩
  have hWs : W.heap.size = w.heap.size + 2 := by rw [hW]; simp
  have hbW : Below w.heap.size w W := by rw [hW]; exact ((Below.refl _ _).alloc (Nat.le_refl _) _).alloc (by simp) _
  have hb1 : W.heap[w.heap.size + 1]? = some Z31 := by
    rw [hW]
    have := heap_alloc_new (w.alloc Z31) Z31
    simpa using this
  have hb0 : W.heap[w.heap.size]? = some Z31 := by
    rw [hW, Below.heap_alloc _ _ _ (by simp)]
    exact heap_alloc_new w Z31
  have HW := Lib.hid hW
  have HbW := Lib.hid hbW
  have HB0 := Lib.hid hb0
  have HB1 := Lib.hid hb1
  have hL := linesR_c s W
  obtain ⟨ls, hls⟩ : ∃ ls, ls = (linesS s).1 := ⟨_, rfl⟩
  obtain ⟨el, hel⟩ : ∃ el, el = (linesS s).2 := ⟨_, rfl⟩
  rw [← hls, ← hel] at hL
  have HLS := Lib.hid hls
  have HEL := Lib.hid hel
  have HL := Lib.hid hL
  clear hW hbW hb0 hb1 hL hls hel
  go_enter Tryd.func13, Tryd.ntmps13
  go_upto_region 2 with fail
  rw [show (w.alloc (.cells #[.slice none 0 0, .slice none 0 0, .slice none 0 0, .int .i64 0] 31)).alloc (.cells #[.slice none 0 0, .slice none 0 0, .slice none 0 0, .int .i64 0] 31) = W from HW.out.symm]
  go_wp2_with fail
  refine HL.out.mono ?_
  rintro e w1 ⟨v1, rfl, hR1, hbe1⟩
  have hz1 := hbe1.size
  have hc0 : w1.heap[w.heap.size]? = some Z31 := (hbe1.block _ (by omega)).trans HB0.out
  have hc1 : w1.heap[w.heap.size + 1]? = some Z31 := (hbe1.block _ (by omega)).trans HB1.out
  have HBE1 := Lib.hid (HbW.out.trans (hbe1.mono (show w.heap.size ≤ W.heap.size by omega)))
  have HR1 := Lib.hid hR1
  have HC0 := Lib.hid hc0
  have HC1 := Lib.hid hc1
  clear hR1 hbe1
  by_cases he : el = 0
  · have hthin := lines_thin (s := s) (by rw [← HEL.out]; exact he)
    rw [← HLS.out] at hthin
    obtain ⟨hmany, hthin⟩ := hthin
    obtain ⟨A, cl, rfl, hle, hC⟩ := Kd.R_reads HR1.out
    have hps : parseS s = planS ls := by unfold parseS; rw [← HEL.out, ← HLS.out, if_neg (by rw [he]; decide)]
    have HPS := Lib.hid hps
    have HCL := Lib.hid hC
    have HTH := Lib.hid hthin
    have hn := nextR_c A cl ls 0 sPlan 1048576 w1 hC hle (by omega) hthin
    rw [show ((0 : Nat) : Int) = 0 from rfl] at hn
    subst he
    cases hs1 : nextS ls 0 sPlan with
    | error er =>
      have hner := nextS_err hs1
      have hspec : parseS s = .error (1, er) := by rw [HPS.out]; unfold planS; rw [hs1]
      have HSP := Lib.hid hspec
      rw [hs1] at hn
      unfold ans sPlan at hn
      dsimp only at hn
      have HN := Lib.hid hn
      clear hspec hs1 hn hthin hC hps
      have g1 : ((er : Int) == 0) = false := beq_eq_false_iff_ne.2 hner
      have g2 : ((er : Int) != 0) = true := bne_iff_ne.2 hner
      clear hner
      go_wp2_with fail
      refine HN.out.mono ?_
      rintro e w2 ⟨v2, rfl, hR2, hbe2⟩
      have hc20 := (hbe2.block _ (by omega)).trans HC0.out
      have hc21 := (hbe2.block _ (by omega)).trans HC1.out
      have HC20 := Lib.hid hc20
      have HBE2 := Lib.hid (HBE1.out.trans (hbe2.mono (by have := HBE1.out.size; omega)))
      obtain ⟨p0, p1, p2, p3⟩ := z31_cells hc21
      obtain ⟨q0, q1, q2, q3⟩ := z31_cells hc20
      have z0 := frozen_of_heap hc20 0
      have z1 := frozen_of_heap hc20 1
      have z2 := frozen_of_heap hc20 2
      have z3 := frozen_of_heap hc20 3
      clear hc20 hc21 hR2 hbe2 HN hc0 hc1
      go_wp2_with fail
      refine bodyPost_ret (v := .tuple #[.agg #[.slice none 0 0, .slice none 0 0, .slice none 0 0, .int .i64 0], .int .i64 1, .int .i64 er]) ?_ rfl ?_
      · exact results_cell_row3 (P := Tryd.prog) (fn := Tryd.f13) (p := 2) (t := 3) (u := 4) (ty := 31) rfl _ _ w.heap.size 31 #[.slice none 0 0, .slice none 0 0, .slice none 0 0, .int .i64 0] (0, 0) _ rfl (put4_blk HC20.out _ _ _ _) Tryd.underlying31 rfl (by kernel_rfl)
      · unfold refQ
        rw [HSP.out]
        exact ⟨rfl, put4_below HBE2.out (Nat.le_refl _) _ _ _ _⟩
    | ok ws =>
      obtain ⟨hwl, hwt⟩ := nextS_ok hs1 HTH.out
      rw [hs1] at hn
      unfold ans sPlan at hn
      dsimp only at hn
      have HN := Lib.hid hn
      have HS1 := Lib.hid hs1
      have HWT := Lib.hid hwt
      clear hs1 hn hthin hC hps hwt
      go_upto_region 5 with fail
      go_wp2_with fail
      refine HN.out.mono ?_
      rintro e w2 ⟨v2, rfl, hR2, hbe2⟩
      have hz2 := hbe2.size
      have HC20 := Lib.hid ((hbe2.block _ (by omega)).trans HC0.out)
      have HC21 := Lib.hid ((hbe2.block _ (by omega)).trans HC1.out)
      have HBE2 := Lib.hid (HBE1.out.trans (hbe2.mono (by have := HBE1.out.size; omega)))
      have HCL2 := Lib.hid (Kd.C_below HCL.out hbe2)
      obtain ⟨A2, k2, rfl, hle2, hC2⟩ := Kd.Q_reads hR2
      have HQ2 := Lib.hid hR2
      have HW2 := Lib.hid hC2
      clear hR2 hbe2 HN hc0 hc1 hC2
      by_cases hl2 : ws.length = 2
      · obtain ⟨a, b, rfl⟩ : ∃ a b, ws = [a, b] := by
          match ws, hl2 with
          | [a, b], _ => exact ⟨a, b, rfl⟩
        clear hl2
        obtain ⟨ad, rfl, hca⟩ := Kd.at_string HW2.out 0 (by omega) (by simp)
        have hca' : w2.cell? ad = some (.string a) := by simpa [Addr.add, rdOf] using hca
        obtain ⟨m, hm⟩ : ∃ m, m = (wholeS a).1 := ⟨_, rfl⟩
        obtain ⟨em, hem⟩ : ∃ em, em = (wholeS a).2 := ⟨_, rfl⟩
        have hw := wholeR_c a (by have := HWT.out a (by simp); omega) w2
        rw [← hm, ← hem] at hw
        have HWC := Lib.hid hw
        have HM := Lib.hid hm
        have HEM := Lib.hid hem
        clear hca hw hm hem
        go_wp2_with fail
        refine HWC.out.mono ?_
        rintro e w3 ⟨rfl, hd3⟩
        have hbe3 := drawn_below (Below.refl w2.heap.size w2) hd3
        have hz3 := hbe3.size
        have HC30 := Lib.hid ((hbe3.block _ (by omega)).trans HC20.out)
        have HC31 := Lib.hid ((hbe3.block _ (by omega)).trans HC21.out)
        have HBE3 := Lib.hid (HBE2.out.trans (hbe3.mono (by have := HBE2.out.size; omega)))
        have HCL3 := Lib.hid (Kd.C_below HCL2.out hbe3)
        have HQ3 := Lib.hid (Kd.Q_below HQ2.out hbe3)
        clear hd3 hbe3 HWC hca'
        by_cases hma : em = 0
        · subst hma
          obtain ⟨M, hM⟩ : ∃ M : Nat, m = (M : Int) := ⟨m.toNat, by have := wholeS_sign a HEM.out.symm; rw [← HM.out] at this; omega⟩
          subst hM
          have hk2 : 2 ≤ k2 := hle2
          have hk1 : k2 ≠ 1 := by omega
          have hk1' : ¬ k2 - 1 = 0 := by omega
          have hq := Kd.Q_drop HQ3.out (k := 1) (by simp)
          rw [if_neg hk1] at hq
          obtain ⟨_, _, hCb⟩ := Kd.Q_reads' hq
          have hlo := longsR_c _ (k2 - 1) [b] 4294967281 w3 hCb (by simp only [List.length_cons, List.length_nil]; omega) (by omega) (fun x hx => by have := HWT.out x (by simp at hx; simp [hx]); omega) (by simp)
          obtain ⟨cs, hcs⟩ : ∃ cs, cs = (longS b).1 := ⟨_, rfl⟩
          obtain ⟨ec, hec⟩ : ∃ ec, ec = (longS b).2 := ⟨_, rfl⟩
          by_cases hlb : (longS b).2 = 0
          · rw [readAll_one hlb] at hlo
            unfold ans at hlo
            dsimp only at hlo
            rw [← hcs] at hlo
            have HLO := Lib.hid hlo
            have HCS := Lib.hid hcs
            have HLB := Lib.hid hlb
            clear hq hCb hlo hcs hec hle2 hlb
            go_wp2_with fail
            refine HLO.out.mono ?_
            rintro e w4 ⟨v4, rfl, hR4, hbe4⟩
            have hz4 := hbe4.size
            have HC40 := Lib.hid ((hbe4.block _ (by omega)).trans HC30.out)
            have HC41 := Lib.hid ((hbe4.block _ (by omega)).trans HC31.out)
            have HBE4 := Lib.hid (HBE3.out.trans (hbe4.mono (by have := HBE3.out.size; omega)))
            have HCL4 := Lib.hid (Kd.C_below HCL3.out hbe4)
            obtain ⟨A4, k4, rfl, hle4, hC4⟩ := Kd.R_reads hR4
            obtain ⟨ad4, rfl, hcv⟩ := Kd.at_int hC4 0 (by omega) (by simp)
            have hcv4 : w4.cell? ad4 = some (.int .i64 cs) := by simpa [Addr.add, rd] using hcv
            clear hR4 hbe4 hcv hC4 HLO
            by_cases hbig : 64 < M
            · have g1 : decide ((64 : Int) < (M : Int)) = true := decide_eq_true (by omega)
              have hspec : parseS s = .error (1, 3) := by
                rw [HPS.out]
                unfold planS
                rw [HS1.out]
                dsimp only
                rw [if_neg (by rw [← HEM.out]; decide), if_neg (by rw [HLB.out]; decide), if_pos (by rw [← HM.out]; omega)]
              have HSP := Lib.hid hspec
              obtain ⟨p0, p1, p2, p3⟩ := z31_cells HC41.out
              obtain ⟨q0, q1, q2, q3⟩ := z31_cells HC40.out
              have z0 := frozen_of_heap HC40.out 0
              have z1 := frozen_of_heap HC40.out 1
              have z2 := frozen_of_heap HC40.out 2
              have z3 := frozen_of_heap HC40.out 3
              clear hspec hbig
              go_wp2_with fail
              refine bodyPost_ret (v := .tuple #[.agg #[.slice none 0 0, .slice none 0 0, .slice none 0 0, .int .i64 0], .int .i64 1, .int .i64 3]) ?_ rfl ?_
              · exact results_cell_row3 (P := Tryd.prog) (fn := Tryd.f13) (p := 2) (t := 3) (u := 4) (ty := 31) rfl _ _ w.heap.size 31 #[.slice none 0 0, .slice none 0 0, .slice none 0 0, .int .i64 0] (0, 0) _ rfl (put4_blk HC40.out _ _ _ _) Tryd.underlying31 rfl (by kernel_rfl)
              · unfold refQ
                rw [HSP.out]
                exact ⟨rfl, put4_below HBE4.out (Nat.le_refl _) _ _ _ _⟩
            · have g1 : decide ((64 : Int) < (M : Int)) = false := decide_eq_false (by omega)
              go_upto_region 19 with fail
              obtain ⟨w5, hw5⟩ : ∃ w5, w5 = w4.alloc (.cells #[.slice none 0 0, .slice none 0 0, .slice none 0 0, .int .i64 cs] 31) := ⟨_, rfl⟩
              have hbP : w5.heap[w4.heap.size]? = some (.cells #[.slice none 0 0, .slice none 0 0, .slice none 0 0, .int .i64 cs] 31 (0, 0)) := by rw [hw5]; exact heap_alloc_new w4 _
              have hb5 : Below w4.heap.size w4 w5 := by rw [hw5]; exact (Below.refl _ _).alloc (Nat.le_refl _) _
              rw [← hw5]
              have hPT : PT w4.heap.size (.slice none 0 0) (.slice none 0 0) (.slice none 0 0) cs [] [] w5 := ⟨hbP, fun _ => False, fun _ => False, Kd.R_nil _ _ _ _ _, Kd.R_nil _ _ _ _ _, fun _ h => h.elim⟩
              have HPT := Lib.hid hPT
              have HB5 := Lib.hid hb5
              have hM64 : M ≤ 64 := by omega
              have hpre : ∀ x, routesS ls M = .error x → parseS s = .error x := by
                intro x hx
                rw [HPS.out]
                unfold planS
                rw [HS1.out]
                dsimp only
                rw [if_neg (by rw [← HEM.out]; decide), if_neg (by rw [HLB.out]; decide), if_neg (by rw [← HM.out]; omega), ← HM.out, Int.toNat_natCast, hx]
              have HPRE := Lib.hid hpre
              clear hpre
              clear hw5 hbP hb5 hPT hcv4 hbig g1 HC0 HC1 HC20 HC21 HC30 HC31 HBE1 HBE2 HBE3 HCL HCL2 HCL3 HQ2 HQ3 HW2
              go_wp2_with fail
              go_loopw [12] (fun i wr => ∃ (k : Nat) (rs ts : List (List Int)) (rv tv : Value), k ≤ M ∧ i = .int .i64 k ∧ routesS ls k = .ok (rs, ts) ∧ PT w4.heap.size rv tv (.slice none 0 0) cs rs ts wr ∧ Below w4.heap.size w4 wr) (fun i _ => M - (intOf i).toNat)
              case atStart => exact ⟨0, [], [], _, _, Nat.zero_le _, rfl, rfl, HPT.out, HB5.out⟩
              case round =>
                obtain ⟨k, rs, ts, rv, tv, hk, rfl, hrs, hPr, hbr⟩ := hrel
                obtain ⟨hl1, hlt1, _⟩ := routesS_inv _ _ hrs
                have hzr := hbr.size
                have HPR := Lib.hid hPr
                have HBR := Lib.hid hbr
                have HRS := Lib.hid hrs
                have HCR0 := Lib.hid ((hbr.block _ (by omega)).trans HC40.out)
                have HCR1 := Lib.hid ((hbr.block _ (by omega)).trans HC41.out)
                have HBER := Lib.hid (HBE4.out.trans (hbr.mono (by have := HBE4.out.size; omega)))
                have HCLR := Lib.hid (Kd.C_below HCL4.out hbr)
                clear hrs hPr hbr
                by_cases hkM : k < M
                · have hn := nextR_c A cl ls (1 + 2 * k) sRoute 1048576 wr HCLR.out hle (by omega) HTH.out
                  rw [show ((1 + 2 * k : Nat) : Int) = 1 + 2 * (k : Int) by omega] at hn
                  have hre : ∀ x, routeS ls (1 + 2 * k) = .error x → parseS s = .error x := by
                    intro x hx
                    obtain ⟨d, hd⟩ : ∃ d, M = k + 1 + d := ⟨M - (k + 1), by omega⟩
                    refine HPRE.out x ?_
                    rw [hd]
                    exact routesS_bad (by rw [routesS, HRS.out]; dsimp only; rw [hx]) d
                  have HRE := Lib.hid hre
                  clear hre
                  cases hs2 : nextS ls (1 + 2 * k) sRoute with
                  | error er =>
                    have hner := nextS_err hs2
                    have hspec : parseS s = .error (2 + 2 * (k : Int), er) := by
                      refine HRE.out _ ?_
                      unfold routeS
                      rw [hs2]
                      dsimp only
                      rw [show ((1 + 2 * k : Nat) : Int) + 1 = 2 + 2 * (k : Int) by omega]
                    have HSP := Lib.hid hspec
                    rw [hs2] at hn
                    unfold ans sRoute at hn
                    dsimp only at hn
                    have HN := Lib.hid hn
                    clear hspec hs2 hn
                    have g1 : ((er : Int) == 0) = false := beq_eq_false_iff_ne.2 hner
                    have g2 : ((er : Int) != 0) = true := bne_iff_ne.2 hner
                    clear hner
                    go_wp2_with fail
                    refine HN.out.mono ?_
                    rintro e w6 ⟨v6, rfl, hR6, hbe6⟩
                    have hc60 := (hbe6.block _ (by omega)).trans HCR0.out
                    have hc61 := (hbe6.block _ (by omega)).trans HCR1.out
                    have HC60 := Lib.hid hc60
                    have HBE6 := Lib.hid (HBER.out.trans (hbe6.mono (by have := HBER.out.size; omega)))
                    obtain ⟨p0, p1, p2, p3⟩ := z31_cells hc61
                    obtain ⟨q0, q1, q2, q3⟩ := z31_cells hc60
                    have z0 := frozen_of_heap hc60 0
                    have z1 := frozen_of_heap hc60 1
                    have z2 := frozen_of_heap hc60 2
                    have z3 := frozen_of_heap hc60 3
                    clear hc60 hc61 hR6 hbe6 HN
                    go_wp2_with fail
                    refine bodyPost_ret (v := .tuple #[.agg #[.slice none 0 0, .slice none 0 0, .slice none 0 0, .int .i64 0], .int .i64 (2 + 2 * (k : Int)), .int .i64 er]) ?_ rfl ?_
                    · exact results_cell_row3 (P := Tryd.prog) (fn := Tryd.f13) (p := 2) (t := 3) (u := 4) (ty := 31) rfl _ _ w.heap.size 31 #[.slice none 0 0, .slice none 0 0, .slice none 0 0, .int .i64 0] (0, 0) _ rfl (put4_blk HC60.out _ _ _ _) Tryd.underlying31 rfl (by kernel_rfl)
                    · unfold refQ
                      rw [HSP.out]
                      exact ⟨rfl, put4_below HBE6.out (Nat.le_refl _) _ _ _ _⟩
                  | ok ws2 =>
                    obtain ⟨hwl2, hwt2⟩ := nextS_ok hs2 HTH.out
                    rw [hs2] at hn
                    unfold ans sRoute at hn
                    dsimp only at hn
                    have HN := Lib.hid hn
                    have HS2 := Lib.hid hs2
                    have HWT2 := Lib.hid hwt2
                    clear hs2 hn hwt2
                    go_wp2_with fail
                    refine HN.out.mono ?_
                    rintro e w6 ⟨v6, rfl, hR6, hbe6⟩
                    have hz6 := hbe6.size
                    have HC60 := Lib.hid ((hbe6.block _ (by omega)).trans HCR0.out)
                    have HC61 := Lib.hid ((hbe6.block _ (by omega)).trans HCR1.out)
                    have HBE6 := Lib.hid (HBER.out.trans (hbe6.mono (by have := HBER.out.size; omega)))
                    have HB6 := Lib.hid (HBR.out.trans (hbe6.mono (by omega)))
                    have HCL6 := Lib.hid (Kd.C_below HCLR.out hbe6)
                    have HP6 := Lib.hid (HPR.out.below hbe6).cap
                    have hPlt6 := (HPR.out.below hbe6).lt
                    obtain ⟨A6, k6, rfl, hle6, hC6⟩ := Kd.Q_reads hR6
                    have HW6 := Lib.hid hC6
                    clear hR6 hbe6 hC6 HN HCR0 HCR1 HBER HCLR HPR HBR
                    by_cases hnil : ws2.length = 0
                    · have g1 : ((ws2.length : Int) == 0) = true := beq_iff_eq.2 (by omega)
                      have hspec : parseS s = .error (2 + 2 * (k : Int), 21) := by
                        refine HRE.out _ ?_
                        unfold routeS
                        rw [HS2.out]
                        dsimp only
                        rw [if_pos (List.eq_nil_of_length_eq_zero hnil), show ((1 + 2 * k : Nat) : Int) + 1 = 2 + 2 * (k : Int) by omega]
                      have HSP := Lib.hid hspec
                      obtain ⟨p0, p1, p2, p3⟩ := z31_cells HC61.out
                      obtain ⟨q0, q1, q2, q3⟩ := z31_cells HC60.out
                      have z0 := frozen_of_heap HC60.out 0
                      have z1 := frozen_of_heap HC60.out 1
                      have z2 := frozen_of_heap HC60.out 2
                      have z3 := frozen_of_heap HC60.out 3
                      clear hspec hnil
                      go_wp2_with fail
                      refine bodyPost_ret (v := .tuple #[.agg #[.slice none 0 0, .slice none 0 0, .slice none 0 0, .int .i64 0], .int .i64 (2 + 2 * (k : Int)), .int .i64 21]) ?_ rfl ?_
                      · exact results_cell_row3 (P := Tryd.prog) (fn := Tryd.f13) (p := 2) (t := 3) (u := 4) (ty := 31) rfl _ _ w.heap.size 31 #[.slice none 0 0, .slice none 0 0, .slice none 0 0, .int .i64 0] (0, 0) _ rfl (put4_blk HC60.out _ _ _ _) Tryd.underlying31 rfl (by kernel_rfl)
                      · unfold refQ
                        rw [HSP.out]
                        exact ⟨rfl, put4_below HBE6.out (Nat.le_refl _) _ _ _ _⟩
                    · have g1 : ((ws2.length : Int) == 0) = false := beq_eq_false_iff_ne.2 (by omega)
                      have hne : ws2 ≠ [] := fun h => hnil (by rw [h]; rfl)
                      have HNE := Lib.hid hne
                      have hw := wholesR_c A6 k6 ws2 4294967281 w6 HW6.out hle6 (by omega) (fun x hx => by have := HWT2.out x hx; omega) (by omega)
                      clear hne
                      cases hs3 : readAll wholeS ws2 with
                      | error er =>
                        have hner := readAll_err hs3
                        have hspec : parseS s = .error (2 + 2 * (k : Int), er) := by
                          refine HRE.out _ ?_
                          unfold routeS
                          rw [HS2.out]
                          dsimp only
                          rw [if_neg HNE.out, hs3]
                          dsimp only
                          rw [show ((1 + 2 * k : Nat) : Int) + 1 = 2 + 2 * (k : Int) by omega]
                        have HSP := Lib.hid hspec
                        rw [hs3] at hw
                        unfold ans at hw
                        dsimp only at hw
                        have HWW := Lib.hid hw
                        clear hspec hs3 hw hnil
                        have g2 : ((er : Int) != 0) = true := bne_iff_ne.2 hner
                        clear hner
                        go_wp2_with fail
                        refine HWW.out.mono ?_
                        rintro e w7 ⟨v7, rfl, hR7, hbe7⟩
                        have hc70 := (hbe7.block _ (by omega)).trans HC60.out
                        have hc71 := (hbe7.block _ (by omega)).trans HC61.out
                        have HC70 := Lib.hid hc70
                        have HBE7 := Lib.hid (HBE6.out.trans (hbe7.mono (by have := HBE6.out.size; omega)))
                        obtain ⟨p0, p1, p2, p3⟩ := z31_cells hc71
                        obtain ⟨q0, q1, q2, q3⟩ := z31_cells hc70
                        have z0 := frozen_of_heap hc70 0
                        have z1 := frozen_of_heap hc70 1
                        have z2 := frozen_of_heap hc70 2
                        have z3 := frozen_of_heap hc70 3
                        clear hc70 hc71 hR7 hbe7 HWW
                        go_wp2_with fail
                        refine bodyPost_ret (v := .tuple #[.agg #[.slice none 0 0, .slice none 0 0, .slice none 0 0, .int .i64 0], .int .i64 (2 + 2 * (k : Int)), .int .i64 er]) ?_ rfl ?_
                        · exact results_cell_row3 (P := Tryd.prog) (fn := Tryd.f13) (p := 2) (t := 3) (u := 4) (ty := 31) rfl _ _ w.heap.size 31 #[.slice none 0 0, .slice none 0 0, .slice none 0 0, .int .i64 0] (0, 0) _ rfl (put4_blk HC70.out _ _ _ _) Tryd.underlying31 rfl (by kernel_rfl)
                        · unfold refQ
                          rw [HSP.out]
                          exact ⟨rfl, put4_below HBE7.out (Nat.le_refl _) _ _ _ _⟩
                      | ok row =>
                        rw [hs3] at hw
                        unfold ans at hw
                        dsimp only at hw
                        have HWW := Lib.hid hw
                        have HROW := Lib.hid hs3
                        clear hs3 hw hnil
                        go_wp2_with fail
                        refine HWW.out.mono ?_
                        rintro e w7 ⟨v7, rfl, hR7, hbe7⟩
                        have hz7 := hbe7.size
                        have HC70 := Lib.hid ((hbe7.block _ (by omega)).trans HC60.out)
                        have HC71 := Lib.hid ((hbe7.block _ (by omega)).trans HC61.out)
                        have HBE7 := Lib.hid (HBE6.out.trans (hbe7.mono (by have := HBE6.out.size; omega)))
                        have HB7 := Lib.hid (HB6.out.trans (hbe7.mono (by have := HB6.out.size; omega)))
                        have HCL7 := Lib.hid (Kd.C_below HCL6.out hbe7)
                        have HP7 := Lib.hid (HP6.out.below hbe7)
                        have HV7 := Lib.hid hR7
                        clear hR7 hbe7 HWW HC60 HC61 HBE6 HB6 HCL6 HP6 HW6
                        have hn := nextR_c A cl ls (2 + 2 * k) sTimes 1048576 w7 HCL7.out hle (by omega) HTH.out
                        rw [show ((2 + 2 * k : Nat) : Int) = 2 + 2 * (k : Int) by omega] at hn
                        cases hs4 : nextS ls (2 + 2 * k) sTimes with
                        | error er =>
                          have hner := nextS_err hs4
                          have hspec : parseS s = .error (3 + 2 * (k : Int), er) := by
                            refine HRE.out _ ?_
                            unfold routeS
                            rw [HS2.out]
                            dsimp only
                            rw [if_neg HNE.out, HROW.out]
                            dsimp only
                            rw [show 1 + 2 * k + 1 = 2 + 2 * k by omega, hs4]
                            dsimp only
                            rw [show ((1 + 2 * k : Nat) : Int) + 2 = 3 + 2 * (k : Int) by omega]
                          have HSP := Lib.hid hspec
                          rw [hs4] at hn
                          unfold ans sTimes at hn
                          dsimp only at hn
                          have HN := Lib.hid hn
                          clear hspec hs4 hn
                          have g2 : ((er : Int) == 0) = false := beq_eq_false_iff_ne.2 hner
                          have g3 : ((er : Int) != 0) = true := bne_iff_ne.2 hner
                          clear hner
                          go_wp2_with fail
                          refine HN.out.mono ?_
                          rintro e w8 ⟨v8, rfl, hR8, hbe8⟩
                          have hc80 := (hbe8.block _ (by omega)).trans HC70.out
                          have hc81 := (hbe8.block _ (by omega)).trans HC71.out
                          have HC80 := Lib.hid hc80
                          have HBE8 := Lib.hid (HBE7.out.trans (hbe8.mono (by have := HBE7.out.size; omega)))
                          obtain ⟨p0, p1, p2, p3⟩ := z31_cells hc81
                          obtain ⟨q0, q1, q2, q3⟩ := z31_cells hc80
                          have z0 := frozen_of_heap hc80 0
                          have z1 := frozen_of_heap hc80 1
                          have z2 := frozen_of_heap hc80 2
                          have z3 := frozen_of_heap hc80 3
                          clear hc80 hc81 hR8 hbe8 HN
                          go_wp2_with fail
                          refine bodyPost_ret (v := .tuple #[.agg #[.slice none 0 0, .slice none 0 0, .slice none 0 0, .int .i64 0], .int .i64 (3 + 2 * (k : Int)), .int .i64 er]) ?_ rfl ?_
                          · exact results_cell_row3 (P := Tryd.prog) (fn := Tryd.f13) (p := 2) (t := 3) (u := 4) (ty := 31) rfl _ _ w.heap.size 31 #[.slice none 0 0, .slice none 0 0, .slice none 0 0, .int .i64 0] (0, 0) _ rfl (put4_blk HC80.out _ _ _ _) Tryd.underlying31 rfl (by kernel_rfl)
                          · unfold refQ
                            rw [HSP.out]
                            exact ⟨rfl, put4_below HBE8.out (Nat.le_refl _) _ _ _ _⟩
                        | ok more =>
                          obtain ⟨hml, hmt⟩ := nextS_ok hs4 HTH.out
                          rw [hs4] at hn
                          unfold ans sTimes at hn
                          dsimp only at hn
                          have HN := Lib.hid hn
                          have HS4 := Lib.hid hs4
                          have HMT := Lib.hid hmt
                          clear hs4 hn hmt
                          go_wp2_with fail
                          refine HN.out.mono ?_
                          rintro e w8 ⟨v8, rfl, hR8, hbe8⟩
                          have hz8 := hbe8.size
                          have HC80 := Lib.hid ((hbe8.block _ (by omega)).trans HC70.out)
                          have HC81 := Lib.hid ((hbe8.block _ (by omega)).trans HC71.out)
                          have HBE8 := Lib.hid (HBE7.out.trans (hbe8.mono (by have := HBE7.out.size; omega)))
                          have HB8 := Lib.hid (HB7.out.trans (hbe8.mono (by have := HB7.out.size; omega)))
                          have HCL8 := Lib.hid (Kd.C_below HCL7.out hbe8)
                          have HP8 := Lib.hid (HP7.out.below hbe8)
                          have HV8 := Lib.hid (Kd.R_below HV7.out hbe8)
                          obtain ⟨A8, k8, rfl, hle8, hC8⟩ := Kd.Q_reads hR8
                          have HW8 := Lib.hid hC8
                          clear hR8 hbe8 hC8 HN HC70 HC71 HBE7 HB7 HCL7 HP7
                          by_cases hbad : more.length ≠ ws2.length ∧ 0 < more.length
                          · have hq1 : ((more.length : Int) != (ws2.length : Int)) = true := bne_iff_ne.2 (fun h => hbad.1 (by omega))
                            have hq2 : decide ((0 : Int) < (more.length : Int)) = true := decide_eq_true (by omega)
                            have hq3 : decide (0 < more.length) = true := decide_eq_true hbad.2
                            have hspec : parseS s = .error (3 + 2 * (k : Int), 1) := by
                              refine HRE.out _ ?_
                              unfold routeS
                              rw [HS2.out]
                              dsimp only
                              rw [if_neg HNE.out, HROW.out]
                              dsimp only
                              rw [show 1 + 2 * k + 1 = 2 + 2 * k by omega, HS4.out]
                              dsimp only
                              rw [if_pos hbad, show ((1 + 2 * k : Nat) : Int) + 2 = 3 + 2 * (k : Int) by omega]
                            have HSP := Lib.hid hspec
                            obtain ⟨p0, p1, p2, p3⟩ := z31_cells HC81.out
                            obtain ⟨q0, q1, q2, q3⟩ := z31_cells HC80.out
                            have z0 := frozen_of_heap HC80.out 0
                            have z1 := frozen_of_heap HC80.out 1
                            have z2 := frozen_of_heap HC80.out 2
                            have z3 := frozen_of_heap HC80.out 3
                            clear hspec hbad
                            go_wp2_with fail
                            refine bodyPost_ret (v := .tuple #[.agg #[.slice none 0 0, .slice none 0 0, .slice none 0 0, .int .i64 0], .int .i64 (3 + 2 * (k : Int)), .int .i64 1]) ?_ rfl ?_
                            · exact results_cell_row3 (P := Tryd.prog) (fn := Tryd.f13) (p := 2) (t := 3) (u := 4) (ty := 31) rfl _ _ w.heap.size 31 #[.slice none 0 0, .slice none 0 0, .slice none 0 0, .int .i64 0] (0, 0) _ rfl (put4_blk HC80.out _ _ _ _) Tryd.underlying31 rfl (by kernel_rfl)
                            · unfold refQ
                              rw [HSP.out]
                              exact ⟨rfl, put4_below HBE8.out (Nat.le_refl _) _ _ _ _⟩
                          · have HBAD := Lib.hid hbad
                            obtain ⟨T1, hT10⟩ : ∃ T1, ((more.length : Int) != (ws2.length : Int)) = T1 := ⟨_, rfl⟩
                            have hT2 : T1 = true → decide ((0 : Int) < (more.length : Int)) = false := by
                              intro h
                              subst h
                              refine decide_eq_false (fun h => hbad ⟨?_, by omega⟩)
                              have := bne_iff_ne.1 hT10
                              omega
                            have hT4 : T1 = true → decide (0 < more.length) = false := by
                              intro h
                              have := hT2 h
                              refine decide_eq_false (fun h2 => ?_)
                              have h3 := of_decide_eq_false this
                              omega
                            clear hbad
                            have hlo := longsR_c A8 k8 more 4294967281 w8 HW8.out hle8 (by omega) (fun x hx => by have := HMT.out x hx; omega) (by omega)
                            have HLO0 := Lib.hid hlo
                            clear hlo
                            go_upto_region 31 with fail
                            go_cut [136] (fun er wx => er = .bool false ∧ wx = w8)
                            case first =>
                              cases T1
                              all_goals
                                first | (have hT3 := hT2 rfl; have hT5 := hT4 rfl; clear hT2 hT4) | clear hT2 hT4
                                go_wp2_with fail
                                go_meet
                                case rel => exact ⟨rfl, rfl⟩
                            case rest =>
                              obtain ⟨rfl, rfl⟩ := hcut
                              clear hT2 hT4 hT10
                              cases hs5 : readAll longS more with
                              | error er =>
                                have hner := readAll_err hs5
                                have hspec : parseS s = .error (3 + 2 * (k : Int), er) := by
                                  refine HRE.out _ ?_
                                  unfold routeS
                                  rw [HS2.out]
                                  dsimp only
                                  rw [if_neg HNE.out, HROW.out]
                                  dsimp only
                                  rw [show 1 + 2 * k + 1 = 2 + 2 * k by omega, HS4.out]
                                  dsimp only
                                  rw [if_neg HBAD.out, hs5]
                                  dsimp only
                                  rw [show ((1 + 2 * k : Nat) : Int) + 2 = 3 + 2 * (k : Int) by omega]
                                have HSP := Lib.hid hspec
                                have hlo := HLO0.out
                                rw [hs5] at hlo
                                unfold ans at hlo
                                dsimp only at hlo
                                have HLO := Lib.hid hlo
                                clear hspec hs5 hlo HLO0
                                have g2 : ((er : Int) != 0) = true := bne_iff_ne.2 hner
                                clear hner
                                go_wp2_with fail
                                refine HLO.out.mono ?_
                                rintro e w9 ⟨v9, rfl, hR9, hbe9⟩
                                have hc90 := (hbe9.block _ (by omega)).trans HC80.out
                                have hc91 := (hbe9.block _ (by omega)).trans HC81.out
                                have HC90 := Lib.hid hc90
                                have HBE9 := Lib.hid (HBE8.out.trans (hbe9.mono (by have := HBE8.out.size; omega)))
                                obtain ⟨p0, p1, p2, p3⟩ := z31_cells hc91
                                obtain ⟨q0, q1, q2, q3⟩ := z31_cells hc90
                                have z0 := frozen_of_heap hc90 0
                                have z1 := frozen_of_heap hc90 1
                                have z2 := frozen_of_heap hc90 2
                                have z3 := frozen_of_heap hc90 3
                                clear hc90 hc91 hR9 hbe9 HLO
                                go_wp2_with fail
                                refine bodyPost_ret (v := .tuple #[.agg #[.slice none 0 0, .slice none 0 0, .slice none 0 0, .int .i64 0], .int .i64 (3 + 2 * (k : Int)), .int .i64 er]) ?_ rfl ?_
                                · exact results_cell_row3 (P := Tryd.prog) (fn := Tryd.f13) (p := 2) (t := 3) (u := 4) (ty := 31) rfl _ _ w.heap.size 31 #[.slice none 0 0, .slice none 0 0, .slice none 0 0, .int .i64 0] (0, 0) _ rfl (put4_blk HC90.out _ _ _ _) Tryd.underlying31 rfl (by kernel_rfl)
                                · unfold refQ
                                  rw [HSP.out]
                                  exact ⟨rfl, put4_below HBE9.out (Nat.le_refl _) _ _ _ _⟩
                              | ok tsx =>
                                have hlo := HLO0.out
                                rw [hs5] at hlo
                                unfold ans at hlo
                                dsimp only at hlo
                                have HLO := Lib.hid hlo
                                have hro : routeS ls (1 + 2 * k) = .ok (row, tsx) := by
                                  unfold routeS
                                  rw [HS2.out]
                                  dsimp only
                                  rw [if_neg HNE.out, HROW.out]
                                  dsimp only
                                  rw [show 1 + 2 * k + 1 = 2 + 2 * k by omega, HS4.out]
                                  dsimp only
                                  rw [if_neg HBAD.out, hs5]
                                have hrs1 : routesS ls (k + 1) = .ok (rs ++ [row], ts ++ [tsx]) := by rw [routesS, HRS.out]; dsimp only; rw [hro]
                                have HRS1 := Lib.hid hrs1
                                clear hs5 hlo HLO0 hro hrs1
                                go_wp2_with fail
                                refine HLO.out.mono ?_
                                rintro e w9 ⟨v9, rfl, hR9, hbe9⟩
                                have hz9 := hbe9.size
                                have HB9 := Lib.hid (HB8.out.trans (hbe9.mono (by have := HB8.out.size; omega)))
                                have hV8 := Kd.R_mono (Kd.R_bound HV8.out) (ok' := fun k => k < wc.heap.size) (fun k h => h.2.2.1)
                                have hV9 := Kd.R_below hV8 hbe9
                                obtain ⟨Av, cv, rfl⟩ := Kd.R_slice hV9
                                obtain ⟨At9, ct9, rfl⟩ := Kd.R_slice hR9
                                have hT9 := Kd.R_mono (Kd.R_bound hR9) (ok' := fun k => k < w9.heap.size) (fun k h => h.2.2.1)
                                have hP9 := HP8.out.below hbe9
                                obtain ⟨okR, okT, hkR, hkT, hdj, hRl, hTl⟩ := hP9.rows
                                have HBLK := Lib.hid hP9.blk
                                have HKR := Lib.hid hkR
                                have HKT := Lib.hid hkT
                                have HDJ := Lib.hid hdj
                                have HRL := Lib.hid hRl
                                have HTL := Lib.hid hTl
                                have HT9 := Lib.hid hT9
                                have hlt9 : w4.heap.size < w9.heap.size := hP9.lt
                                have hab : w6.heap.size ≤ wc.heap.size := by omega
                                have hPa : w4.heap.size < w6.heap.size := hPlt6
                                have hg1 := Lib.hid (grow_pre3 hkR hV9 hPa (fun k h1 h2 h3 => by have := hRl k h3; omega))
                                have hP0 := cell_of_heap hP9.blk 0 rfl
                                have hl24 : (rs.length + 1) * 24 ≤ 140737488355328 := by omega
                                have hl24t : (ts.length + 1) * 24 ≤ 140737488355328 := by omega
                                have hwj := Lib.hid (show wrap64 ((k : Int) + 1) = (k : Int) + 1 from wrap_id (by omega) (by omega))
                                clear hR9 hbe9 hV8 hV9 hT9 hkR hkT hdj hRl hTl hP9 HLO HP8 HV8 HB8
                                go_upto_region 39 with (first | ((with_reducible refine gate_builtin (b := .append) (xs := #[.tmp 157, .tmp 159]) rfl ?_); at_builtin; refine Kd.R_append kRow (w0 := w9) (w4.heap.size + 1) rfl (.tmp 157) (.tmp 159) 23 25 (.slice none 0 0) 24 rfl Tryd.underlying23 info25 rfl (by decide) (by decide) rv rs row [.slice Av row.length cv] _ _ rfl ?aE hg1.out.2.1 hg1.out.2.2.1 hg1.out.2.2.2 hg1.out.1 (Below.refl _ _) hlt9 hl24 ?_; (case aE => rfl); intro v1 w10 ho hb3 hg hat; obtain ⟨Az, cz, rfl⟩ := Kd.R_slice ho; have HGR := Lib.hid (grew1 HBLK.out HKR.out HKT.out HDJ.out HRL.out HT9.out hab hPa hlt9 hg ho); have hP3 := grow_blk3 HKR.out HBLK.out hlt9 hg; have hP3c := cell_of_heap hP3 0 rfl; have hP3z := frozen_of_heap hP3 0; have HB3 := Lib.hid hb3; clear ho hb3 hg hat hP3 hg1 hP0))
                                obtain ⟨w11, hw11⟩ : ∃ W, W = w10.setCell ⟨w4.heap.size, 0, none⟩ (.slice Az (k + 1) cz) := ⟨_, rfl⟩
                                rw [← hw11]
                                have hgr := HGR.out
                                rw [show (rs ++ [row]).length = k + 1 by simp [hl1], ← hw11] at hgr
                                obtain ⟨hblk1, hR11, hT11, hv11⟩ := hgr
                                have hb11 : Below w4.heap.size w9 w11 := by rw [hw11]; exact (HB3.out.mono (Nat.le_succ _)).setCell (p := ⟨w4.heap.size, 0, none⟩) (Nat.le_refl _) _
                                have hz11 := hb11.size
                                have hlt11 : w4.heap.size < w11.heap.size := by omega
                                have hg2 := Lib.hid (grow_pre3 hT11 hv11 (by omega) (fun k h1 h2 h3 => by have := HTL.out k h3; omega))
                                have hP1 := cell_of_heap hblk1 1 rfl
                                have HB11 := Lib.hid hb11
                                have HBLK1 := Lib.hid hblk1
                                have HR11 := Lib.hid hR11
                                have HT11 := Lib.hid hT11
                                clear hw11 hblk1 hR11 hT11 hv11 hb11 HGR hP3c hP3z
                                go_upto_region 21 with (first | ((with_reducible refine gate_builtin (b := .append) (xs := #[.tmp 163, .tmp 165]) rfl ?_); at_builtin; refine Kd.R_append kTim (w0 := w11) (w4.heap.size + 1) rfl (.tmp 163) (.tmp 165) 24 61 (.slice none 0 0) 24 rfl Tryd.underlying24 info61 rfl (by decide) (by decide) tv ts tsx [.slice At9 tsx.length ct9] _ _ rfl ?aE hg2.out.2.1 hg2.out.2.2.1 hg2.out.2.2.2 hg2.out.1 (Below.refl _ _) hlt11 hl24t ?_; (case aE => rfl); intro v2 w12 ho hb4 hg hat; obtain ⟨Ay, cy, rfl⟩ := Kd.R_slice ho; have hP4 := grow_blk3 HT11.out HBLK1.out hlt11 hg; have hP4c := cell_of_heap hP4 1 rfl; have hP4z := frozen_of_heap hP4 1; have HB4 := Lib.hid hb4; have HO := Lib.hid ho; have HG := Lib.hid hg; clear ho hb4 hg hat hP4 hg2 hP1))
                                have e1 : (ts ++ [tsx]).length = k + 1 := by simp [hlt1]
                                have hPT := grew2 HBLK1.out HR11.out HT11.out (b := wc.heap.size) (c := w9.heap.size) (fun k h => ⟨fun h2 => by
                                  have h3 := HTL.out k h2
                                  rcases h with h | h | h
                                  · exact HDJ.out k h h2
                                  · omega
                                  · omega, fun h2 => by
                                  rcases h with h | h | h
                                  · have := HRL.out k h; omega
                                  · omega
                                  · omega⟩) hlt11 HG.out HO.out
                                have hB13 : Below w4.heap.size w11 (w12.setCell ⟨w4.heap.size, 1, none⟩ (.slice Ay (k + 1) cy)) := (HB4.out.mono (Nat.le_succ _)).setCell (p := ⟨w4.heap.size, 1, none⟩) (Nat.le_refl _) _
                                rw [e1] at hPT
                                have HPTN := Lib.hid hPT
                                have HB13 := Lib.hid (HB9.out.trans (HB11.out.trans hB13))
                                clear hPT hB13
                                go_wp2_with fail
                                go_roundw
                                case rel => exact ⟨k + 1, rs ++ [row], ts ++ [tsx], _, _, by omega, rfl, HRS1.out, HPTN.out, HB13.out⟩
                                case measure => (simp [intOf]; omega)
                · obtain rfl : M = k := by omega
                  have hpre2 : ∀ r, (match nextS ls (1 + 2 * M) sLeft with
                      | .error er => (.error (2 + 2 * (M : Int), er) : Except (Int × Int) Pl)
                      | .ok l =>
                        match readAll wholeS l with
                        | .error er => .error (2 + 2 * (M : Int), er)
                        | .ok left => if 2 + 2 * M < ls.length then .error (3 + 2 * (M : Int), 22) else .ok ⟨rs, ts, left, cs⟩) = r → parseS s = r := by
                    rintro r rfl
                    rw [HPS.out]
                    unfold planS
                    rw [HS1.out]
                    dsimp only
                    rw [if_neg (by rw [← HEM.out]; decide), if_neg (by rw [HLB.out]; decide), if_neg (by rw [← HM.out]; omega), ← HM.out, Int.toNat_natCast, HRS.out, ← HCS.out]
                    rfl
                  have HPRE2 := Lib.hid hpre2
                  clear hpre2
                  have hn := nextR_c A cl ls (1 + 2 * M) sLeft 1048576 wr HCLR.out hle (by omega) HTH.out
                  rw [show ((1 + 2 * M : Nat) : Int) = 1 + 2 * (M : Int) by omega] at hn
                  cases hs6 : nextS ls (1 + 2 * M) sLeft with
                  | error er =>
                    have hner := nextS_err hs6
                    have HSP := Lib.hid (HPRE2.out (.error (2 + 2 * (M : Int), er)) (by rw [hs6]))
                    rw [hs6] at hn
                    unfold ans sLeft at hn
                    dsimp only at hn
                    have HN := Lib.hid hn
                    clear hs6 hn
                    have g2 : ((er : Int) != 0) = true := bne_iff_ne.2 hner
                    clear hner
                    go_wp2_with fail
                    refine HN.out.mono ?_
                    rintro e w6 ⟨v6, rfl, hR6, hbe6⟩
                    have hc60 := (hbe6.block _ (by omega)).trans HCR0.out
                    have hc61 := (hbe6.block _ (by omega)).trans HCR1.out
                    have HC60 := Lib.hid hc60
                    have HBE6 := Lib.hid (HBER.out.trans (hbe6.mono (by have := HBER.out.size; omega)))
                    obtain ⟨p0, p1, p2, p3⟩ := z31_cells hc61
                    obtain ⟨q0, q1, q2, q3⟩ := z31_cells hc60
                    have z0 := frozen_of_heap hc60 0
                    have z1 := frozen_of_heap hc60 1
                    have z2 := frozen_of_heap hc60 2
                    have z3 := frozen_of_heap hc60 3
                    clear hc60 hc61 hR6 hbe6 HN
                    go_wp2_with fail
                    refine bodyPost_ret (v := .tuple #[.agg #[.slice none 0 0, .slice none 0 0, .slice none 0 0, .int .i64 0], .int .i64 (2 + 2 * (M : Int)), .int .i64 er]) ?_ rfl ?_
                    · exact results_cell_row3 (P := Tryd.prog) (fn := Tryd.f13) (p := 2) (t := 3) (u := 4) (ty := 31) rfl _ _ w.heap.size 31 #[.slice none 0 0, .slice none 0 0, .slice none 0 0, .int .i64 0] (0, 0) _ rfl (put4_blk HC60.out _ _ _ _) Tryd.underlying31 rfl (by kernel_rfl)
                    · unfold refQ
                      rw [HSP.out]
                      exact ⟨rfl, put4_below HBE6.out (Nat.le_refl _) _ _ _ _⟩
                  | ok lw =>
                    obtain ⟨hwl2, hwt2⟩ := nextS_ok hs6 HTH.out
                    rw [hs6] at hn
                    unfold ans sLeft at hn
                    dsimp only at hn
                    have HN := Lib.hid hn
                    have HS6 := Lib.hid hs6
                    have HWT2 := Lib.hid hwt2
                    clear hs6 hn hwt2
                    go_wp2_with fail
                    refine HN.out.mono ?_
                    rintro e w6 ⟨v6, rfl, hR6, hbe6⟩
                    have hz6 := hbe6.size
                    have HC60 := Lib.hid ((hbe6.block _ (by omega)).trans HCR0.out)
                    have HC61 := Lib.hid ((hbe6.block _ (by omega)).trans HCR1.out)
                    have HBE6 := Lib.hid (HBER.out.trans (hbe6.mono (by have := HBER.out.size; omega)))
                    have HP6 := Lib.hid (HPR.out.below hbe6)
                    have hPlt6 := HP6.out.lt
                    obtain ⟨A6, k6, rfl, hle6, hC6⟩ := Kd.Q_reads hR6
                    have hw := wholesR_c A6 k6 lw 4294967281 w6 hC6 hle6 (by omega) (fun x hx => by have := HWT2.out x hx; omega) (by omega)
                    clear hR6 hbe6 hC6 HN HCR0 HCR1 HBER HCLR HPR HBR
                    cases hs7 : readAll wholeS lw with
                    | error er =>
                      have hner := readAll_err hs7
                      have HSP := Lib.hid (HPRE2.out (.error (2 + 2 * (M : Int), er)) (by rw [HS6.out]; dsimp only; rw [hs7]))
                      rw [hs7] at hw
                      unfold ans at hw
                      dsimp only at hw
                      have HWW := Lib.hid hw
                      clear hs7 hw
                      have g2 : ((er : Int) != 0) = true := bne_iff_ne.2 hner
                      clear hner
                      go_wp2_with fail
                      refine HWW.out.mono ?_
                      rintro e w7 ⟨v7, rfl, hR7, hbe7⟩
                      have hc70 := (hbe7.block _ (by omega)).trans HC60.out
                      have hc71 := (hbe7.block _ (by omega)).trans HC61.out
                      have HC70 := Lib.hid hc70
                      have HBE7 := Lib.hid (HBE6.out.trans (hbe7.mono (by have := HBE6.out.size; omega)))
                      obtain ⟨p0, p1, p2, p3⟩ := z31_cells hc71
                      obtain ⟨q0, q1, q2, q3⟩ := z31_cells hc70
                      have z0 := frozen_of_heap hc70 0
                      have z1 := frozen_of_heap hc70 1
                      have z2 := frozen_of_heap hc70 2
                      have z3 := frozen_of_heap hc70 3
                      clear hc70 hc71 hR7 hbe7 HWW
                      go_wp2_with fail
                      refine bodyPost_ret (v := .tuple #[.agg #[.slice none 0 0, .slice none 0 0, .slice none 0 0, .int .i64 0], .int .i64 (2 + 2 * (M : Int)), .int .i64 er]) ?_ rfl ?_
                      · exact results_cell_row3 (P := Tryd.prog) (fn := Tryd.f13) (p := 2) (t := 3) (u := 4) (ty := 31) rfl _ _ w.heap.size 31 #[.slice none 0 0, .slice none 0 0, .slice none 0 0, .int .i64 0] (0, 0) _ rfl (put4_blk HC70.out _ _ _ _) Tryd.underlying31 rfl (by kernel_rfl)
                      · unfold refQ
                        rw [HSP.out]
                        exact ⟨rfl, put4_below HBE7.out (Nat.le_refl _) _ _ _ _⟩
                    | ok lf =>
                      rw [hs7] at hw
                      unfold ans at hw
                      dsimp only at hw
                      have HWW := Lib.hid hw
                      have HLF := Lib.hid hs7
                      clear hs7 hw
                      go_wp2_with fail
                      refine HWW.out.mono ?_
                      rintro e w7 ⟨v7, rfl, hR7, hbe7⟩
                      have hz7 := hbe7.size
                      obtain ⟨Av, cv, rfl⟩ := Kd.R_slice hR7
                      have hP7 := HP6.out.below hbe7
                      have hP2 := cell_of_heap hP7.blk 2 rfl
                      have fP2 := frozen_of_heap hP7.blk 2
                      have hP8 := hP7.setLeft (.slice Av lf.length cv)
                      have hb78 : Below w4.heap.size w7 (w7.setCell ⟨w4.heap.size, 2, none⟩ (.slice Av lf.length cv)) := (Below.refl _ _).setCell (p := ⟨w4.heap.size, 2, none⟩) (Nat.le_refl _) _
                      have hR8 := Kd.R_far (p := ⟨w4.heap.size, 2, none⟩) (Kd.R_mono (Kd.R_bound hR7) (ok' := fun k => w6.heap.size ≤ k) (fun k h => h.2.1)) (fun k h => by show k ≠ w4.heap.size; omega) (.slice Av lf.length cv)
                      obtain ⟨w8, hw8⟩ : ∃ W, W = w7.setCell ⟨w4.heap.size, 2, none⟩ (.slice Av lf.length cv) := ⟨_, rfl⟩
                      rw [← hw8] at hP8 hb78 hR8
                      have HW8 := Lib.hid hw8
                      have HP8 := Lib.hid hP8
                      have HR8 := Lib.hid hR8
                      have HC80 := Lib.hid ((hb78.block _ (by omega)).trans ((hbe7.block _ (by omega)).trans HC60.out))
                      have HC81 := Lib.hid ((hb78.block _ (by omega)).trans ((hbe7.block _ (by omega)).trans HC61.out))
                      have HBE8 := Lib.hid (HBE6.out.trans ((hbe7.mono (by have := HBE6.out.size; omega)).trans (hb78.mono (by omega))))
                      clear hR7 hbe7 HWW HC60 HC61 HBE6 HP6 hP7 hP8 hb78 hR8 hw8
                      go_upto_region 47 with fail
                      rw [← HW8.out]
                      clear hP2 fP2
                      by_cases hmore : 2 + 2 * M < ls.length
                      · have gm : decide (2 + 2 * (M : Int) < (ls.length : Int)) = true := decide_eq_true (by omega)
                        have HSP := Lib.hid (HPRE2.out (.error (3 + 2 * (M : Int), 22)) (by rw [HS6.out]; dsimp only; rw [HLF.out]; dsimp only; rw [if_pos hmore]))
                        obtain ⟨p0, p1, p2, p3⟩ := z31_cells HC81.out
                        obtain ⟨q0, q1, q2, q3⟩ := z31_cells HC80.out
                        have z0 := frozen_of_heap HC80.out 0
                        have z1 := frozen_of_heap HC80.out 1
                        have z2 := frozen_of_heap HC80.out 2
                        have z3 := frozen_of_heap HC80.out 3
                        clear hmore
                        go_wp2_with fail
                        refine bodyPost_ret (v := .tuple #[.agg #[.slice none 0 0, .slice none 0 0, .slice none 0 0, .int .i64 0], .int .i64 (3 + 2 * (M : Int)), .int .i64 22]) ?_ rfl ?_
                        · exact results_cell_row3 (P := Tryd.prog) (fn := Tryd.f13) (p := 2) (t := 3) (u := 4) (ty := 31) rfl _ _ w.heap.size 31 #[.slice none 0 0, .slice none 0 0, .slice none 0 0, .int .i64 0] (0, 0) _ rfl (put4_blk HC80.out _ _ _ _) Tryd.underlying31 rfl (by kernel_rfl)
                        · unfold refQ
                          rw [HSP.out]
                          exact ⟨rfl, put4_below HBE8.out (Nat.le_refl _) _ _ _ _⟩
                      · have gm : decide (2 + 2 * (M : Int) < (ls.length : Int)) = false := decide_eq_false (by omega)
                        have HSP := Lib.hid (HPRE2.out (.ok ⟨rs, ts, lf, cs⟩) (by rw [HS6.out]; dsimp only; rw [HLF.out]; dsimp only; rw [if_neg hmore]))
                        clear hmore
                        obtain ⟨okR, okT, h1, h2, h3⟩ := HP8.out.rows
                        obtain ⟨Ar, cr, rfl⟩ := Kd.R_slice h1
                        obtain ⟨At, ct, rfl⟩ := Kd.R_slice h2
                        have H1 := Lib.hid (Kd.R_bound h1)
                        have H2 := Lib.hid (Kd.R_bound h2)
                        have p0 := cell_of_heap HP8.out.blk 0 rfl
                        have p1 := cell_of_heap HP8.out.blk 1 rfl
                        have p2 := cell_of_heap HP8.out.blk 2 rfl
                        have p3 := cell_of_heap HP8.out.blk 3 rfl
                        obtain ⟨q0, q1, q2, q3⟩ := z31_cells HC80.out
                        have z0 := frozen_of_heap HC80.out 0
                        have z1 := frozen_of_heap HC80.out 1
                        have z2 := frozen_of_heap HC80.out 2
                        have z3 := frozen_of_heap HC80.out 3
                        rw [hl1] at p0
                        rw [hlt1] at p1
                        have hw4 : w.heap.size < w4.heap.size := by have := HBE4.out.size; omega
                        clear h1 h2 h3
                        go_wp2_with fail
                        refine bodyPost_ret (v := .tuple #[.agg #[.slice Ar M cr, .slice At M ct, .slice Av lf.length cv, .int .i64 cs], .int .i64 0, .int .i64 0]) ?_ rfl ?_
                        · exact results_cell_row3 (P := Tryd.prog) (fn := Tryd.f13) (p := 2) (t := 3) (u := 4) (ty := 31) rfl _ _ w.heap.size 31 #[.slice Ar M cr, .slice At M ct, .slice Av lf.length cv, .int .i64 cs] (0, 0) _ rfl (put4_blk HC80.out _ _ _ _) Tryd.underlying31 rfl (by kernel_rfl)
                        · unfold refQ
                          rw [HSP.out]
                          refine ⟨Ar, cr, At, ct, Av, cv, ?_, ⟨?_, ?_, ?_⟩, put4_below HBE8.out (Nat.le_refl _) _ _ _ _⟩
                          · show _ = Ending.returned (.tuple #[.agg #[.slice Ar rs.length cr, .slice At ts.length ct, .slice Av lf.length cv, .int .i64 cs], .int .i64 0, .int .i64 0])
                            rw [hl1, hlt1]
                          · exact R_from (R_put4 H1.out (fun k h => by have := h.2.1; omega) _ _ _ _) (by omega)
                          · exact R_from (R_put4 H2.out (fun k h => by have := h.2.1; omega) _ _ _ _) (by omega)
                          · exact R_from (R_put4 HR8.out (fun k h => by omega) _ _ _ _) (by omega)
          · rw [readAll_one_bad hlb] at hlo
            unfold ans at hlo
            dsimp only at hlo
            rw [← hec] at hlo hlb
            have HLO := Lib.hid hlo
            have HEC := Lib.hid hec
            clear hq hCb hlo hcs hec hle2
            go_wp2_with fail
            refine HLO.out.mono ?_
            rintro e w4 ⟨v4, rfl, hR4, hbe4⟩
            have hz4 := hbe4.size
            have HC40 := Lib.hid ((hbe4.block _ (by omega)).trans HC30.out)
            have HC41 := Lib.hid ((hbe4.block _ (by omega)).trans HC31.out)
            have HBE4 := Lib.hid (HBE3.out.trans (hbe4.mono (by have := HBE3.out.size; omega)))
            have g1 : (ec != 0) = true := bne_iff_ne.2 hlb
            have g2 : (ec == 0) = false := beq_eq_false_iff_ne.2 hlb
            have hspec : parseS s = .error (1, ec) := by
              rw [HPS.out]
              unfold planS
              rw [HS1.out]
              dsimp only
              rw [if_neg (by rw [← HEM.out]; decide), if_pos (by rw [← HEC.out]; exact hlb), HEC.out]
            have HSP := Lib.hid hspec
            obtain ⟨p0, p1, p2, p3⟩ := z31_cells HC41.out
            obtain ⟨q0, q1, q2, q3⟩ := z31_cells HC40.out
            have z0 := frozen_of_heap HC40.out 0
            have z1 := frozen_of_heap HC40.out 1
            have z2 := frozen_of_heap HC40.out 2
            have z3 := frozen_of_heap HC40.out 3
            clear hspec hlb hR4 hbe4 HLO
            go_wp2_with fail
            refine bodyPost_ret (v := .tuple #[.agg #[.slice none 0 0, .slice none 0 0, .slice none 0 0, .int .i64 0], .int .i64 1, .int .i64 ec]) ?_ rfl ?_
            · exact results_cell_row3 (P := Tryd.prog) (fn := Tryd.f13) (p := 2) (t := 3) (u := 4) (ty := 31) rfl _ _ w.heap.size 31 #[.slice none 0 0, .slice none 0 0, .slice none 0 0, .int .i64 0] (0, 0) _ rfl (put4_blk HC40.out _ _ _ _) Tryd.underlying31 rfl (by kernel_rfl)
            · unfold refQ
              rw [HSP.out]
              exact ⟨rfl, put4_below HBE4.out (Nat.le_refl _) _ _ _ _⟩
        · have g1 : (em != 0) = true := bne_iff_ne.2 hma
          have hspec : parseS s = .error (1, em) := by
            rw [HPS.out]
            unfold planS
            rw [HS1.out]
            dsimp only
            rw [if_pos (by rw [← HEM.out]; exact hma), HEM.out]
          have HSP := Lib.hid hspec
          obtain ⟨p0, p1, p2, p3⟩ := z31_cells HC31.out
          obtain ⟨q0, q1, q2, q3⟩ := z31_cells HC30.out
          have z0 := frozen_of_heap HC30.out 0
          have z1 := frozen_of_heap HC30.out 1
          have z2 := frozen_of_heap HC30.out 2
          have z3 := frozen_of_heap HC30.out 3
          clear hspec hma
          go_wp2_with fail
          refine bodyPost_ret (v := .tuple #[.agg #[.slice none 0 0, .slice none 0 0, .slice none 0 0, .int .i64 0], .int .i64 1, .int .i64 em]) ?_ rfl ?_
          · exact results_cell_row3 (P := Tryd.prog) (fn := Tryd.f13) (p := 2) (t := 3) (u := 4) (ty := 31) rfl _ _ w.heap.size 31 #[.slice none 0 0, .slice none 0 0, .slice none 0 0, .int .i64 0] (0, 0) _ rfl (put4_blk HC30.out _ _ _ _) Tryd.underlying31 rfl (by kernel_rfl)
          · unfold refQ
            rw [HSP.out]
            exact ⟨rfl, put4_below HBE3.out (Nat.le_refl _) _ _ _ _⟩
      · have g1 : ((ws.length : Int) != 2) = true := bne_iff_ne.2 (by omega)
        have hspec : parseS s = .error (1, 21) := by
          rw [HPS.out]
          unfold planS
          rw [HS1.out]
          dsimp only
          split
          · exact absurd rfl hl2
          · rfl
        have HSP := Lib.hid hspec
        obtain ⟨p0, p1, p2, p3⟩ := z31_cells HC21.out
        obtain ⟨q0, q1, q2, q3⟩ := z31_cells HC20.out
        have z0 := frozen_of_heap HC20.out 0
        have z1 := frozen_of_heap HC20.out 1
        have z2 := frozen_of_heap HC20.out 2
        have z3 := frozen_of_heap HC20.out 3
        clear hspec hl2
        go_wp2_with fail
        refine bodyPost_ret (v := .tuple #[.agg #[.slice none 0 0, .slice none 0 0, .slice none 0 0, .int .i64 0], .int .i64 1, .int .i64 21]) ?_ rfl ?_
        · exact results_cell_row3 (P := Tryd.prog) (fn := Tryd.f13) (p := 2) (t := 3) (u := 4) (ty := 31) rfl _ _ w.heap.size 31 #[.slice none 0 0, .slice none 0 0, .slice none 0 0, .int .i64 0] (0, 0) _ rfl (put4_blk HC20.out _ _ _ _) Tryd.underlying31 rfl (by kernel_rfl)
        · unfold refQ
          rw [HSP.out]
          exact ⟨rfl, put4_below HBE2.out (Nat.le_refl _) _ _ _ _⟩
  · have g1 : (el != 0) = true := bne_iff_ne.2 he
    have hspec : parseS s = .error (0, el) := by unfold parseS; rw [← HEL.out, if_pos he]
    have HSP := Lib.hid hspec
    obtain ⟨p0, p1, p2, p3⟩ := z31_cells hc1
    obtain ⟨q0, q1, q2, q3⟩ := z31_cells hc0
    have z0 := frozen_of_heap hc0 0
    have z1 := frozen_of_heap hc0 1
    have z2 := frozen_of_heap hc0 2
    have z3 := frozen_of_heap hc0 3
    clear hspec hc0 hc1 he
    go_wp2_with fail
    refine bodyPost_ret (v := .tuple #[.agg #[.slice none 0 0, .slice none 0 0, .slice none 0 0, .int .i64 0], .int .i64 0, .int .i64 el]) ?_ rfl ?_
    · exact results_cell_row3 (P := Tryd.prog) (fn := Tryd.f13) (p := 2) (t := 3) (u := 4) (ty := 31) rfl _ _ w.heap.size 31 #[.slice none 0 0, .slice none 0 0, .slice none 0 0, .int .i64 0] (0, 0) _ rfl (put4_blk HC0.out _ _ _ _) Tryd.underlying31 rfl (by kernel_rfl)
    · unfold refQ
      rw [HSP.out]
      exact ⟨rfl, put4_below HBE1.out (Nat.le_refl _) _ _ _ _⟩
end Go.Proofs.YtdgifgdadminbaaDoor
