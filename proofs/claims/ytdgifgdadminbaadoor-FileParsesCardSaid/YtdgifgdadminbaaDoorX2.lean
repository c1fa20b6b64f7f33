/- Several texts of this session in one (Xr, Xs). Written by this session, by tools of this session and by the kit's print. -/
import Derived.Test.YtdgifgdadminbaaDoorXl
import Derived.Test.YtdgifgdadminbaaDoorP1
/-! ### Xr -/
set_option linter.unusedSimpArgs false
set_option linter.unusedVariables false
set_option maxRecDepth 100000
namespace Go.Proofs.YtdgifgdadminbaaDoor
open Go.RowKit Go.Proofs.YtdgifgdadminbaaDoorW.PrintWords Sp
open PFileParses (wrap_id ba_len toList_data info3 info2 info9 rd_L1 rd_L2 at_L1 at_L2)

theorem rd_L1_at (xs : List (List Int)) (i : Nat) (h : i < xs.length) : rd_L1 xs (i : Int) = xs[i]'h := by
  unfold rd_L1
  rw [Int.toNat_natCast, List.getD_eq_getElem?_getD, List.getElem?_eq_getElem h]
  rfl
theorem rd_L2_at (xs : List (List Int)) (i : Nat) (h : i < xs.length) : rd_L2 xs (i : Int) = xs[i]'h := by
  unfold rd_L2
  rw [Int.toNat_natCast, List.getD_eq_getElem?_getD, List.getElem?_eq_getElem h]
  rfl
theorem pairs_at (p : Pl) (k : Nat) (h : k < (pairs p).length) (h1 : k < p.routes.length) (h2 : k < p.times.length) : (pairs p)[k]'h = (p.routes[k]'h1, p.times[k]'h2) := List.getElem_zip
theorem paired_l (p : Pl) (hlen : p.times.length = p.routes.length) (hs : p.routes.length < 9223372036854775807) : ∀ (d i k : Nat), p.routes.length - i = d → d < k → i ≤ p.routes.length →
    PFileParses.file_paired.l0 k p.routes (p.routes.length : Int) (i : Int) p.routes p.times p.left p.cost = some (!((pairs p).drop i).any pairB)
  | 0, i, k, hd, hk, hi => by
    obtain ⟨k, rfl⟩ : ∃ q, k = q + 1 := ⟨k - 1, by omega⟩
    have hpl : (pairs p).length = p.routes.length := by unfold pairs; rw [List.length_zip]; omega
    rw [PFileParses.file_paired.l0, if_neg (by omega), List.drop_eq_nil_of_le (by omega)]
    rfl
  | d + 1, i, k, hd, hk, hi => by
    obtain ⟨k, rfl⟩ : ∃ q, k = q + 1 := ⟨k - 1, by omega⟩
    have hpl : (pairs p).length = p.routes.length := by unfold pairs; rw [List.length_zip]; omega
    have hil : i < p.routes.length := by omega
    have hx : (pairs p)[i]'(by omega) = (p.routes[i]'hil, p.times[i]'(by omega)) := pairs_at p i _ _ _
    rw [PFileParses.file_paired.l0, if_pos (by omega), if_pos (by omega), if_pos (by omega), rd_L1_at p.routes i hil, rd_L2_at p.times i (by omega), List.drop_eq_getElem_cons (by omega), List.any_cons, hx]
    unfold pairB
    dsimp only
    have ih := paired_l p hlen hs d (i + 1) k (by omega) (by omega) (by omega)
    have hw : wrap64 ((i : Int) + 1) = ((i + 1 : Nat) : Int) := by rw [wrap_id (by omega) (by omega)]; omega
    by_cases h1 : (p.routes[i]'hil).length = 0
    · rw [if_pos (by omega), decide_eq_true h1]
      rfl
    · rw [if_neg (by omega), if_pos (by omega), decide_eq_false h1, Bool.false_or, hw, ih]
      by_cases h2 : (p.times[i]'(by omega)).length = (p.routes[i]'hil).length
      · rw [if_pos (by omega), decide_eq_false (by omega), Bool.false_and, Bool.false_or]
        rfl
      · rw [if_neg (by omega), decide_eq_true h2, Bool.true_and]
        by_cases h3 : 0 < (p.times[i]'(by omega)).length
        · rw [if_pos (by omega), decide_eq_true h3]
          rfl
        · rw [if_neg (by omega), decide_eq_false h3, Bool.false_or]
          rfl
theorem paired_f (p : Pl) (hs : p.routes.length < 9223372036854775807) : ∃ k, PFileParses.file_paired.f k p.routes p.times p.left p.cost = some (pairedB p) := by
  refine ⟨p.routes.length + 1, ?_⟩
  unfold PFileParses.file_paired.f pairedB
  by_cases h : p.times.length = p.routes.length
  · rw [if_pos (by omega), decide_eq_true h, Bool.true_and]
    exact paired_l p h hs p.routes.length 0 _ rfl (by omega) (by omega)
  · rw [if_neg (by omega), decide_eq_false h, Bool.false_and]
theorem paired_c (rv tv lv : Value) (p : Pl) (w : World) (hp : PlanAt rv tv lv p w) (hs : p.routes.length < 9223372036854775807) :
    Calls Tryd.prog 43 #[.agg #[rv, tv, lv, .int .i64 p.cost]] w fun e w' => e = .returned (.bool (pairedB p)) ∧ Below w.heap.size w w' := by
  obtain ⟨⟨A1, c1, rfl, l1, h1⟩, ⟨A2, c2, rfl, l2, h2⟩, ⟨A3, c3, rfl, l3, h3⟩⟩ := hp
  obtain ⟨k, hk⟩ := paired_f p hs
  exact PFileParses.file_paired.calls k A1 c1 p.routes A2 c2 p.times A3 c3 p.left p.cost _ w h1 l1 h2 l2 h3 l3 hk

/-! ### the text as it grows -/
def txt (p : Pl) (k : Nat) : List UInt8 := joinL (lineW bPlan [(p.routes.length : Int), p.cost] :: two (fun x => lineW bRoute x.1) (fun x => lineW bTimes x.2) ((pairs p).take k))
theorem txt_zero (p : Pl) : txt p 0 = lineW bPlan [(p.routes.length : Int), p.cost] ++ [10] := by
  unfold txt
  rw [List.take_zero, joinL_cons]
  rfl
theorem txt_succ (p : Pl) (k : Nat) (h : k < (pairs p).length) : txt p (k + 1) = (txt p k ++ (lineW bRoute ((pairs p)[k]'h).1 ++ [10])) ++ (lineW bTimes ((pairs p)[k]'h).2 ++ [10]) := by
  unfold txt
  rw [List.take_succ_eq_append_getElem h]
  unfold two
  rw [List.flatMap_append, ← List.cons_append, joinL_append]
  simp [joinL]
theorem txt_all (p : Pl) : txt p (pairs p).length ++ (lineW bLeft p.left ++ [10]) = textP p := by
  unfold txt textP linesP
  rw [List.take_length, ← List.cons_append, joinL_append]
  congr 1
  simp [joinL]
theorem ok_I64 {n : Int} (h : Ok n) : I64 n := by
  unfold Ok at h
  unfold I64
  omega
theorem txt_len (p : Pl) (hg : Good p) : ∀ k, k ≤ (pairs p).length → (txt p k).length ≤ 100 + 200000 * k
  | 0, _ => by
    rw [txt_zero, List.length_append]
    have := lineW_len (a := bPlan) (ns := [(p.routes.length : Int), p.cost]) (by
      intro n hn
      rcases List.mem_cons.1 hn with rfl | hn
      · exact ok_I64 hg.cars_ok
      · rw [List.mem_singleton.1 hn]; exact ok_I64 hg.c)
    simp only [List.length_cons, List.length_nil, bPlan] at this ⊢
    omega
  | k + 1, h => by
    have ih := txt_len p hg k (by omega)
    have hm := List.getElem_mem (l := pairs p) (n := k) (by omega)
    obtain ⟨m1, m2⟩ := Good.mem_pairs hm
    have r1 := lineW_len (a := bRoute) (fun n hn => ok_I64 (hg.r _ m1 n hn))
    have r2 := lineW_len (a := bTimes) (fun n hn => ok_I64 (hg.t _ m2 n hn))
    have l1 := hg.rows _ m1
    have l2 := (hg.pair _ hm).2
    have l3 : ((pairs p)[k]'(by omega)).2.length ≤ 4096 := by
      rcases l2 with e | e
      · omega
      · rw [e]; simp
    rw [txt_succ p k (by omega)]
    simp only [List.length_append, List.length_cons, List.length_nil]
    have b1 : bRoute.length = 5 := rfl
    have b2 : bTimes.length = 5 := rfl
    omega
end Go.Proofs.YtdgifgdadminbaaDoor

/-! ### Xs -/
set_option linter.unusedSimpArgs false
set_option linter.unusedVariables false
set_option maxRecDepth 100000
namespace Go.Proofs.YtdgifgdadminbaaDoor
open Go.RowKit Go.Proofs.YtdgifgdadminbaaDoorW.PrintWords Sp
open PFileParses (wrap_id ba_len toList_data info3 info2 info9 rd_L1 rd_L2 at_L1 at_L2)

theorem PlanAt.below {rv tv lv : Value} {p : Pl} {w w' : World} (h : PlanAt rv tv lv p w) (hb : Below w.heap.size w w') : PlanAt rv tv lv p w' := by
  obtain ⟨⟨A1, c1, e1, l1, h1⟩, ⟨A2, c2, e2, l2, h2⟩, ⟨A3, c3, e3, l3, h3⟩⟩ := h
  exact ⟨⟨A1, c1, e1, l1, Kd.C_below h1 hb⟩, ⟨A2, c2, e2, l2, Kd.C_below h2 hb⟩, ⟨A3, c3, e3, l3, Kd.C_below h3 hb⟩⟩
theorem C_two {w : World} {g : Nat} {a b : Int} {t : TypeId} {fr : Nat × Nat} (h : w.heap[g]? = some (.cells #[.int .i64 a, .int .i64 b] t fr)) : (Kd.int .i64).C w (some ⟨g, 0, none⟩) 2 [a, b] := by
  refine ⟨rfl, by omega, fun _ => ⟨_, rfl, fun j p hj => ⟨[.int .i64 p], rfl, rfl, fun i u hu => ?_⟩⟩⟩
  have hi : i = 0 := by
    have := (List.getElem?_eq_some_iff.1 hu).1
    simp at this
    exact this
  subst hi
  have hs : (Kd.int .i64).sz = 1 := rfl
  rw [hs]
  match j, hj with
  | 0, hj => cases hj; cases hu; exact cell_of_heap h 0 rfl
  | 1, hj => cases hj; cases hu; simpa [Addr.add] using cell_of_heap h 1 rfl
theorem C_wrote {B : Nat} {w0 w1 w' : World} {α : Type} {d : Kd α} {A : Option Addr} {n : Nat} {xs : List α} (h : d.C w0 A n xs) (hB : w0.heap.size = B) (h1 : Below B w0 w1) (h2 : Wrote B w1 w') : d.C w' A n xs := by
  subst hB
  exact Kd.C_below h (h1.trans h2.below)
def printQ (p : Pl) (w : World) (e : Ending) (w' : World) : Prop := e = .returned (.tuple #[.string (mk (printS p).1), .int .i64 (printS p).2]) ∧ Below w.heap.size w w'

set_option maxHeartbeats 8000000 in
theorem print_c (rv tv lv : Value) (p : Pl) (w : World) (hp : PlanAt rv tv lv p w) (hE : Env w) :
    Calls Tryd.prog 17 #[.agg #[rv, tv, lv, .int .i64 p.cost]] w fun e w' => printQ p w e w' := by
  obtain ⟨⟨A1, c1, rfl, l1, h1⟩, ⟨A2, c2, rfl, l2, h2⟩, ⟨A3, c3, rfl, l3, h3⟩⟩ := hp
  obtain ⟨W, hW⟩ : ∃ W, W = w.alloc (.cells #[.slice A1 p.routes.length c1, .slice A2 p.times.length c2, .slice A3 p.left.length c3, .int .i64 p.cost] 27) := ⟨_, rfl⟩
  have hB : Below w.heap.size w W := by rw [hW]; exact (Below.refl w.heap.size w).alloc (Nat.le_refl _) _
  have hn : W.heap[w.heap.size]? = some (.cells #[.slice A1 p.routes.length c1, .slice A2 p.times.length c2, .slice A3 p.left.length c3, .int .i64 p.cost] 27 (0, 0)) := by rw [hW]; exact heap_alloc_new w _
  have hsz : w.heap.size < W.heap.size := by rw [hW]; simp
  have hP : PlanAt (.slice A1 p.routes.length c1) (.slice A2 p.times.length c2) (.slice A3 p.left.length c3) p W := ⟨⟨A1, c1, rfl, l1, Kd.C_below h1 hB⟩, ⟨A2, c2, rfl, l2, Kd.C_below h2 hB⟩, ⟨A3, c3, rfl, l3, Kd.C_below h3 hB⟩⟩
  have HP := Lib.hid hP
  have HN := Lib.hid hn
  have HB := Lib.hid hB
  have HW := Lib.hid hW
  have HE := Lib.hid (hE.below hB hE.size)
  have h3s := hE.size
  have hcell : ∀ w', Below W.heap.size W w' → w'.cell? ⟨w.heap.size, 0, none⟩ = some (.slice A1 p.routes.length c1) ∧ w'.cell? ⟨w.heap.size, 1, none⟩ = some (.slice A2 p.times.length c2) ∧ w'.cell? ⟨w.heap.size, 2, none⟩ = some (.slice A3 p.left.length c3) ∧ w'.cell? ⟨w.heap.size, 3, none⟩ = some (.int .i64 p.cost) := by
    intro w' hb
    have h := (hb.block _ hsz).trans hn
    exact ⟨cell_of_heap h 0 rfl, cell_of_heap h 1 rfl, cell_of_heap h 2 rfl, cell_of_heap h 3 rfl⟩
  obtain ⟨c0, c1', c2', c3'⟩ := hcell W (Below.refl _ _)
  have HC := Lib.hid hcell
  have hM := many_c _ _ _ p W hP
  obtain ⟨bM, hbM⟩ : ∃ b, manyB p = b := ⟨_, rfl⟩
  rw [hbM] at hM
  have HM := Lib.hid hM
  have HBM := Lib.hid hbM
  clear hP hn hB hW hE hcell hM hbM h1 h2 h3
  go_enter Tryd.func17, Tryd.ntmps17
  go_upto_region 1 with fail
  rw [← HW.out]
  go_wp2_with fail
  refine HM.out.mono ?_
  rintro e w2 ⟨rfl, hb2⟩
  have HB2 := Lib.hid hb2
  clear hb2 c0 c1' c2' c3'
  cases bM
  · obtain ⟨c0, c1', c2', c3'⟩ := HC.out w2 HB2.out
    have hlr : p.routes.length < 9223372036854775807 := by
      have := HBM.out
      unfold manyB at this
      simp only [Bool.or_eq_false_iff, decide_eq_false_iff_not] at this
      omega
    have hM := paired_c _ _ _ p w2 (HP.out.below HB2.out) hlr
    obtain ⟨bP, hbP⟩ : ∃ b, pairedB p = b := ⟨_, rfl⟩
    rw [hbP] at hM
    have HPC := Lib.hid hM
    have HBP := Lib.hid hbP
    clear hM hbP
    go_wp2_with fail
    refine HPC.out.mono ?_
    rintro e w3 ⟨rfl, hb3⟩
    have hb23 := HB2.out.trans (hb3.mono HB2.out.size)
    have HB3 := Lib.hid hb23
    clear hb3 hb23 c0 c1' c2' c3'
    cases bP
    · go_wp2_with fail
      go_ret2
      refine ⟨?_, HB.out.trans (HB3.out.mono (by omega))⟩
      have : printS p = ([], 1) := by unfold printS; rw [HBM.out, HBP.out]; rfl
      rw [this]
      rfl
    · obtain ⟨c0, c1', c2', c3'⟩ := HC.out w3 HB3.out
      have hM := ranged_c _ _ _ p w3 (HP.out.below HB3.out)
      obtain ⟨bR, hbR⟩ : ∃ b, rangedB p = b := ⟨_, rfl⟩
      rw [hbR] at hM
      have HRC := Lib.hid hM
      have HBR := Lib.hid hbR
      clear hM hbR
      go_wp2_with fail
      refine HRC.out.mono ?_
      rintro e w4 ⟨rfl, hb4⟩
      have hb24 := HB3.out.trans (hb4.mono HB3.out.size)
      have HB4 := Lib.hid hb24
      clear hb4 hb24 c0 c1' c2' c3'
      cases bR
      · go_wp2_with fail
        go_ret2
        refine ⟨?_, HB.out.trans (HB4.out.mono (by omega))⟩
        have : printS p = ([], 23) := by unfold printS; rw [HBM.out, HBP.out, HBR.out]; rfl
        rw [this]
        rfl
      · have hg : Good p := (good_iff p).2 ⟨HBM.out, HBP.out, HBR.out⟩
        obtain ⟨c0, c1', c2', c3'⟩ := HC.out w4 HB4.out
        have HG := Lib.hid hg
        have hcars := hg.cars
        have hz4 := HB4.out.size
        have hlt4 : w.heap.size < w4.heap.size := by omega
        clear hg hlr
        go_upto_region 8 with fail
        obtain ⟨W5, hW5⟩ : ∃ W5, W5 = w4.alloc (.cells #[.pointer none, .slice none 0 0] 91) := ⟨_, rfl⟩
        rw [← hW5]
        have hb45 : Below w4.heap.size w4 W5 := by rw [hW5]; exact (Below.refl _ _).alloc (Nat.le_refl _) _
        have hbd5 : Bld w4.heap.size w4.heap.size [] W5 := by
          rw [hW5]
          exact .inl ⟨Nat.le_refl _, _, heap_alloc_new w4 _, World.ownsRow_nil _ _ _ _, by simp [Value.ownBlock]⟩
        have hz5 : W5.heap.size = w4.heap.size + 1 := by rw [hW5]; simp
        have HB5 := Lib.hid (HB4.out.trans (hb45.mono hz4))
        have HB45 := Lib.hid hb45
        have HBD5 := Lib.hid hbd5
        clear hbd5 hb45 hW5 c0 c1' c2' c3'
        obtain ⟨c0, c1', c2', c3'⟩ := HC.out W5 HB5.out
        have hz5' : w4.heap.size + 1 ≤ W5.heap.size := by omega
        have HZ5 := Lib.hid hz5
        clear hz5
        have hg := HG.out
        have hC5 : ∀ w', Wrote w4.heap.size (W5.alloc (.cells #[.int .i64 (p.routes.length : Int), .int .i64 p.cost] 2)) w' → (Kd.int .i64).C w' (some ⟨W5.heap.size, 0, none⟩) [(p.routes.length : Int), p.cost].length [(p.routes.length : Int), p.cost] := fun w' hw => C_two (hw.kept _ _ _ _ (heap_alloc_new W5 _) (by decide) (by decide))
        have hL := line_45 w4.heap.size w4.heap.size [] ⟨#[112, 108, 97, 110]⟩ (some ⟨W5.heap.size, 0, none⟩) 2 [(p.routes.length : Int), p.cost] _ (HBD5.out.below ((Below.refl W5.heap.size W5).alloc (Nat.le_refl _) (.cells #[.int .i64 (p.routes.length : Int), .int .i64 p.cost] 2))) ((HE.out.below HB5.out (by omega)).below ((Below.refl W5.heap.size W5).alloc (Nat.le_refl _) _) (by omega)) (by omega) (by simp; omega) hC5 (by
          intro n hn
          rcases List.mem_cons.1 hn with rfl | hn
          · exact ok_I64 hg.cars_ok
          · rw [List.mem_singleton.1 hn]; exact ok_I64 hg.c) (by
            have : (ByteArray.mk #[112, 108, 97, 110]).size = 4 := rfl
            simp only [List.length_nil, List.length_cons, this]
            omega)
        rw [show ([] : List UInt8) ++ (lineW (ByteArray.mk #[112, 108, 97, 110]).data.toList [(p.routes.length : Int), p.cost] ++ [10]) = txt p 0 from (txt_zero p).symm] at hL
        have HL := Lib.hid hL
        have HB56 : Below W5.heap.size W5 (W5.alloc (.cells #[.int .i64 (p.routes.length : Int), .int .i64 p.cost] 2)) := (Below.refl _ _).alloc (Nat.le_refl _) _
        have HB56' := Lib.hid HB56
        clear hg hC5 hL HB56
        go_wp2_with fail
        refine HL.out.mono ?_
        rintro e w6 ⟨rfl, hbl, hwr⟩
        have HBL := Lib.hid hbl
        have hb46 : Below w4.heap.size w4 w6 := (HB45.out.trans (HB56'.out.mono (by omega))).trans hwr.below
        have HB46 := Lib.hid hb46
        have hcc := HC.out w6 (HB4.out.trans (hb46.mono hz4))
        obtain ⟨d0, d1, d2, d3⟩ := hcc
        have hz6 := hb46.size
        clear hbl hwr hb46 c0 c1' c2' c3' HL
        go_wp2_with fail
        have hHP := HP.out.below HB4.out
        have HP4 := Lib.hid hHP
        have HWr0 := Lib.hid (Wrote.refl w4.heap.size w6)
        clear hHP d0 d1 d2 d3
        go_loopw [5, 6, 28] (fun _ _ i wr => ∃ k : Nat, k ≤ p.routes.length ∧ i = .int .i64 k ∧ Bld w4.heap.size w4.heap.size (txt p k) wr ∧ Wrote w4.heap.size w6 wr) (fun _ _ i _ => p.routes.length - (intOf i).toNat)
        case atStart => exact ⟨0, Nat.zero_le _, rfl, HBL.out, HWr0.out⟩
        case round =>
          obtain ⟨k, hk, rfl, hbl, hwr⟩ := hrel
          have HBK := Lib.hid hbl
          have HWK := Lib.hid hwr
          have hb4r : Below w4.heap.size w4 wr := HB46.out.trans hwr.below
          have HB4R := Lib.hid hb4r
          have hzr := hb4r.size
          clear hbl hwr hb4r
          have hg := HG.out
          have hpl := hg.pairs_len
          by_cases hlt : k < p.routes.length
          · have hkp : k < (pairs p).length := by omega
            obtain ⟨⟨A1', c1q, e1, _, hC1⟩, ⟨A2', c2q, e2, _, hC2⟩, _⟩ := HP4.out
            cases e1
            cases e2
            obtain ⟨ad1, B1, k1, rfl, hc1, hl1, hR1⟩ := at_L1 hC1 (k : Int) (by omega) (by omega)
            have hlen := hg.len
            obtain ⟨ad2, B2, k2, rfl, hc2, hl2, hR2⟩ := at_L2 hC2 (k : Int) (by omega) (by omega)
            have htk : k < p.times.length := by omega
            rw [Int.toNat_natCast] at hc1 hc2
            rw [rd_L1_at p.routes k hlt] at hc1 hl1 hR1
            rw [rd_L2_at p.times k htk] at hc2 hl2 hR2
            have hx : (pairs p)[k]'hkp = (p.routes[k]'hlt, p.times[k]'htk) := pairs_at p k _ _ _
            have hm := List.getElem_mem hkp
            rw [hx] at hm
            obtain ⟨m1, m2⟩ := Good.mem_pairs hm
            have q1 := hg.rows _ m1
            have q2 := (hg.pair _ hm).2
            have o1 := hg.r _ m1
            have o2 := hg.t _ m2
            have hts := txt_succ p k hkp
            rw [hx] at hts
            dsimp only at m1 m2 q1 q2 o1 o2 hts
            obtain ⟨row, hrow⟩ : ∃ r, r = p.routes[k]'hlt := ⟨_, rfl⟩
            obtain ⟨tim, htim⟩ : ∃ r, r = p.times[k]'htk := ⟨_, rfl⟩
            rw [← hrow] at hc1 hl1 hR1 q1 q2 o1 hts
            rw [← htim] at hc2 hl2 hR2 q2 o2 hts
            have hq2 : tim.length ≤ 4096 := by
              rcases q2 with e | e
              · omega
              · rw [e]; simp
            have hTL := txt_len p hg k (by omega)
            have hr1 := cell_below hc1 HB4R.out
            have hEr := (HE.out.below HB4.out (by omega)).below HB4R.out (by omega)
            have hL1 := line_46 w4.heap.size w4.heap.size (txt p k) ⟨#[114, 111, 117, 116, 101]⟩ B1 k1 row wr HBK.out hEr (by omega) hzr (fun w' hw => C_wrote hR1 rfl HB4R.out hw) (fun n hn => ok_I64 (o1 n hn)) (by
              have : (ByteArray.mk #[114, 111, 117, 116, 101]).size = 5 := rfl
              omega)
            have hL2 := fun w' (hw : Wrote w4.heap.size wr w') (hb : Bld w4.heap.size w4.heap.size (txt p k ++ (lineW bRoute row ++ [10])) w') =>
              line_45 w4.heap.size w4.heap.size (txt p k ++ (lineW bRoute row ++ [10])) ⟨#[116, 105, 109, 101, 115]⟩ B2 k2 tim w' hb (hEr.below hw.below (by omega)) (by omega) (by have := hw.below.size; omega) (fun w'' hw2 => C_wrote hR2 rfl (HB4R.out.trans hw.below) hw2) (fun n hn => ok_I64 (o2 n hn)) (by
              have h5 : (ByteArray.mk #[116, 105, 109, 101, 115]).size = 5 := rfl
              have h6 := lineW_len (a := bRoute) (fun n hn => ok_I64 (o1 n hn))
              have h7 : bRoute.length = 5 := rfl
              simp only [List.length_append, List.length_cons, List.length_nil]
              omega)
            have HL1 := Lib.hid hL1
            have HL2 := Lib.hid hL2
            have HTS := Lib.hid hts
            have HC2c := Lib.hid hc2
            clear hC1 hC2 hc1 hc2 hR1 hR2 hx hm m1 m2 q1 q2 o1 o2 hts hrow htim hL1 hL2 hEr hg hpl hlen hTL hkp
            go_wp2_with fail
            refine HL1.out.mono ?_
            rintro e w7 ⟨rfl, hbl, hwr⟩
            have HB7 := Lib.hid hbl
            have HW7 := Lib.hid hwr
            have hb47 := HB4R.out.trans hwr.below
            have hz7 := hb47.size
            obtain ⟨_, d1, _, _⟩ := HC.out w7 (HB4.out.trans (hb47.mono hz4))
            have hr2 := cell_below HC2c.out hb47
            clear hbl hwr hb47 hr1
            go_wp2_with fail
            refine (HL2.out w7 HW7.out HB7.out).mono ?_
            rintro e w8 ⟨rfl, hbl, hwr⟩
            have HB8 := Lib.hid hbl
            have HW8 := Lib.hid hwr
            clear hbl hwr d1 hr2
            go_wp2_with fail
            go_roundw
            case rel =>
              refine ⟨k + 1, by omega, by go_num, ?_, (HWK.out.trans HW7.out).trans HW8.out⟩
              rw [HTS.out]
              exact HB8.out
            case measure => simp [intOf]; omega
          · have hkn : k = p.routes.length := by omega
            subst hkn
            obtain ⟨_, _, ⟨A3', c3q, e3, _, hC3⟩⟩ := HP4.out
            cases e3
            have hlf := hg.lefts
            have hol := hg.l
            have hTL := txt_len p hg p.routes.length (by omega)
            have hall := txt_all p
            rw [hpl] at hall
            have hpt := printS_good hg
            have hEr := (HE.out.below HB4.out (by omega)).below HB4R.out (by omega)
            have hL1 := line_46 w4.heap.size w4.heap.size (txt p p.routes.length) ⟨#[108, 101, 102, 116]⟩ A3 c3 p.left wr HBK.out hEr (by omega) hzr (fun w' hw => C_wrote hC3 rfl HB4R.out hw) (fun n hn => ok_I64 (hol n hn)) (by
              have : (ByteArray.mk #[108, 101, 102, 116]).size = 4 := rfl
              omega)
            rw [show (ByteArray.mk #[108, 101, 102, 116]).data.toList = bLeft from rfl, hall] at hL1
            have HL1 := Lib.hid hL1
            have HPT := Lib.hid hpt
            obtain ⟨_, _, d2, _⟩ := HC.out wr (HB4.out.trans (HB4R.out.mono hz4))
            clear hC3 hlf hol hTL hall hpt hEr hL1 hg hpl
            go_wp2_with fail
            refine HL1.out.mono ?_
            rintro e w7 ⟨rfl, hbl, hwr⟩
            have HB7 := Lib.hid hbl
            have hb47 := HB4R.out.trans hwr.below
            have HB47 := Lib.hid hb47
            have hz7 := hb47.size
            clear hbl hwr hb47 d2
            go_wp2_with fail
            refine (Tryd.Builder_String_any w4.heap.size w4.heap.size (textP p) w7 HB7.out hz7).mono ?_
            rintro e w8 ⟨rfl, hb8⟩
            have HB8 := Lib.hid hb8
            clear hb8
            go_wp2_with fail
            go_ret2
            rw [printQ, HPT.out]
            exact ⟨rfl, HB.out.trans ((HB4.out.mono (by omega)).trans ((HB47.out.mono (by omega)).trans (HB8.out.mono (by omega))))⟩
  · go_wp2_with fail
    go_ret2
    refine ⟨?_, HB.out.trans (HB2.out.mono (by omega))⟩
    have : printS p = ([], 3) := by unfold printS; rw [HBM.out]; rfl
    rw [this]
    rfl
end Go.Proofs.YtdgifgdadminbaaDoor
