/- Layer verb: check. Written by v6.py of this session. -/
import Derived.Test.YtdgifgdadminbaaDoorV5
import Derived.Test.YtdgifgdadminbaaDoorXl
import Derived.Test.YtdgifgdadminbaaDoorXj
set_option linter.unusedSimpArgs false
set_option linter.unusedVariables false
set_option maxRecDepth 100000
namespace Go.Proofs.YtdgifgdadminbaaDoor
open Go.RowKit Go.Proofs.YtdgifgdadminbaaDoorW.PrintWords Sp
open PFileParses (wrap_id ba_len bt_nat toList_data info3 info2 info9)

theorem out_86 (n : Int) (w : World) : Calls Tryd.prog 86 #[.int .i64 n] w fun e w' => e = .returned (.bool (outB n)) ∧ Below w.heap.size w w' :=
  (PVerbPrints.verb_out.calls n (outB n) w (vout_f n)).mono fun e w' ⟨he, hd⟩ => ⟨he, drawn_below (Below.refl _ _) hd⟩
theorem enters_86 : Enters 86 := enters_of Tryd.func86 (by kernel_rfl) rfl
theorem anyOut_V (A : Option Addr) (c : Nat) (xs : List Int) (w : World) (hC : (Kd.int .i64).C w A xs.length xs) :
    Calls Tryd.prog 78 #[.slice A xs.length c, .func (.func 86) #[] #[]] w fun e w' => e = .returned (.bool (xs.any outB)) ∧ Below w.heap.size w w' := by
  have h := containsFunc_78 86 A c (xs.map (Value.int .i64)) (fun j => outB (xs.getD j 0)) w (elems_int hC) enters_86 (pred_int out_86 xs w)
  rw [List.length_map, range_any xs outB 0] at h
  exact h
theorem itoa_c (n : Int) (w : World) (h : I64 n) (hE : Env w) :
    Calls Tryd.prog 48 #[.int .i64 n] w fun e w' => e = .returned (.string (mk (Lib.itoa n))) ∧ Below w.heap.size w w' := by
  refine (Tryd.strconv_Itoa n h.1 h.2 w hE.tab).mono ?_
  rintro e w' ⟨rfl, k, os, rfl⟩
  exact ⟨rfl, Lib.below_grow _ _ (Nat.le_refl _) _ _⟩

/-- A command's cells, in block b. -/
theorem cmd_cells {w w' : World} {b : Nat} {v0 v1 v2 v3 v4 v5 : Value} (h : w.heap[b]? = some (.cells #[v0, v1, v2, v3, v4, v5] 55 (0, 0))) (hb : Below w.heap.size w w') :
    w'.cell? ⟨b, 0, none⟩ = some v0 ∧ w'.cell? ⟨b, 1, none⟩ = some v1 ∧ w'.cell? ⟨b, 2, none⟩ = some v2 ∧ w'.cell? ⟨b, 3, none⟩ = some v3 ∧ w'.cell? ⟨b, 4, none⟩ = some v4 ∧ w'.cell? ⟨b, 5, none⟩ = some v5 := by
  have hlt : b < w.heap.size := by
    rcases Nat.lt_or_ge b w.heap.size with g | g
    · exact g
    · rw [Array.getElem?_eq_none g] at h; cases h
  have h := (hb.block b hlt).trans h
  exact ⟨cell_of_heap h 0 rfl, cell_of_heap h 1 rfl, cell_of_heap h 2 rfl, cell_of_heap h 3 rfl, cell_of_heap h 4 rfl, cell_of_heap h 5 rfl⟩

set_option maxHeartbeats 8000000 in
theorem check_1 (c : Cmd) (hk : c.f0 = 1) (A : Option Addr) (cap : Nat) (w : World) (hE : EnvV w) (hC : (Kd.int .i64).C w A c.f4.length c.f4) (ht : c.f5.size < 4294967281) :
    Calls Tryd.prog 54 #[.agg #[.int .i64 1, .int .i64 c.f1, .int .i64 c.f2, .int .i64 c.f3, .slice A c.f4.length cap, .string c.f5]] w fun e w' => e = .returned (.int .i64 (checkS c)) ∧ Below w.heap.size w w' := by
  have h3 := hE.size
  obtain ⟨W, hW⟩ : ∃ W, W = w.alloc (.cells #[.int .i64 1, .int .i64 c.f1, .int .i64 c.f2, .int .i64 c.f3, .slice A c.f4.length cap, .string c.f5] 55) := ⟨_, rfl⟩
  have hbW : Below w.heap.size w W := by rw [hW]; exact (Below.refl _ _).alloc (Nat.le_refl _) _
  have hn : W.heap[w.heap.size]? = some (.cells #[.int .i64 1, .int .i64 c.f1, .int .i64 c.f2, .int .i64 c.f3, .slice A c.f4.length cap, .string c.f5] 55 (0, 0)) := by rw [hW]; exact heap_alloc_new w _
  have hzW : w.heap.size < W.heap.size := by rw [hW]; simp
  have hEW := hE.below hbW h3
  have hcs : checkS c = (if outB c.f1 = true then 23 else if (linesS c.f5).2 ≠ 0 ∨ ((linesS c.f5).1.length : Int) ≠ c.f1 then 21 else 0) := by
    unfold checkS
    rw [hk, if_neg (show ¬ nameL 1 = [] by decide)]
    unfold ck2 ck3 ck4
    rw [hk, if_neg (show ¬ ((1 : Int) = 5 ∧ (outB c.f2 = true ∨ c.f4.any outB = true)) by omega), if_neg (show ¬ ((1 : Int) = 4 ∧ (c.f3 < -1099511627776 ∨ 1099511627776 < c.f3)) by omega), if_neg (show ¬ ((1 : Int) = 5 ∧ 4096 < c.f4.length) by omega)]
    by_cases ho : outB c.f1 = true
    · rw [if_pos ho, if_pos ⟨.inl (by decide), ho⟩]
    · rw [if_neg ho, if_neg (fun h => ho h.2)]
      by_cases h2 : (linesS c.f5).2 ≠ 0 ∨ ((linesS c.f5).1.length : Int) ≠ c.f1
      · rw [if_pos h2, if_pos ⟨rfl, h2⟩]
      · rw [if_neg h2, if_neg (fun h => h2 h.2)]
  obtain ⟨r, hr⟩ : ∃ r, r = checkS c := ⟨_, rfl⟩
  rw [← hr] at hcs ⊢
  have hli := lines_walk c.f5 W hEW.env ht
  obtain ⟨el, hel⟩ : ∃ el, el = (linesS c.f5).2 := ⟨_, rfl⟩
  obtain ⟨nl, hnl⟩ : ∃ nl, nl = (linesS c.f5).1 := ⟨_, rfl⟩
  rw [← hel, ← hnl] at hli
  rw [← hel, ← hnl] at hcs
  have HCS := Lib.hid hcs
  have HLI := Lib.hid hli
  have HN := Lib.hid hn
  have HEW := Lib.hid hEW
  have HBW := Lib.hid hbW
  have HW := Lib.hid hW
  have HC := Lib.hid (Kd.C_below hC hbW)
  obtain ⟨a0, a1, a2, a3, a4, a5⟩ := cmd_cells hn (Below.refl _ _)
  clear hcs hli hn hEW hbW hW hC hr hel hnl hk hE
  go_enter Tryd.func54, Tryd.ntmps54
  go_upto_region 1 with fail
  rw [← HW.out]
  go_wp2_with fail
  refine HLI.out.mono ?_
  rintro e w1 ⟨v1, rfl, hR1, hb1⟩
  obtain ⟨Al, cl, rfl⟩ := Kd.R_slice hR1
  have HB1 := Lib.hid hb1
  have hz1 := hb1.size
  clear a0 a1 a2 a3 a4 a5 hR1 hb1 HLI
  obtain ⟨a0, a1, a2, a3, a4, a5⟩ := cmd_cells HN.out HB1.out
  have hnm := name_c 1 w1 (HEW.out.below HB1.out (by omega))
  rw [show mk (nameL 1) = ⟨#[108, 111, 97, 100]⟩ from rfl] at hnm
  have HNM := Lib.hid hnm
  clear hnm
  go_wp2_with fail
  refine HNM.out.mono ?_
  rintro e w2 ⟨rfl, rfl⟩
  obtain ⟨bo, hbo⟩ : ∃ bo, bo = outB c.f1 := ⟨_, rfl⟩
  have HO := Lib.hid (out_86 c.f1 w2)
  rw [← hbo] at HO
  have HCS2 := HCS.out
  rw [← hbo] at HCS2
  have HCS := Lib.hid HCS2
  clear hbo HCS2
  go_wp2_with fail
  refine HO.out.mono ?_
  rintro e w3 ⟨rfl, hb3⟩
  have HB3 := Lib.hid (HB1.out.trans (hb3.mono hz1))
  have hz3 := HB3.out.size
  clear hb3 HO a0 a1 a2 a3 a4 a5
  obtain ⟨a0, a1, a2, a3, a4, a5⟩ := cmd_cells HN.out HB3.out
  cases bo with
  | true =>
    go_wp2_with fail
    go_ret
    rw [HCS.out]
    exact ⟨rfl, HBW.out.trans (HB3.out.mono (by omega))⟩
  | false =>
    have HCS3 := HCS.out
    rw [if_neg (by decide)] at HCS3
    have HCS := Lib.hid HCS3
    clear HCS3
    by_cases h2 : el = 0
    · have g1 : (el != 0) = false := by rw [h2]; rfl
      by_cases h4 : (nl.length : Int) = c.f1
      · have g2 : ((nl.length : Int) != c.f1) = false := by rw [h4]; simp
        have HCS4 := HCS.out
        rw [if_neg (fun h => h.elim (fun g => g h2) (fun g => g h4))] at HCS4
        have HCS := Lib.hid HCS4
        clear HCS4 h4 h2
        go_wp2_with fail
        go_ret
        rw [HCS.out]
        exact ⟨rfl, HBW.out.trans (HB3.out.mono (by omega))⟩
      · have g2 : ((nl.length : Int) != c.f1) = true := bne_iff_ne.2 h4
        have HCS4 := HCS.out
        rw [if_pos (.inr h4)] at HCS4
        have HCS := Lib.hid HCS4
        clear HCS4 h4 h2
        go_wp2_with fail
        go_ret
        rw [HCS.out]
        exact ⟨rfl, HBW.out.trans (HB3.out.mono (by omega))⟩
    · have g1 : (el != 0) = true := bne_iff_ne.2 h2
      have HCS4 := HCS.out
      rw [if_pos (.inl h2)] at HCS4
      have HCS := Lib.hid HCS4
      clear HCS4 h2
      go_wp2_with fail
      go_ret
      rw [HCS.out]
      exact ⟨rfl, HBW.out.trans (HB3.out.mono (by omega))⟩

set_option maxHeartbeats 8000000 in
theorem check_2 (c : Cmd) (hk : c.f0 = 2) (A : Option Addr) (cap : Nat) (w : World) (hE : EnvV w) (hC : (Kd.int .i64).C w A c.f4.length c.f4) (ht : c.f5.size < 4294967281) :
    Calls Tryd.prog 54 #[.agg #[.int .i64 2, .int .i64 c.f1, .int .i64 c.f2, .int .i64 c.f3, .slice A c.f4.length cap, .string c.f5]] w fun e w' => e = .returned (.int .i64 (checkS c)) ∧ Below w.heap.size w w' := by
  have h3 := hE.size
  obtain ⟨W, hW⟩ : ∃ W, W = w.alloc (.cells #[.int .i64 2, .int .i64 c.f1, .int .i64 c.f2, .int .i64 c.f3, .slice A c.f4.length cap, .string c.f5] 55) := ⟨_, rfl⟩
  have hbW : Below w.heap.size w W := by rw [hW]; exact (Below.refl _ _).alloc (Nat.le_refl _) _
  have hn : W.heap[w.heap.size]? = some (.cells #[.int .i64 2, .int .i64 c.f1, .int .i64 c.f2, .int .i64 c.f3, .slice A c.f4.length cap, .string c.f5] 55 (0, 0)) := by rw [hW]; exact heap_alloc_new w _
  have hzW : w.heap.size < W.heap.size := by rw [hW]; simp
  have hEW := hE.below hbW h3
  have hcs : checkS c = (if outB c.f1 = true then 23 else 0) := by
    unfold checkS
    rw [hk, if_neg (show ¬ nameL 2 = [] by decide)]
    unfold ck2 ck3 ck4
    rw [hk, if_neg (show ¬ ((2 : Int) = 5 ∧ (outB c.f2 = true ∨ c.f4.any outB = true)) by omega), if_neg (show ¬ ((2 : Int) = 4 ∧ (c.f3 < -1099511627776 ∨ 1099511627776 < c.f3)) by omega), if_neg (show ¬ ((2 : Int) = 5 ∧ 4096 < c.f4.length) by omega), if_neg (show ¬ ((2 : Int) = 1 ∧ _) from fun h => by have := h.1; omega)]
    by_cases ho : outB c.f1 = true
    · rw [if_pos ho, if_pos ⟨.inl (by decide), ho⟩]
    · rw [if_neg ho, if_neg (fun h => ho h.2)]
  obtain ⟨r, hr⟩ : ∃ r, r = checkS c := ⟨_, rfl⟩
  rw [← hr] at hcs ⊢
  have hli := lines_walk c.f5 W hEW.env ht
  obtain ⟨el, hel⟩ : ∃ el, el = (linesS c.f5).2 := ⟨_, rfl⟩
  obtain ⟨nl, hnl⟩ : ∃ nl, nl = (linesS c.f5).1 := ⟨_, rfl⟩
  rw [← hel, ← hnl] at hli
  skip
  have HCS := Lib.hid hcs
  have HLI := Lib.hid hli
  have HN := Lib.hid hn
  have HEW := Lib.hid hEW
  have HBW := Lib.hid hbW
  have HW := Lib.hid hW
  have HC := Lib.hid (Kd.C_below hC hbW)
  obtain ⟨a0, a1, a2, a3, a4, a5⟩ := cmd_cells hn (Below.refl _ _)
  clear hcs hli hn hEW hbW hW hC hr hel hnl hk hE
  go_enter Tryd.func54, Tryd.ntmps54
  go_upto_region 1 with fail
  rw [← HW.out]
  go_wp2_with fail
  refine HLI.out.mono ?_
  rintro e w1 ⟨v1, rfl, hR1, hb1⟩
  obtain ⟨Al, cl, rfl⟩ := Kd.R_slice hR1
  have HB1 := Lib.hid hb1
  have hz1 := hb1.size
  clear a0 a1 a2 a3 a4 a5 hR1 hb1 HLI
  obtain ⟨a0, a1, a2, a3, a4, a5⟩ := cmd_cells HN.out HB1.out
  have hnm := name_c 2 w1 (HEW.out.below HB1.out (by omega))
  rw [show mk (nameL 2) = ⟨#[97, 100, 100]⟩ from rfl] at hnm
  have HNM := Lib.hid hnm
  clear hnm
  go_wp2_with fail
  refine HNM.out.mono ?_
  rintro e w2 ⟨rfl, rfl⟩
  obtain ⟨bo, hbo⟩ : ∃ bo, bo = outB c.f1 := ⟨_, rfl⟩
  have HO := Lib.hid (out_86 c.f1 w2)
  rw [← hbo] at HO
  have HCS2 := HCS.out
  rw [← hbo] at HCS2
  have HCS := Lib.hid HCS2
  clear hbo HCS2
  go_wp2_with fail
  refine HO.out.mono ?_
  rintro e w3 ⟨rfl, hb3⟩
  have HB3 := Lib.hid (HB1.out.trans (hb3.mono hz1))
  have hz3 := HB3.out.size
  clear hb3 HO a0 a1 a2 a3 a4 a5
  obtain ⟨a0, a1, a2, a3, a4, a5⟩ := cmd_cells HN.out HB3.out
  cases bo with
  | true =>
    go_wp2_with fail
    go_ret
    rw [HCS.out]
    exact ⟨rfl, HBW.out.trans (HB3.out.mono (by omega))⟩
  | false =>
    go_wp2_with fail
    go_ret
    rw [HCS.out, if_neg (by decide)]
    exact ⟨rfl, HBW.out.trans (HB3.out.mono (by omega))⟩

set_option maxHeartbeats 8000000 in
theorem check_3 (c : Cmd) (hk : c.f0 = 3) (A : Option Addr) (cap : Nat) (w : World) (hE : EnvV w) (hC : (Kd.int .i64).C w A c.f4.length c.f4) (ht : c.f5.size < 4294967281) :
    Calls Tryd.prog 54 #[.agg #[.int .i64 3, .int .i64 c.f1, .int .i64 c.f2, .int .i64 c.f3, .slice A c.f4.length cap, .string c.f5]] w fun e w' => e = .returned (.int .i64 (checkS c)) ∧ Below w.heap.size w w' := by
  have h3 := hE.size
  obtain ⟨W, hW⟩ : ∃ W, W = w.alloc (.cells #[.int .i64 3, .int .i64 c.f1, .int .i64 c.f2, .int .i64 c.f3, .slice A c.f4.length cap, .string c.f5] 55) := ⟨_, rfl⟩
  have hbW : Below w.heap.size w W := by rw [hW]; exact (Below.refl _ _).alloc (Nat.le_refl _) _
  have hn : W.heap[w.heap.size]? = some (.cells #[.int .i64 3, .int .i64 c.f1, .int .i64 c.f2, .int .i64 c.f3, .slice A c.f4.length cap, .string c.f5] 55 (0, 0)) := by rw [hW]; exact heap_alloc_new w _
  have hzW : w.heap.size < W.heap.size := by rw [hW]; simp
  have hEW := hE.below hbW h3
  have hcs : checkS c = (if outB c.f1 = true then 23 else 0) := by
    unfold checkS
    rw [hk, if_neg (show ¬ nameL 3 = [] by decide)]
    unfold ck2 ck3 ck4
    rw [hk, if_neg (show ¬ ((3 : Int) = 5 ∧ (outB c.f2 = true ∨ c.f4.any outB = true)) by omega), if_neg (show ¬ ((3 : Int) = 4 ∧ (c.f3 < -1099511627776 ∨ 1099511627776 < c.f3)) by omega), if_neg (show ¬ ((3 : Int) = 5 ∧ 4096 < c.f4.length) by omega), if_neg (show ¬ ((3 : Int) = 1 ∧ _) from fun h => by have := h.1; omega)]
    by_cases ho : outB c.f1 = true
    · rw [if_pos ho, if_pos ⟨.inl (by decide), ho⟩]
    · rw [if_neg ho, if_neg (fun h => ho h.2)]
  obtain ⟨r, hr⟩ : ∃ r, r = checkS c := ⟨_, rfl⟩
  rw [← hr] at hcs ⊢
  have hli := lines_walk c.f5 W hEW.env ht
  obtain ⟨el, hel⟩ : ∃ el, el = (linesS c.f5).2 := ⟨_, rfl⟩
  obtain ⟨nl, hnl⟩ : ∃ nl, nl = (linesS c.f5).1 := ⟨_, rfl⟩
  rw [← hel, ← hnl] at hli
  skip
  have HCS := Lib.hid hcs
  have HLI := Lib.hid hli
  have HN := Lib.hid hn
  have HEW := Lib.hid hEW
  have HBW := Lib.hid hbW
  have HW := Lib.hid hW
  have HC := Lib.hid (Kd.C_below hC hbW)
  obtain ⟨a0, a1, a2, a3, a4, a5⟩ := cmd_cells hn (Below.refl _ _)
  clear hcs hli hn hEW hbW hW hC hr hel hnl hk hE
  go_enter Tryd.func54, Tryd.ntmps54
  go_upto_region 1 with fail
  rw [← HW.out]
  go_wp2_with fail
  refine HLI.out.mono ?_
  rintro e w1 ⟨v1, rfl, hR1, hb1⟩
  obtain ⟨Al, cl, rfl⟩ := Kd.R_slice hR1
  have HB1 := Lib.hid hb1
  have hz1 := hb1.size
  clear a0 a1 a2 a3 a4 a5 hR1 hb1 HLI
  obtain ⟨a0, a1, a2, a3, a4, a5⟩ := cmd_cells HN.out HB1.out
  have hnm := name_c 3 w1 (HEW.out.below HB1.out (by omega))
  rw [show mk (nameL 3) = ⟨#[99, 97, 110, 99, 101, 108]⟩ from rfl] at hnm
  have HNM := Lib.hid hnm
  clear hnm
  go_wp2_with fail
  refine HNM.out.mono ?_
  rintro e w2 ⟨rfl, rfl⟩
  obtain ⟨bo, hbo⟩ : ∃ bo, bo = outB c.f1 := ⟨_, rfl⟩
  have HO := Lib.hid (out_86 c.f1 w2)
  rw [← hbo] at HO
  have HCS2 := HCS.out
  rw [← hbo] at HCS2
  have HCS := Lib.hid HCS2
  clear hbo HCS2
  go_wp2_with fail
  refine HO.out.mono ?_
  rintro e w3 ⟨rfl, hb3⟩
  have HB3 := Lib.hid (HB1.out.trans (hb3.mono hz1))
  have hz3 := HB3.out.size
  clear hb3 HO a0 a1 a2 a3 a4 a5
  obtain ⟨a0, a1, a2, a3, a4, a5⟩ := cmd_cells HN.out HB3.out
  cases bo with
  | true =>
    go_wp2_with fail
    go_ret
    rw [HCS.out]
    exact ⟨rfl, HBW.out.trans (HB3.out.mono (by omega))⟩
  | false =>
    go_wp2_with fail
    go_ret
    rw [HCS.out, if_neg (by decide)]
    exact ⟨rfl, HBW.out.trans (HB3.out.mono (by omega))⟩

set_option maxHeartbeats 8000000 in
theorem check_4 (c : Cmd) (hk : c.f0 = 4) (A : Option Addr) (cap : Nat) (w : World) (hE : EnvV w) (hC : (Kd.int .i64).C w A c.f4.length c.f4) (ht : c.f5.size < 4294967281) :
    Calls Tryd.prog 54 #[.agg #[.int .i64 4, .int .i64 c.f1, .int .i64 c.f2, .int .i64 c.f3, .slice A c.f4.length cap, .string c.f5]] w fun e w' => e = .returned (.int .i64 (checkS c)) ∧ Below w.heap.size w w' := by
  have h3 := hE.size
  obtain ⟨W, hW⟩ : ∃ W, W = w.alloc (.cells #[.int .i64 4, .int .i64 c.f1, .int .i64 c.f2, .int .i64 c.f3, .slice A c.f4.length cap, .string c.f5] 55) := ⟨_, rfl⟩
  have hbW : Below w.heap.size w W := by rw [hW]; exact (Below.refl _ _).alloc (Nat.le_refl _) _
  have hn : W.heap[w.heap.size]? = some (.cells #[.int .i64 4, .int .i64 c.f1, .int .i64 c.f2, .int .i64 c.f3, .slice A c.f4.length cap, .string c.f5] 55 (0, 0)) := by rw [hW]; exact heap_alloc_new w _
  have hzW : w.heap.size < W.heap.size := by rw [hW]; simp
  have hEW := hE.below hbW h3
  have hcs : checkS c = (if c.f3 < -1099511627776 ∨ 1099511627776 < c.f3 then 23 else 0) := by
    unfold checkS
    rw [hk, if_neg (show ¬ nameL 4 = [] by decide)]
    unfold ck2 ck3 ck4
    rw [hk, if_neg (show ¬ (((4 : Int) ≤ 3 ∨ (4 : Int) = 5) ∧ outB c.f1 = true) by omega), if_neg (show ¬ ((4 : Int) = 5 ∧ (outB c.f2 = true ∨ c.f4.any outB = true)) by omega), if_neg (show ¬ ((4 : Int) = 5 ∧ 4096 < c.f4.length) by omega), if_neg (show ¬ ((4 : Int) = 1 ∧ _) from fun h => by have := h.1; omega)]
    by_cases ho : c.f3 < -1099511627776 ∨ 1099511627776 < c.f3
    · rw [if_pos ho, if_pos ⟨rfl, ho⟩]
    · rw [if_neg ho, if_neg (fun h => ho h.2)]
  obtain ⟨r, hr⟩ : ∃ r, r = checkS c := ⟨_, rfl⟩
  rw [← hr] at hcs ⊢
  have hli := lines_walk c.f5 W hEW.env ht
  obtain ⟨el, hel⟩ : ∃ el, el = (linesS c.f5).2 := ⟨_, rfl⟩
  obtain ⟨nl, hnl⟩ : ∃ nl, nl = (linesS c.f5).1 := ⟨_, rfl⟩
  rw [← hel, ← hnl] at hli
  skip
  have HCS := Lib.hid hcs
  have HLI := Lib.hid hli
  have HN := Lib.hid hn
  have HEW := Lib.hid hEW
  have HBW := Lib.hid hbW
  have HW := Lib.hid hW
  have HC := Lib.hid (Kd.C_below hC hbW)
  obtain ⟨a0, a1, a2, a3, a4, a5⟩ := cmd_cells hn (Below.refl _ _)
  clear hcs hli hn hEW hbW hW hC hr hel hnl hk hE
  go_enter Tryd.func54, Tryd.ntmps54
  go_upto_region 1 with fail
  rw [← HW.out]
  go_wp2_with fail
  refine HLI.out.mono ?_
  rintro e w1 ⟨v1, rfl, hR1, hb1⟩
  obtain ⟨Al, cl, rfl⟩ := Kd.R_slice hR1
  have HB1 := Lib.hid hb1
  have hz1 := hb1.size
  clear a0 a1 a2 a3 a4 a5 hR1 hb1 HLI
  obtain ⟨a0, a1, a2, a3, a4, a5⟩ := cmd_cells HN.out HB1.out
  have hnm := name_c 4 w1 (HEW.out.below HB1.out (by omega))
  rw [show mk (nameL 4) = ⟨#[116, 105, 99, 107]⟩ from rfl] at hnm
  have HNM := Lib.hid hnm
  clear hnm
  go_wp2_with fail
  refine HNM.out.mono ?_
  rintro e w2 ⟨rfl, rfl⟩
  by_cases h1 : c.f3 < -1099511627776
  · have g1 : decide (c.f3 < -1099511627776) = true := decide_eq_true h1
    have HCS4 := HCS.out
    rw [if_pos (.inl h1)] at HCS4
    have HCS := Lib.hid HCS4
    clear HCS4 h1
    go_wp2_with fail
    go_ret
    rw [HCS.out]
    exact ⟨rfl, HBW.out.trans (HB1.out.mono (by omega))⟩
  · have g1 : decide (c.f3 < -1099511627776) = false := decide_eq_false h1
    by_cases h2 : 1099511627776 < c.f3
    · have g2 : decide (1099511627776 < c.f3) = true := decide_eq_true h2
      have HCS4 := HCS.out
      rw [if_pos (.inr h2)] at HCS4
      have HCS := Lib.hid HCS4
      clear HCS4 h1 h2
      go_wp2_with fail
      go_ret
      rw [HCS.out]
      exact ⟨rfl, HBW.out.trans (HB1.out.mono (by omega))⟩
    · have g2 : decide (1099511627776 < c.f3) = false := decide_eq_false h2
      have HCS4 := HCS.out
      rw [if_neg (fun h => h.elim h1 h2)] at HCS4
      have HCS := Lib.hid HCS4
      clear HCS4 h1 h2
      go_wp2_with fail
      go_ret
      rw [HCS.out]
      exact ⟨rfl, HBW.out.trans (HB1.out.mono (by omega))⟩

set_option maxHeartbeats 8000000 in
theorem check_5 (c : Cmd) (hk : c.f0 = 5) (A : Option Addr) (cap : Nat) (w : World) (hE : EnvV w) (hC : (Kd.int .i64).C w A c.f4.length c.f4) (ht : c.f5.size < 4294967281) :
    Calls Tryd.prog 54 #[.agg #[.int .i64 5, .int .i64 c.f1, .int .i64 c.f2, .int .i64 c.f3, .slice A c.f4.length cap, .string c.f5]] w fun e w' => e = .returned (.int .i64 (checkS c)) ∧ Below w.heap.size w w' := by
  have h3 := hE.size
  obtain ⟨W, hW⟩ : ∃ W, W = w.alloc (.cells #[.int .i64 5, .int .i64 c.f1, .int .i64 c.f2, .int .i64 c.f3, .slice A c.f4.length cap, .string c.f5] 55) := ⟨_, rfl⟩
  have hbW : Below w.heap.size w W := by rw [hW]; exact (Below.refl _ _).alloc (Nat.le_refl _) _
  have hn : W.heap[w.heap.size]? = some (.cells #[.int .i64 5, .int .i64 c.f1, .int .i64 c.f2, .int .i64 c.f3, .slice A c.f4.length cap, .string c.f5] 55 (0, 0)) := by rw [hW]; exact heap_alloc_new w _
  have hzW : w.heap.size < W.heap.size := by rw [hW]; simp
  have hEW := hE.below hbW h3
  have hcs : checkS c = (if outB c.f1 = true then 23 else if outB c.f2 = true then 23 else if c.f4.any outB = true then 23 else if 4096 < c.f4.length then 3 else 0) := by
    unfold checkS
    rw [hk, if_neg (show ¬ nameL 5 = [] by decide)]
    unfold ck2 ck3 ck4
    rw [hk, if_neg (show ¬ ((5 : Int) = 4 ∧ (c.f3 < -1099511627776 ∨ 1099511627776 < c.f3)) by omega), if_neg (show ¬ ((5 : Int) = 1 ∧ _) from fun h => by have := h.1; omega)]
    by_cases ho : outB c.f1 = true
    · rw [if_pos ho, if_pos ⟨.inr rfl, ho⟩]
    · rw [if_neg ho, if_neg (fun h => ho h.2)]
      by_cases h2 : outB c.f2 = true
      · rw [if_pos h2, if_pos ⟨rfl, .inl h2⟩]
      · rw [if_neg h2]
        by_cases h3 : c.f4.any outB = true
        · rw [if_pos h3, if_pos ⟨rfl, .inr h3⟩]
        · rw [if_neg h3, if_neg (fun h => h.2.elim h2 h3)]
          by_cases h4 : 4096 < c.f4.length
          · rw [if_pos h4, if_pos ⟨rfl, h4⟩]
          · rw [if_neg h4, if_neg (fun h => h4 h.2)]
  obtain ⟨r, hr⟩ : ∃ r, r = checkS c := ⟨_, rfl⟩
  rw [← hr] at hcs ⊢
  have hli := lines_walk c.f5 W hEW.env ht
  obtain ⟨el, hel⟩ : ∃ el, el = (linesS c.f5).2 := ⟨_, rfl⟩
  obtain ⟨nl, hnl⟩ : ∃ nl, nl = (linesS c.f5).1 := ⟨_, rfl⟩
  rw [← hel, ← hnl] at hli
  skip
  have HCS := Lib.hid hcs
  have HLI := Lib.hid hli
  have HN := Lib.hid hn
  have HEW := Lib.hid hEW
  have HBW := Lib.hid hbW
  have HW := Lib.hid hW
  have HC := Lib.hid (Kd.C_below hC hbW)
  obtain ⟨a0, a1, a2, a3, a4, a5⟩ := cmd_cells hn (Below.refl _ _)
  clear hcs hli hn hEW hbW hW hC hr hel hnl hk hE
  go_enter Tryd.func54, Tryd.ntmps54
  go_upto_region 1 with fail
  rw [← HW.out]
  go_wp2_with fail
  refine HLI.out.mono ?_
  rintro e w1 ⟨v1, rfl, hR1, hb1⟩
  obtain ⟨Al, cl, rfl⟩ := Kd.R_slice hR1
  have HB1 := Lib.hid hb1
  have hz1 := hb1.size
  clear a0 a1 a2 a3 a4 a5 hR1 hb1 HLI
  obtain ⟨a0, a1, a2, a3, a4, a5⟩ := cmd_cells HN.out HB1.out
  have hnm := name_c 5 w1 (HEW.out.below HB1.out (by omega))
  rw [show mk (nameL 5) = ⟨#[115, 111, 108, 118, 101]⟩ from rfl] at hnm
  have HNM := Lib.hid hnm
  clear hnm
  go_wp2_with fail
  refine HNM.out.mono ?_
  rintro e w2 ⟨rfl, rfl⟩
  obtain ⟨bo, hbo⟩ : ∃ bo, bo = outB c.f1 := ⟨_, rfl⟩
  have HO := Lib.hid (out_86 c.f1 w2)
  rw [← hbo] at HO
  have HCS2 := HCS.out
  rw [← hbo] at HCS2
  have HCS := Lib.hid HCS2
  clear hbo HCS2
  go_wp2_with fail
  refine HO.out.mono ?_
  rintro e w3 ⟨rfl, hb3⟩
  have HB3 := Lib.hid (HB1.out.trans (hb3.mono hz1))
  have hz3 := HB3.out.size
  clear hb3 HO a0 a1 a2 a3 a4 a5
  obtain ⟨a0, a1, a2, a3, a4, a5⟩ := cmd_cells HN.out HB3.out
  cases bo with
  | true =>
    go_wp2_with fail
    go_ret
    rw [HCS.out]
    exact ⟨rfl, HBW.out.trans (HB3.out.mono (by omega))⟩
  | false =>
    have HCS3 := HCS.out
    rw [if_neg (by decide)] at HCS3
    obtain ⟨b2, hb2⟩ : ∃ b2, b2 = outB c.f2 := ⟨_, rfl⟩
    have HO := Lib.hid (out_86 c.f2 w3)
    rw [← hb2] at HO HCS3
    have HCS := Lib.hid HCS3
    clear hb2 HCS3
    go_wp2_with fail
    refine HO.out.mono ?_
    rintro e w4 ⟨rfl, hb4⟩
    have HB4 := Lib.hid (HB3.out.trans (hb4.mono hz3))
    have hz4 := HB4.out.size
    clear hb4 HO a0 a1 a2 a3 a4 a5
    obtain ⟨a0, a1, a2, a3, a4, a5⟩ := cmd_cells HN.out HB4.out
    cases b2 with
    | true =>
      go_wp2_with fail
      go_ret
      rw [HCS.out]
      exact ⟨rfl, HBW.out.trans (HB4.out.mono (by omega))⟩
    | false =>
      have HCS4 := HCS.out
      rw [if_neg (by decide)] at HCS4
      obtain ⟨b5, hb5⟩ : ∃ b5, b5 = c.f4.any outB := ⟨_, rfl⟩
      have HO := Lib.hid (anyOut_V A cap c.f4 w4 (Kd.C_below HC.out HB4.out))
      rw [← hb5] at HO HCS4
      have HCS := Lib.hid HCS4
      clear hb5 HCS4
      go_wp2_with fail
      refine HO.out.mono ?_
      rintro e w5 ⟨rfl, hb5⟩
      have HB5 := Lib.hid (HB4.out.trans (hb5.mono hz4))
      have hz5 := HB5.out.size
      clear hb5 HO a0 a1 a2 a3 a4 a5
      obtain ⟨a0, a1, a2, a3, a4, a5⟩ := cmd_cells HN.out HB5.out
      cases b5 with
      | true =>
        go_wp2_with fail
        go_ret
        rw [HCS.out]
        exact ⟨rfl, HBW.out.trans (HB5.out.mono (by omega))⟩
      | false =>
        have HCS5 := HCS.out
        rw [if_neg (by decide)] at HCS5
        by_cases h6 : 4096 < c.f4.length
        · have g6 : decide ((4096 : Int) < (c.f4.length : Int)) = true := decide_eq_true (by omega)
          rw [if_pos h6] at HCS5
          have HCS := Lib.hid HCS5
          clear HCS5 h6
          go_wp2_with fail
          go_ret
          rw [HCS.out]
          exact ⟨rfl, HBW.out.trans (HB5.out.mono (by omega))⟩
        · have g6 : decide ((4096 : Int) < (c.f4.length : Int)) = false := decide_eq_false (by omega)
          rw [if_neg h6] at HCS5
          have HCS := Lib.hid HCS5
          clear HCS5 h6
          go_wp2_with fail
          go_ret
          rw [HCS.out]
          exact ⟨rfl, HBW.out.trans (HB5.out.mono (by omega))⟩

set_option maxHeartbeats 8000000 in
theorem check_6 (c : Cmd) (hk : c.f0 = 6) (A : Option Addr) (cap : Nat) (w : World) (hE : EnvV w) (hC : (Kd.int .i64).C w A c.f4.length c.f4) (ht : c.f5.size < 4294967281) :
    Calls Tryd.prog 54 #[.agg #[.int .i64 6, .int .i64 c.f1, .int .i64 c.f2, .int .i64 c.f3, .slice A c.f4.length cap, .string c.f5]] w fun e w' => e = .returned (.int .i64 (checkS c)) ∧ Below w.heap.size w w' := by
  have h3 := hE.size
  obtain ⟨W, hW⟩ : ∃ W, W = w.alloc (.cells #[.int .i64 6, .int .i64 c.f1, .int .i64 c.f2, .int .i64 c.f3, .slice A c.f4.length cap, .string c.f5] 55) := ⟨_, rfl⟩
  have hbW : Below w.heap.size w W := by rw [hW]; exact (Below.refl _ _).alloc (Nat.le_refl _) _
  have hn : W.heap[w.heap.size]? = some (.cells #[.int .i64 6, .int .i64 c.f1, .int .i64 c.f2, .int .i64 c.f3, .slice A c.f4.length cap, .string c.f5] 55 (0, 0)) := by rw [hW]; exact heap_alloc_new w _
  have hzW : w.heap.size < W.heap.size := by rw [hW]; simp
  have hEW := hE.below hbW h3
  have hcs : checkS c = 0 := by
    unfold checkS
    rw [hk, if_neg (show ¬ nameL 6 = [] by decide)]
    unfold ck2 ck3 ck4
    rw [hk, if_neg (show ¬ (((6 : Int) ≤ 3 ∨ (6 : Int) = 5) ∧ outB c.f1 = true) by omega), if_neg (show ¬ ((6 : Int) = 5 ∧ (outB c.f2 = true ∨ c.f4.any outB = true)) by omega), if_neg (show ¬ ((6 : Int) = 4 ∧ (c.f3 < -1099511627776 ∨ 1099511627776 < c.f3)) by omega), if_neg (show ¬ ((6 : Int) = 5 ∧ 4096 < c.f4.length) by omega), if_neg (show ¬ ((6 : Int) = 1 ∧ _) from fun h => by have := h.1; omega)]
  obtain ⟨r, hr⟩ : ∃ r, r = checkS c := ⟨_, rfl⟩
  rw [← hr] at hcs ⊢
  have hli := lines_walk c.f5 W hEW.env ht
  obtain ⟨el, hel⟩ : ∃ el, el = (linesS c.f5).2 := ⟨_, rfl⟩
  obtain ⟨nl, hnl⟩ : ∃ nl, nl = (linesS c.f5).1 := ⟨_, rfl⟩
  rw [← hel, ← hnl] at hli
  skip
  have HCS := Lib.hid hcs
  have HLI := Lib.hid hli
  have HN := Lib.hid hn
  have HEW := Lib.hid hEW
  have HBW := Lib.hid hbW
  have HW := Lib.hid hW
  have HC := Lib.hid (Kd.C_below hC hbW)
  obtain ⟨a0, a1, a2, a3, a4, a5⟩ := cmd_cells hn (Below.refl _ _)
  clear hcs hli hn hEW hbW hW hC hr hel hnl hk hE
  go_enter Tryd.func54, Tryd.ntmps54
  go_upto_region 1 with fail
  rw [← HW.out]
  go_wp2_with fail
  refine HLI.out.mono ?_
  rintro e w1 ⟨v1, rfl, hR1, hb1⟩
  obtain ⟨Al, cl, rfl⟩ := Kd.R_slice hR1
  have HB1 := Lib.hid hb1
  have hz1 := hb1.size
  clear a0 a1 a2 a3 a4 a5 hR1 hb1 HLI
  obtain ⟨a0, a1, a2, a3, a4, a5⟩ := cmd_cells HN.out HB1.out
  have hnm := name_c 6 w1 (HEW.out.below HB1.out (by omega))
  rw [show mk (nameL 6) = ⟨#[114, 101, 112, 111, 114, 116]⟩ from rfl] at hnm
  have HNM := Lib.hid hnm
  clear hnm
  go_wp2_with fail
  refine HNM.out.mono ?_
  rintro e w2 ⟨rfl, rfl⟩
  go_wp2_with fail
  go_ret
  rw [HCS.out]
  exact ⟨rfl, HBW.out.trans (HB1.out.mono (by omega))⟩

set_option maxHeartbeats 8000000 in
theorem check_7 (c : Cmd) (hk : c.f0 = 7) (A : Option Addr) (cap : Nat) (w : World) (hE : EnvV w) (hC : (Kd.int .i64).C w A c.f4.length c.f4) (ht : c.f5.size < 4294967281) :
    Calls Tryd.prog 54 #[.agg #[.int .i64 7, .int .i64 c.f1, .int .i64 c.f2, .int .i64 c.f3, .slice A c.f4.length cap, .string c.f5]] w fun e w' => e = .returned (.int .i64 (checkS c)) ∧ Below w.heap.size w w' := by
  have h3 := hE.size
  obtain ⟨W, hW⟩ : ∃ W, W = w.alloc (.cells #[.int .i64 7, .int .i64 c.f1, .int .i64 c.f2, .int .i64 c.f3, .slice A c.f4.length cap, .string c.f5] 55) := ⟨_, rfl⟩
  have hbW : Below w.heap.size w W := by rw [hW]; exact (Below.refl _ _).alloc (Nat.le_refl _) _
  have hn : W.heap[w.heap.size]? = some (.cells #[.int .i64 7, .int .i64 c.f1, .int .i64 c.f2, .int .i64 c.f3, .slice A c.f4.length cap, .string c.f5] 55 (0, 0)) := by rw [hW]; exact heap_alloc_new w _
  have hzW : w.heap.size < W.heap.size := by rw [hW]; simp
  have hEW := hE.below hbW h3
  have hcs : checkS c = 0 := by
    unfold checkS
    rw [hk, if_neg (show ¬ nameL 7 = [] by decide)]
    unfold ck2 ck3 ck4
    rw [hk, if_neg (show ¬ (((7 : Int) ≤ 3 ∨ (7 : Int) = 5) ∧ outB c.f1 = true) by omega), if_neg (show ¬ ((7 : Int) = 5 ∧ (outB c.f2 = true ∨ c.f4.any outB = true)) by omega), if_neg (show ¬ ((7 : Int) = 4 ∧ (c.f3 < -1099511627776 ∨ 1099511627776 < c.f3)) by omega), if_neg (show ¬ ((7 : Int) = 5 ∧ 4096 < c.f4.length) by omega), if_neg (show ¬ ((7 : Int) = 1 ∧ _) from fun h => by have := h.1; omega)]
  obtain ⟨r, hr⟩ : ∃ r, r = checkS c := ⟨_, rfl⟩
  rw [← hr] at hcs ⊢
  have hli := lines_walk c.f5 W hEW.env ht
  obtain ⟨el, hel⟩ : ∃ el, el = (linesS c.f5).2 := ⟨_, rfl⟩
  obtain ⟨nl, hnl⟩ : ∃ nl, nl = (linesS c.f5).1 := ⟨_, rfl⟩
  rw [← hel, ← hnl] at hli
  skip
  have HCS := Lib.hid hcs
  have HLI := Lib.hid hli
  have HN := Lib.hid hn
  have HEW := Lib.hid hEW
  have HBW := Lib.hid hbW
  have HW := Lib.hid hW
  have HC := Lib.hid (Kd.C_below hC hbW)
  obtain ⟨a0, a1, a2, a3, a4, a5⟩ := cmd_cells hn (Below.refl _ _)
  clear hcs hli hn hEW hbW hW hC hr hel hnl hk hE
  go_enter Tryd.func54, Tryd.ntmps54
  go_upto_region 1 with fail
  rw [← HW.out]
  go_wp2_with fail
  refine HLI.out.mono ?_
  rintro e w1 ⟨v1, rfl, hR1, hb1⟩
  obtain ⟨Al, cl, rfl⟩ := Kd.R_slice hR1
  have HB1 := Lib.hid hb1
  have hz1 := hb1.size
  clear a0 a1 a2 a3 a4 a5 hR1 hb1 HLI
  obtain ⟨a0, a1, a2, a3, a4, a5⟩ := cmd_cells HN.out HB1.out
  have hnm := name_c 7 w1 (HEW.out.below HB1.out (by omega))
  rw [show mk (nameL 7) = ⟨#[116, 105, 99, 107, 101, 116, 115]⟩ from rfl] at hnm
  have HNM := Lib.hid hnm
  clear hnm
  go_wp2_with fail
  refine HNM.out.mono ?_
  rintro e w2 ⟨rfl, rfl⟩
  go_wp2_with fail
  go_ret
  rw [HCS.out]
  exact ⟨rfl, HBW.out.trans (HB1.out.mono (by omega))⟩

set_option maxHeartbeats 8000000 in
theorem check_none (c : Cmd) (hk : nameL c.f0 = []) (A : Option Addr) (cap : Nat) (w : World) (hE : EnvV w) (ht : c.f5.size < 4294967281) :
    Calls Tryd.prog 54 #[.agg #[.int .i64 c.f0, .int .i64 c.f1, .int .i64 c.f2, .int .i64 c.f3, .slice A c.f4.length cap, .string c.f5]] w fun e w' => e = .returned (.int .i64 (checkS c)) ∧ Below w.heap.size w w' := by
  have h3 := hE.size
  have hkk := (nameL_nil _).1 hk
  have g4 : (c.f0 != 4) = true := bne_iff_ne.2 (by omega)
  have g6 : (c.f0 != 6) = true := bne_iff_ne.2 (by omega)
  have g7 : (c.f0 != 7) = true := bne_iff_ne.2 (by omega)
  obtain ⟨W, hW⟩ : ∃ W, W = w.alloc (.cells #[.int .i64 c.f0, .int .i64 c.f1, .int .i64 c.f2, .int .i64 c.f3, .slice A c.f4.length cap, .string c.f5] 55) := ⟨_, rfl⟩
  have hbW : Below w.heap.size w W := by rw [hW]; exact (Below.refl _ _).alloc (Nat.le_refl _) _
  have hn : W.heap[w.heap.size]? = some (.cells #[.int .i64 c.f0, .int .i64 c.f1, .int .i64 c.f2, .int .i64 c.f3, .slice A c.f4.length cap, .string c.f5] 55 (0, 0)) := by rw [hW]; exact heap_alloc_new w _
  have hzW : w.heap.size < W.heap.size := by rw [hW]; simp
  have hEW := hE.below hbW h3
  have hcs : checkS c = 50 := by unfold checkS; rw [if_pos hk]
  have hli := lines_walk c.f5 W hEW.env ht
  obtain ⟨el, hel⟩ : ∃ el, el = (linesS c.f5).2 := ⟨_, rfl⟩
  obtain ⟨nl, hnl⟩ : ∃ nl, nl = (linesS c.f5).1 := ⟨_, rfl⟩
  rw [← hel, ← hnl] at hli
  rw [hcs]
  have HLI := Lib.hid hli
  have HN := Lib.hid hn
  have HEW := Lib.hid hEW
  have HBW := Lib.hid hbW
  have HW := Lib.hid hW
  have HK := Lib.hid hk
  obtain ⟨a0, a1, a2, a3, a4, a5⟩ := cmd_cells hn (Below.refl _ _)
  clear hcs hli hn hEW hbW hW hel hnl hk hkk hE
  go_enter Tryd.func54, Tryd.ntmps54
  go_upto_region 1 with fail
  rw [← HW.out]
  go_wp2_with fail
  refine HLI.out.mono ?_
  rintro e w1 ⟨v1, rfl, hR1, hb1⟩
  have HB1 := Lib.hid hb1
  have hz1 := hb1.size
  clear a0 a1 a2 a3 a4 a5 hR1 hb1 HLI
  obtain ⟨a0, a1, a2, a3, a4, a5⟩ := cmd_cells HN.out HB1.out
  have hnm := name_c c.f0 w1 (HEW.out.below HB1.out (by omega))
  rw [HK.out, show mk [] = ⟨#[]⟩ from rfl] at hnm
  have HNM := Lib.hid hnm
  clear hnm
  go_wp2_with fail
  refine HNM.out.mono ?_
  rintro e w2 ⟨rfl, rfl⟩
  go_wp2_with fail
  go_ret
  exact ⟨rfl, HBW.out.trans (HB1.out.mono (by omega))⟩
theorem check_c (c : Cmd) (A : Option Addr) (cap : Nat) (w : World) (hE : EnvV w) (hC : (Kd.int .i64).C w A c.f4.length c.f4) (ht : c.f5.size < 4294967281) :
    Calls Tryd.prog 54 #[.agg #[.int .i64 c.f0, .int .i64 c.f1, .int .i64 c.f2, .int .i64 c.f3, .slice A c.f4.length cap, .string c.f5]] w fun e w' => e = .returned (.int .i64 (checkS c)) ∧ Below w.heap.size w w' := by
  by_cases hk : nameL c.f0 = []
  · exact check_none c hk A cap w hE ht
  · have h7 : 1 ≤ c.f0 ∧ c.f0 ≤ 7 := Decidable.byContradiction fun h => hk ((nameL_nil _).2 h)
    rcases kind_cases h7.1 h7.2 with h | h | h | h | h | h | h
    · rw [h]; exact check_1 c h A cap w hE hC ht
    · rw [h]; exact check_2 c h A cap w hE hC ht
    · rw [h]; exact check_3 c h A cap w hE hC ht
    · rw [h]; exact check_4 c h A cap w hE hC ht
    · rw [h]; exact check_5 c h A cap w hE hC ht
    · rw [h]; exact check_6 c h A cap w hE hC ht
    · rw [h]; exact check_7 c h A cap w hE hC ht
end Go.Proofs.YtdgifgdadminbaaDoor
