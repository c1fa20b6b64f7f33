/- file.Print: paired, and the text as it grows. Written by this session. -/
import Derived.Test.YtdgifgdadminbaaDoorXl
import Derived.Test.YtdgifgdadminbaaDoorPe
set_option linter.unusedSimpArgs false
set_option linter.unusedVariables false
set_option maxRecDepth 100000
namespace Go.Proofs.YtdgifgdadminbaaDoor
open Go.RowKit Go.Proofs.YtdgifgdadminbaaDoorW.PrintWords Sp
open PFileParses (wrap_id ba_len toList_data info3 info2 info9 rd_L1 rd_L2 at_L1 at_L2)

theorem rd_L1_at (xs : List (List Int)) (i : Nat) (h : i < xs.length) : rd_L1 xs (i : Int) = xs[i]'h := by
  unfold rd_L1
  rw [Int.toNat_natCast, List.getD_eq_getElem?_getD, List.getElem?_eq_getElem h]
  rfl
theorem rd_L2_at (xs : List (List Int)) (i : Nat) (h : i < xs.length) : rd_L2 xs (i : Int) = xs[i]'h := by
  unfold rd_L2
  rw [Int.toNat_natCast, List.getD_eq_getElem?_getD, List.getElem?_eq_getElem h]
  rfl
theorem pairs_at (p : Pl) (k : Nat) (h : k < (pairs p).length) (h1 : k < p.routes.length) (h2 : k < p.times.length) : (pairs p)[k]'h = (p.routes[k]'h1, p.times[k]'h2) := List.getElem_zip
theorem paired_l (p : Pl) (hlen : p.times.length = p.routes.length) (hs : p.routes.length < 9223372036854775807) : ∀ (d i k : Nat), p.routes.length - i = d → d < k → i ≤ p.routes.length →
    PFileParses.file_paired.l0 k p.routes (p.routes.length : Int) (i : Int) p.routes p.times p.left p.cost = some (!((pairs p).drop i).any pairB)
  | 0, i, k, hd, hk, hi => by
    obtain ⟨k, rfl⟩ : ∃ q, k = q + 1 := ⟨k - 1, by omega⟩
    have hpl : (pairs p).length = p.routes.length := by unfold pairs; rw [List.length_zip]; omega
    rw [PFileParses.file_paired.l0, if_neg (by omega), List.drop_eq_nil_of_le (by omega)]
    rfl
  | d + 1, i, k, hd, hk, hi => by
    obtain ⟨k, rfl⟩ : ∃ q, k = q + 1 := ⟨k - 1, by omega⟩
    have hpl : (pairs p).length = p.routes.length := by unfold pairs; rw [List.length_zip]; omega
    have hil : i < p.routes.length := by omega
    have hx : (pairs p)[i]'(by omega) = (p.routes[i]'hil, p.times[i]'(by omega)) := pairs_at p i _ _ _
    rw [PFileParses.file_paired.l0, if_pos (by omega), if_pos (by omega), if_pos (by omega), rd_L1_at p.routes i hil, rd_L2_at p.times i (by omega), List.drop_eq_getElem_cons (by omega), List.any_cons, hx]
    unfold pairB
    dsimp only
    have ih := paired_l p hlen hs d (i + 1) k (by omega) (by omega) (by omega)
    have hw : wrap64 ((i : Int) + 1) = ((i + 1 : Nat) : Int) := by rw [wrap_id (by omega) (by omega)]; omega
    by_cases h1 : (p.routes[i]'hil).length = 0
    · rw [if_pos (by omega), decide_eq_true h1]
      rfl
    · rw [if_neg (by omega), if_pos (by omega), decide_eq_false h1, Bool.false_or, hw, ih]
      by_cases h2 : (p.times[i]'(by omega)).length = (p.routes[i]'hil).length
      · rw [if_pos (by omega), decide_eq_false (by omega), Bool.false_and, Bool.false_or]
        rfl
      · rw [if_neg (by omega), decide_eq_true h2, Bool.true_and]
        by_cases h3 : 0 < (p.times[i]'(by omega)).length
        · rw [if_pos (by omega), decide_eq_true h3]
          rfl
        · rw [if_neg (by omega), decide_eq_false h3, Bool.false_or]
          rfl
theorem paired_f (p : Pl) (hs : p.routes.length < 9223372036854775807) : ∃ k, PFileParses.file_paired.f k p.routes p.times p.left p.cost = some (pairedB p) := by
  refine ⟨p.routes.length + 1, ?_⟩
  unfold PFileParses.file_paired.f pairedB
  by_cases h : p.times.length = p.routes.length
  · rw [if_pos (by omega), decide_eq_true h, Bool.true_and]
    exact paired_l p h hs p.routes.length 0 _ rfl (by omega) (by omega)
  · rw [if_neg (by omega), decide_eq_false h, Bool.false_and]
theorem paired_c (rv tv lv : Value) (p : Pl) (w : World) (hp : PlanAt rv tv lv p w) (hs : p.routes.length < 9223372036854775807) :
    Calls Tryd.prog 43 #[.agg #[rv, tv, lv, .int .i64 p.cost]] w fun e w' => e = .returned (.bool (pairedB p)) ∧ Below w.heap.size w w' := by
  obtain ⟨⟨A1, c1, rfl, l1, h1⟩, ⟨A2, c2, rfl, l2, h2⟩, ⟨A3, c3, rfl, l3, h3⟩⟩ := hp
  obtain ⟨k, hk⟩ := paired_f p hs
  exact PFileParses.file_paired.calls k A1 c1 p.routes A2 c2 p.times A3 c3 p.left p.cost _ w h1 l1 h2 l2 h3 l3 hk

/-! ### the text as it grows -/
def txt (p : Pl) (k : Nat) : List UInt8 := joinL (lineW bPlan [(p.routes.length : Int), p.cost] :: two (fun x => lineW bRoute x.1) (fun x => lineW bTimes x.2) ((pairs p).take k))
theorem txt_zero (p : Pl) : txt p 0 = lineW bPlan [(p.routes.length : Int), p.cost] ++ [10] := by
  unfold txt
  rw [List.take_zero, joinL_cons]
  rfl
theorem txt_succ (p : Pl) (k : Nat) (h : k < (pairs p).length) : txt p (k + 1) = (txt p k ++ (lineW bRoute ((pairs p)[k]'h).1 ++ [10])) ++ (lineW bTimes ((pairs p)[k]'h).2 ++ [10]) := by
  unfold txt
  rw [List.take_succ_eq_append_getElem h]
  unfold two
  rw [List.flatMap_append, ← List.cons_append, joinL_append]
  simp [joinL]
theorem txt_all (p : Pl) : txt p (pairs p).length ++ (lineW bLeft p.left ++ [10]) = textP p := by
  unfold txt textP linesP
  rw [List.take_length, ← List.cons_append, joinL_append]
  congr 1
  simp [joinL]
theorem ok_I64 {n : Int} (h : Ok n) : I64 n := by
  unfold Ok at h
  unfold I64
  omega
theorem txt_len (p : Pl) (hg : Good p) : ∀ k, k ≤ (pairs p).length → (txt p k).length ≤ 100 + 200000 * k
  | 0, _ => by
    rw [txt_zero, List.length_append]
    have := lineW_len (a := bPlan) (ns := [(p.routes.length : Int), p.cost]) (by
      intro n hn
      rcases List.mem_cons.1 hn with rfl | hn
      · exact ok_I64 hg.cars_ok
      · rw [List.mem_singleton.1 hn]; exact ok_I64 hg.c)
    simp only [List.length_cons, List.length_nil, bPlan] at this ⊢
    omega
  | k + 1, h => by
    have ih := txt_len p hg k (by omega)
    have hm := List.getElem_mem (l := pairs p) (n := k) (by omega)
    obtain ⟨m1, m2⟩ := Good.mem_pairs hm
    have r1 := lineW_len (a := bRoute) (fun n hn => ok_I64 (hg.r _ m1 n hn))
    have r2 := lineW_len (a := bTimes) (fun n hn => ok_I64 (hg.t _ m2 n hn))
    have l1 := hg.rows _ m1
    have l2 := (hg.pair _ hm).2
    have l3 : ((pairs p)[k]'(by omega)).2.length ≤ 4096 := by
      rcases l2 with e | e
      · omega
      · rw [e]; simp
    rw [txt_succ p k (by omega)]
    simp only [List.length_append, List.length_cons, List.length_nil]
    have b1 : bRoute.length = 5 := rfl
    have b2 : bTimes.length = 5 := rfl
    omega
end Go.Proofs.YtdgifgdadminbaaDoor
