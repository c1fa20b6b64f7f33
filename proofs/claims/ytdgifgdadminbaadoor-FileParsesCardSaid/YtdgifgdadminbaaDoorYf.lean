/- few; a plan as the document's. Written by this session. -/
import Derived.Test.YtdgifgdadminbaaDoorYa
set_option linter.unusedSimpArgs false
set_option linter.unusedVariables false
set_option maxRecDepth 100000
namespace Go.Proofs.YtdgifgdadminbaaDoor
open Go.RowKit Go.Proofs.YtdgifgdadminbaaDoorW.PrintWords Sp
open PFileParses (wrap_id ba_len toList_data info3 info2 info9 rd_L1 rd_L2 at_L1 at_L2)

def shortB (r : List Int) : Bool := decide (r.length ≤ 60)
def fewB (p : Pl) : Bool := p.routes.all shortB && p.times.all shortB && (decide (p.routes.length ≤ 70) && decide (p.times.length ≤ 70) && decide (p.left.length ≤ 60))
theorem few_l1 (p : Pl) (hs : p.times.length ≤ 9223372036854775807) : ∀ (d i k : Nat), p.times.length - i = d → d < k → i ≤ p.times.length →
    PFileParses.jitneylaw23_few.l1 k p.times (p.times.length : Int) (i : Int) p.routes p.times p.left p.cost = some ((p.times.drop i).all shortB && (decide (p.routes.length ≤ 70) && decide (p.times.length ≤ 70) && decide (p.left.length ≤ 60)))
  | 0, i, k, hd, hk, hi => by
    obtain ⟨k, rfl⟩ : ∃ q, k = q + 1 := ⟨k - 1, by omega⟩
    rw [PFileParses.jitneylaw23_few.l1, if_neg (by omega), List.drop_eq_nil_of_le (by omega)]
    by_cases h1 : p.routes.length ≤ 70
    · rw [if_pos (by omega), decide_eq_true h1]
      by_cases h2 : p.times.length ≤ 70
      · rw [if_pos (by omega), decide_eq_true h2]
        simp
        omega
      · rw [if_neg (by omega), decide_eq_false h2]
        rfl
    · rw [if_neg (by omega), decide_eq_false h1]
      rfl
  | d + 1, i, k, hd, hk, hi => by
    obtain ⟨k, rfl⟩ : ∃ q, k = q + 1 := ⟨k - 1, by omega⟩
    have hil : i < p.times.length := by omega
    have hw : wrap64 ((i : Int) + 1) = ((i + 1 : Nat) : Int) := by rw [wrap_id (by omega) (by omega)]; omega
    rw [PFileParses.jitneylaw23_few.l1, if_pos (by omega), if_pos (by omega), if_pos (by omega), rd_L2_at p.times i hil, List.drop_eq_getElem_cons hil, List.all_cons, hw, few_l1 p hs d (i + 1) k (by omega) (by omega) (by omega)]
    unfold shortB
    by_cases h : (p.times[i]'hil).length ≤ 60
    · rw [if_neg (by omega), decide_eq_true h, Bool.true_and]
    · rw [if_pos (by omega), decide_eq_false h]
      rfl
theorem few_l0 (p : Pl) (hr : p.routes.length ≤ 9223372036854775807) (hs : p.times.length ≤ 9223372036854775807) : ∀ (d i k : Nat), p.routes.length - i = d → d + p.times.length + 1 < k → i ≤ p.routes.length →
    PFileParses.jitneylaw23_few.l0 k p.routes (p.routes.length : Int) (i : Int) p.routes p.times p.left p.cost = some ((p.routes.drop i).all shortB && (p.times.all shortB && (decide (p.routes.length ≤ 70) && decide (p.times.length ≤ 70) && decide (p.left.length ≤ 60))))
  | 0, i, k, hd, hk, hi => by
    obtain ⟨k, rfl⟩ : ∃ q, k = q + 1 := ⟨k - 1, by omega⟩
    rw [PFileParses.jitneylaw23_few.l0, if_neg (by omega), List.drop_eq_nil_of_le (by omega)]
    exact few_l1 p hs p.times.length 0 k rfl (by omega) (by omega)
  | d + 1, i, k, hd, hk, hi => by
    obtain ⟨k, rfl⟩ : ∃ q, k = q + 1 := ⟨k - 1, by omega⟩
    have hil : i < p.routes.length := by omega
    have hw : wrap64 ((i : Int) + 1) = ((i + 1 : Nat) : Int) := by rw [wrap_id (by omega) (by omega)]; omega
    rw [PFileParses.jitneylaw23_few.l0, if_pos (by omega), if_pos (by omega), if_pos (by omega), rd_L1_at p.routes i hil, List.drop_eq_getElem_cons hil, List.all_cons, hw, few_l0 p hr hs d (i + 1) k (by omega) (by omega) (by omega)]
    unfold shortB
    by_cases h : (p.routes[i]'hil).length ≤ 60
    · rw [if_neg (by omega), decide_eq_true h, Bool.true_and]
    · rw [if_pos (by omega), decide_eq_false h]
      rfl
theorem few_f (p : Pl) (hr : p.routes.length ≤ 9223372036854775807) (hs : p.times.length ≤ 9223372036854775807) : PFileParses.jitneylaw23_few.f (p.routes.length + p.times.length + 2) p.routes p.times p.left p.cost = some (fewB p) := by
  unfold PFileParses.jitneylaw23_few.f fewB
  rw [Bool.and_assoc]
  exact few_l0 p hr hs p.routes.length 0 _ rfl (by omega) (by omega)
theorem few_c (rv tv lv : Value) (p : Pl) (w : World) (hp : PlanAt rv tv lv p w) (hr : p.routes.length ≤ 9223372036854775807) (hs : p.times.length ≤ 9223372036854775807) :
    Calls Tryd.prog 16 #[.agg #[rv, tv, lv, .int .i64 p.cost]] w fun e w' => e = .returned (.bool (fewB p)) ∧ Below w.heap.size w w' := by
  obtain ⟨⟨A1, c1, rfl, l1, h1⟩, ⟨A2, c2, rfl, l2, h2⟩, ⟨A3, c3, rfl, l3, h3⟩⟩ := hp
  exact PFileParses.jitneylaw23_few.calls _ A1 c1 p.routes A2 c2 p.times A3 c3 p.left p.cost _ w h1 l1 h2 l2 h3 l3 (few_f p hr hs)
theorem as_c (A1 : Option Addr) (n1 c1 : Nat) (A2 : Option Addr) (n2 c2 : Nat) (A3 : Option Addr) (n3 c3 : Nat) (cost : Int) (w : World) :
    Calls Tryd.prog 15 #[.agg #[.slice A1 n1 c1, .slice A2 n2 c2, .slice A3 n3 c3, .int .i64 cost]] w fun e w' => e = .returned (.agg #[.slice A1 n1 c1, .slice A2 n2 c2, .slice A3 n3 c3, .int .i64 cost]) ∧ Below w.heap.size w w' := by
  go_enter Tryd.func15, Tryd.ntmps15
  go_wp2_with fail
  have hb : Below w.heap.size w ((w.alloc (.cells #[.slice A1 n1 c1, .slice A2 n2 c2, .slice A3 n3 c3, .int .i64 cost] 27)).alloc (.cells #[.slice A1 n1 c1, .slice A2 n2 c2, .slice A3 n3 c3, .int .i64 cost] 31)) := ((Below.refl _ _).alloc (Nat.le_refl _) _).alloc (by simp) _
  have hn := heap_alloc_new (w.alloc (.cells #[.slice A1 n1 c1, .slice A2 n2 c2, .slice A3 n3 c3, .int .i64 cost] 27)) (.cells #[.slice A1 n1 c1, .slice A2 n2 c2, .slice A3 n3 c3, .int .i64 cost] 31)
  rw [show (w.alloc (.cells #[.slice A1 n1 c1, .slice A2 n2 c2, .slice A3 n3 c3, .int .i64 cost] 27)).heap.size = w.heap.size + 1 by simp] at hn
  exact bodyPost_ret (v := .agg #[.slice A1 n1 c1, .slice A2 n2 c2, .slice A3 n3 c3, .int .i64 cost]) (results_cell_row rfl _ _ (w.heap.size + 1) 31 _ _ _ rfl hn Tryd.underlying31 rfl (by kernel_rfl)) rfl ⟨rfl, hb⟩
end Go.Proofs.YtdgifgdadminbaaDoor
