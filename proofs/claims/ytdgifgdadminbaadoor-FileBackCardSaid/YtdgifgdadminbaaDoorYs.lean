/- plan.Same. Written by this session (by ys.py). -/
import Derived.Test.YtdgifgdadminbaaDoorX1
import Derived.Test.YtdgifgdadminbaaDoorP1
set_option linter.unusedSimpArgs false
set_option linter.unusedVariables false
set_option maxRecDepth 100000
namespace Go.Proofs.YtdgifgdadminbaaDoor
open Go.RowKit Go.Proofs.YtdgifgdadminbaaDoorW.PrintWords Sp
open PFileParses (wrap_id ba_len toList_data info3 info2 info9)

theorem rd_at (xs : List Int) (i : Nat) (h : i < xs.length) : rd xs (i : Int) = xs[i]'h := by
  unfold rd
  rw [Int.toNat_natCast, List.getD_eq_getElem?_getD, List.getElem?_eq_getElem h]
  rfl
theorem enters_51 : Enters 51 := enters_of Tryd.func51 (by kernel_rfl) rfl
theorem enters_53 : Enters 53 := enters_of Tryd.func53 (by kernel_rfl) rfl
def PredTwo (F : Nat) (w : World) (vs us : List Value) (p : Nat → Bool) : Prop :=
  ∀ j (h : j < vs.length) (h2 : j < us.length) (w' : World), Below w.heap.size w w' → Calls Tryd.prog F #[vs[j]'h, us[j]'h2] w' fun e w'' => e = .returned (.bool (p j)) ∧ Below w'.heap.size w' w''
theorem all_miss {n k : Nat} {p : Nat → Bool} (hk : k < n) (h : p k = false) : (List.range n).all p = false := List.all_eq_false.2 ⟨k, List.mem_range.2 hk, by simp [h]⟩
theorem all_hit {n : Nat} {p : Nat → Bool} (h : ∀ j, j < n → p j = true) : (List.range n).all p = true := List.all_eq_true.2 (fun j hj => h j (List.mem_range.1 hj))
theorem below_drawn0 {w w' : World} (h : Drawn0 w w') : Below w.heap.size w w' := drawn_below (Below.refl _ _) h

theorem rows_eq (xs ys : List (List Int)) : (decide (xs.length = ys.length) && (List.range xs.length).all fun j => decide (xs.getD j [] = ys.getD j [])) = decide (xs = ys) := by
  rw [Bool.eq_iff_iff, Bool.and_eq_true, decide_eq_true_iff, decide_eq_true_iff, List.all_eq_true]
  constructor
  · rintro ⟨hl, h⟩
    refine List.ext_getElem hl fun i h1 h2 => ?_
    have := h i (List.mem_range.2 h1)
    rw [decide_eq_true_iff, List.getD_eq_getElem?_getD, List.getElem?_eq_getElem h1, List.getD_eq_getElem?_getD, List.getElem?_eq_getElem h2] at this
    exact this
  · rintro rfl
    exact ⟨rfl, fun _ _ => by simp⟩

theorem equal_l_51 (xs ys : List Int) (hl : xs.length = ys.length) (hs : xs.length ≤ 9223372036854775807) : ∀ (d i k : Nat), xs.length - i = d → d < k → i ≤ xs.length → PFileParses.slices_Equal_int_int.l0 k xs ys (xs.length : Int) (i : Int) = some (decide (xs.drop i = ys.drop i))
  | 0, i, k, hd, hk, hi => by
    obtain ⟨k, rfl⟩ : ∃ q, k = q + 1 := ⟨k - 1, by omega⟩
    rw [PFileParses.slices_Equal_int_int.l0, if_neg (by omega), List.drop_eq_nil_of_le (by omega), List.drop_eq_nil_of_le (by omega)]
    rfl
  | d + 1, i, k, hd, hk, hi => by
    obtain ⟨k, rfl⟩ : ∃ q, k = q + 1 := ⟨k - 1, by omega⟩
    have hw : wrap64 ((i : Int) + 1) = ((i + 1 : Nat) : Int) := by rw [wrap_id (by omega) (by omega)]; omega
    have h1 : i < xs.length := by omega
    have h2 : i < ys.length := by omega
    rw [PFileParses.slices_Equal_int_int.l0, if_pos (by omega), if_pos (by omega), if_pos (by omega), if_pos (by omega), rd_at xs i h1, rd_at ys i h2, hw, equal_l_51 xs ys hl hs d (i + 1) k (by omega) (by omega) (by omega), List.drop_eq_getElem_cons h1, List.drop_eq_getElem_cons h2]
    by_cases h : xs[i]'h1 = ys[i]'h2
    · rw [if_pos h, h]
      congr 1
      rw [decide_eq_decide]
      exact ⟨fun e => by rw [e], fun e => (List.cons.inj e).2⟩
    · rw [if_neg h]
      congr 1
      exact (decide_eq_false (fun e => h (List.cons.inj e).1)).symm
theorem equal_51 (A1 : Option Addr) (c1 : Nat) (xs : List Int) (A2 : Option Addr) (c2 : Nat) (ys : List Int) (w : World) (h1 : (Kd.int .i64).C w A1 xs.length xs) (l1 : xs.length ≤ c1) (h2 : (Kd.int .i64).C w A2 ys.length ys) (l2 : ys.length ≤ c2) :
    Calls Tryd.prog 51 #[.slice A1 xs.length c1, .slice A2 ys.length c2] w fun e w' => e = .returned (.bool (decide (xs = ys))) ∧ Below w.heap.size w w' := by
  have hf : PFileParses.slices_Equal_int_int.f (xs.length + 1) xs ys = some (decide (xs = ys)) := by
    unfold PFileParses.slices_Equal_int_int.f
    by_cases hl : xs.length = ys.length
    · rw [if_pos (by omega)]
      exact equal_l_51 xs ys hl h1.2.1 xs.length 0 _ rfl (by omega) (by omega)
    · rw [if_neg (by omega), decide_eq_false (fun e => hl (by rw [e]))]
  refine (PFileParses.slices_Equal_int_int.calls _ A1 c1 xs A2 c2 ys _ w h1 l1 h2 l2 hf).mono ?_
  rintro e w' ⟨rfl, hd⟩
  exact ⟨rfl, below_drawn0 hd⟩

set_option maxHeartbeats 1000000 in
theorem equalFunc_50 (F : Nat) (A1 : Option Addr) (c1 : Nat) (vs : List Value) (A2 : Option Addr) (c2 : Nat) (us : List Value) (p : Nat → Bool) (w : World) (hE : Elems w A1 vs.length vs) (hU : Elems w A2 us.length us) (hF : Enters F) (hP : PredTwo F w vs us p) :
    Calls Tryd.prog 50 #[.slice A1 vs.length c1, .slice A2 us.length c2, .func (.func F) #[] #[]] w fun e w' => e = .returned (.bool (decide (vs.length = us.length) && (List.range vs.length).all p)) ∧ Below w.heap.size w w' := by
  have hsm := hE.small
  have hsu := hU.small
  have HE := Lib.hid hE
  have HU := Lib.hid hU
  have HP := Lib.hid hP
  clear hE hP hU
  by_cases hl : vs.length = us.length
  · have hb : ((vs.length : Int) != (us.length : Int)) = false := by simp; omega
    have hb' : decide (vs.length = us.length) = true := decide_eq_true hl
    have hlu : vs.length ≤ us.length := by omega
    have HL := Lib.hid hl
    have HBB := Lib.hid hb'
    clear hl hb'
    go_enter Tryd.func50, Tryd.ntmps50
    go_wp2_with fail
    go_loopw [7, 8, 9, 17] (fun _ _ _ i wr => ∃ k : Nat, k ≤ vs.length ∧ i = .int .i64 k ∧ (∀ j, j < k → p j = true) ∧ Below w.heap.size w wr) (fun _ _ _ i _ => vs.length - (intOf i).toNat)
    case atStart => exact ⟨0, Nat.zero_le _, rfl, fun j hj => absurd hj (Nat.not_lt_zero _), Below.refl _ _⟩
    case round =>
      obtain ⟨k, hk, rfl, hno, hB⟩ := hrel
      have HN := Lib.hid hno
      have HB := Lib.hid hB
      clear hno hB
      by_cases hlt : k < vs.length
      · have hlt2 : k < us.length := by omega
        obtain ⟨ad, rfl, hc⟩ := (HE.out.below HB.out).at_ k hlt
        obtain ⟨ad2, rfl, hc2⟩ := (HU.out.below HB.out).at_ k hlt2
        obtain ⟨v, hv⟩ : ∃ v, v = vs[k]'hlt := ⟨_, rfl⟩
        obtain ⟨u, hu⟩ : ∃ u, u = us[k]'hlt2 := ⟨_, rfl⟩
        rw [← hv] at hc
        rw [← hu] at hc2
        have hC := HP.out k hlt hlt2 wr HB.out
        rw [← hv, ← hu] at hC
        obtain ⟨b, hb3⟩ : ∃ b, p k = b := ⟨_, rfl⟩
        rw [hb3] at hC
        have HC := Lib.hid hC
        have HBK := Lib.hid hb3
        clear hC hv hu hb3
        have hf := hF #[v, u]
        go_wp2_with fail
        refine HC.out.mono ?_
        rintro e w2 ⟨rfl, hb2⟩
        have HB2 := Lib.hid (HB.out.trans (hb2.mono HB.out.size))
        clear hb2 hc hc2 hf
        cases b
        · go_wp2_with fail
          go_ret
          exact ⟨by rw [all_miss hlt HBK.out, Bool.and_false]; rfl, HB2.out⟩
        · go_wp2_with fail
          go_roundw
          case rel =>
            refine ⟨k + 1, by omega, by go_num, fun j hj => ?_, HB2.out⟩
            by_cases hjk : j < k
            · exact HN.out j hjk
            · have : j = k := by omega
              rw [this]
              exact HBK.out
          case measure => simp [intOf]; omega
      · go_wp2_with fail
        go_ret
        exact ⟨by rw [all_hit (fun j hj => HN.out j (by omega)), HBB.out]; rfl, HB.out⟩
  · have hb : ((vs.length : Int) != (us.length : Int)) = true := by simp; omega
    have hb' : decide (vs.length = us.length) = false := decide_eq_false hl
    rw [hb', Bool.false_and]
    clear hl hb'
    go_enter Tryd.func50, Tryd.ntmps50
    go_wp2_with fail
    go_ret
    exact ⟨rfl, Below.refl _ _⟩
theorem equalRows_50 {e : Nat} (A1 : Option Addr) (c1 : Nat) (xs : List (List Int)) (A2 : Option Addr) (c2 : Nat) (ys : List (List Int)) (w : World) (h1 : (Kd.slice e (Kd.int .i64)).C w A1 xs.length xs) (h2 : (Kd.slice e (Kd.int .i64)).C w A2 ys.length ys) :
    Calls Tryd.prog 50 #[.slice A1 xs.length c1, .slice A2 ys.length c2, .func (.func 51) #[] #[]] w fun e w' => e = .returned (.bool (decide (xs = ys))) ∧ Below w.heap.size w w' := by
  obtain ⟨vs, hE, hl, hv⟩ := elems_row h1
  obtain ⟨us, hU, hm, hu⟩ := elems_row h2
  have h := equalFunc_50 51 A1 c1 vs A2 c2 us (fun j => decide (xs.getD j [] = ys.getD j [])) w hE hU enters_51 (by
    intro j hj hj2 w' hb
    obtain ⟨B1, k1, e1, q1, r1⟩ := hv j hj (by omega)
    obtain ⟨B2, k2, e2, q2, r2⟩ := hu j hj2 (by omega)
    rw [e1, e2]
    dsimp only
    rw [List.getD_eq_getElem?_getD, List.getElem?_eq_getElem (by omega : j < xs.length), List.getD_eq_getElem?_getD, List.getElem?_eq_getElem (by omega : j < ys.length)]
    exact equal_51 B1 k1 _ B2 k2 _ w' (Kd.C_below r1 hb) q1 (Kd.C_below r2 hb) q2)
  rw [hl, hm] at h
  rw [rows_eq xs ys] at h
  exact h

theorem equal_l_53 (xs ys : List Int) (hl : xs.length = ys.length) (hs : xs.length ≤ 9223372036854775807) : ∀ (d i k : Nat), xs.length - i = d → d < k → i ≤ xs.length → PFileParses.slices_Equal_int64_int64.l0 k xs ys (xs.length : Int) (i : Int) = some (decide (xs.drop i = ys.drop i))
  | 0, i, k, hd, hk, hi => by
    obtain ⟨k, rfl⟩ : ∃ q, k = q + 1 := ⟨k - 1, by omega⟩
    rw [PFileParses.slices_Equal_int64_int64.l0, if_neg (by omega), List.drop_eq_nil_of_le (by omega), List.drop_eq_nil_of_le (by omega)]
    rfl
  | d + 1, i, k, hd, hk, hi => by
    obtain ⟨k, rfl⟩ : ∃ q, k = q + 1 := ⟨k - 1, by omega⟩
    have hw : wrap64 ((i : Int) + 1) = ((i + 1 : Nat) : Int) := by rw [wrap_id (by omega) (by omega)]; omega
    have h1 : i < xs.length := by omega
    have h2 : i < ys.length := by omega
    rw [PFileParses.slices_Equal_int64_int64.l0, if_pos (by omega), if_pos (by omega), if_pos (by omega), if_pos (by omega), rd_at xs i h1, rd_at ys i h2, hw, equal_l_53 xs ys hl hs d (i + 1) k (by omega) (by omega) (by omega), List.drop_eq_getElem_cons h1, List.drop_eq_getElem_cons h2]
    by_cases h : xs[i]'h1 = ys[i]'h2
    · rw [if_pos h, h]
      congr 1
      rw [decide_eq_decide]
      exact ⟨fun e => by rw [e], fun e => (List.cons.inj e).2⟩
    · rw [if_neg h]
      congr 1
      exact (decide_eq_false (fun e => h (List.cons.inj e).1)).symm
theorem equal_53 (A1 : Option Addr) (c1 : Nat) (xs : List Int) (A2 : Option Addr) (c2 : Nat) (ys : List Int) (w : World) (h1 : (Kd.int .i64).C w A1 xs.length xs) (l1 : xs.length ≤ c1) (h2 : (Kd.int .i64).C w A2 ys.length ys) (l2 : ys.length ≤ c2) :
    Calls Tryd.prog 53 #[.slice A1 xs.length c1, .slice A2 ys.length c2] w fun e w' => e = .returned (.bool (decide (xs = ys))) ∧ Below w.heap.size w w' := by
  have hf : PFileParses.slices_Equal_int64_int64.f (xs.length + 1) xs ys = some (decide (xs = ys)) := by
    unfold PFileParses.slices_Equal_int64_int64.f
    by_cases hl : xs.length = ys.length
    · rw [if_pos (by omega)]
      exact equal_l_53 xs ys hl h1.2.1 xs.length 0 _ rfl (by omega) (by omega)
    · rw [if_neg (by omega), decide_eq_false (fun e => hl (by rw [e]))]
  refine (PFileParses.slices_Equal_int64_int64.calls _ A1 c1 xs A2 c2 ys _ w h1 l1 h2 l2 hf).mono ?_
  rintro e w' ⟨rfl, hd⟩
  exact ⟨rfl, below_drawn0 hd⟩

set_option maxHeartbeats 1000000 in
theorem equalFunc_52 (F : Nat) (A1 : Option Addr) (c1 : Nat) (vs : List Value) (A2 : Option Addr) (c2 : Nat) (us : List Value) (p : Nat → Bool) (w : World) (hE : Elems w A1 vs.length vs) (hU : Elems w A2 us.length us) (hF : Enters F) (hP : PredTwo F w vs us p) :
    Calls Tryd.prog 52 #[.slice A1 vs.length c1, .slice A2 us.length c2, .func (.func F) #[] #[]] w fun e w' => e = .returned (.bool (decide (vs.length = us.length) && (List.range vs.length).all p)) ∧ Below w.heap.size w w' := by
  have hsm := hE.small
  have hsu := hU.small
  have HE := Lib.hid hE
  have HU := Lib.hid hU
  have HP := Lib.hid hP
  clear hE hP hU
  by_cases hl : vs.length = us.length
  · have hb : ((vs.length : Int) != (us.length : Int)) = false := by simp; omega
    have hb' : decide (vs.length = us.length) = true := decide_eq_true hl
    have hlu : vs.length ≤ us.length := by omega
    have HL := Lib.hid hl
    have HBB := Lib.hid hb'
    clear hl hb'
    go_enter Tryd.func52, Tryd.ntmps52
    go_wp2_with fail
    go_loopw [7, 8, 9, 17] (fun _ _ _ i wr => ∃ k : Nat, k ≤ vs.length ∧ i = .int .i64 k ∧ (∀ j, j < k → p j = true) ∧ Below w.heap.size w wr) (fun _ _ _ i _ => vs.length - (intOf i).toNat)
    case atStart => exact ⟨0, Nat.zero_le _, rfl, fun j hj => absurd hj (Nat.not_lt_zero _), Below.refl _ _⟩
    case round =>
      obtain ⟨k, hk, rfl, hno, hB⟩ := hrel
      have HN := Lib.hid hno
      have HB := Lib.hid hB
      clear hno hB
      by_cases hlt : k < vs.length
      · have hlt2 : k < us.length := by omega
        obtain ⟨ad, rfl, hc⟩ := (HE.out.below HB.out).at_ k hlt
        obtain ⟨ad2, rfl, hc2⟩ := (HU.out.below HB.out).at_ k hlt2
        obtain ⟨v, hv⟩ : ∃ v, v = vs[k]'hlt := ⟨_, rfl⟩
        obtain ⟨u, hu⟩ : ∃ u, u = us[k]'hlt2 := ⟨_, rfl⟩
        rw [← hv] at hc
        rw [← hu] at hc2
        have hC := HP.out k hlt hlt2 wr HB.out
        rw [← hv, ← hu] at hC
        obtain ⟨b, hb3⟩ : ∃ b, p k = b := ⟨_, rfl⟩
        rw [hb3] at hC
        have HC := Lib.hid hC
        have HBK := Lib.hid hb3
        clear hC hv hu hb3
        have hf := hF #[v, u]
        go_wp2_with fail
        refine HC.out.mono ?_
        rintro e w2 ⟨rfl, hb2⟩
        have HB2 := Lib.hid (HB.out.trans (hb2.mono HB.out.size))
        clear hb2 hc hc2 hf
        cases b
        · go_wp2_with fail
          go_ret
          exact ⟨by rw [all_miss hlt HBK.out, Bool.and_false]; rfl, HB2.out⟩
        · go_wp2_with fail
          go_roundw
          case rel =>
            refine ⟨k + 1, by omega, by go_num, fun j hj => ?_, HB2.out⟩
            by_cases hjk : j < k
            · exact HN.out j hjk
            · have : j = k := by omega
              rw [this]
              exact HBK.out
          case measure => simp [intOf]; omega
      · go_wp2_with fail
        go_ret
        exact ⟨by rw [all_hit (fun j hj => HN.out j (by omega)), HBB.out]; rfl, HB.out⟩
  · have hb : ((vs.length : Int) != (us.length : Int)) = true := by simp; omega
    have hb' : decide (vs.length = us.length) = false := decide_eq_false hl
    rw [hb', Bool.false_and]
    clear hl hb'
    go_enter Tryd.func52, Tryd.ntmps52
    go_wp2_with fail
    go_ret
    exact ⟨rfl, Below.refl _ _⟩
theorem equalRows_52 {e : Nat} (A1 : Option Addr) (c1 : Nat) (xs : List (List Int)) (A2 : Option Addr) (c2 : Nat) (ys : List (List Int)) (w : World) (h1 : (Kd.slice e (Kd.int .i64)).C w A1 xs.length xs) (h2 : (Kd.slice e (Kd.int .i64)).C w A2 ys.length ys) :
    Calls Tryd.prog 52 #[.slice A1 xs.length c1, .slice A2 ys.length c2, .func (.func 53) #[] #[]] w fun e w' => e = .returned (.bool (decide (xs = ys))) ∧ Below w.heap.size w w' := by
  obtain ⟨vs, hE, hl, hv⟩ := elems_row h1
  obtain ⟨us, hU, hm, hu⟩ := elems_row h2
  have h := equalFunc_52 53 A1 c1 vs A2 c2 us (fun j => decide (xs.getD j [] = ys.getD j [])) w hE hU enters_53 (by
    intro j hj hj2 w' hb
    obtain ⟨B1, k1, e1, q1, r1⟩ := hv j hj (by omega)
    obtain ⟨B2, k2, e2, q2, r2⟩ := hu j hj2 (by omega)
    rw [e1, e2]
    dsimp only
    rw [List.getD_eq_getElem?_getD, List.getElem?_eq_getElem (by omega : j < xs.length), List.getD_eq_getElem?_getD, List.getElem?_eq_getElem (by omega : j < ys.length)]
    exact equal_53 B1 k1 _ B2 k2 _ w' (Kd.C_below r1 hb) q1 (Kd.C_below r2 hb) q2)
  rw [hl, hm] at h
  rw [rows_eq xs ys] at h
  exact h

def sameB (p q : Pl) : Bool := decide (p.routes = q.routes) && decide (p.times = q.times) && decide (p.left = q.left) && decide (p.cost = q.cost)
theorem sameB_iff (p q : Pl) : sameB p q = true ↔ p = q := by
  unfold sameB
  simp only [Bool.and_eq_true, decide_eq_true_eq]
  constructor
  · rintro ⟨⟨⟨h1, h2⟩, h3⟩, h4⟩
    cases p; cases q
    simp_all
  · rintro rfl
    exact ⟨⟨⟨rfl, rfl⟩, rfl⟩, rfl⟩
set_option maxHeartbeats 4000000 in
theorem same_c (rv tv lv : Value) (p : Pl) (rv' tv' lv' : Value) (q : Pl) (w : World) (hp : PlanAt rv tv lv p w) (hq : PlanAt rv' tv' lv' q w) :
    Calls Tryd.prog 19 #[.agg #[rv, tv, lv, .int .i64 p.cost], .agg #[rv', tv', lv', .int .i64 q.cost]] w fun e w' => e = .returned (.bool (sameB p q)) ∧ Below w.heap.size w w' := by
  obtain ⟨⟨A1, c1, rfl, l1, h1⟩, ⟨A2, c2, rfl, l2, h2⟩, ⟨A3, c3, rfl, l3, h3⟩⟩ := hp
  obtain ⟨⟨B1, d1, rfl, m1, g1⟩, ⟨B2, d2, rfl, m2, g2⟩, ⟨B3, d3, rfl, m3, g3⟩⟩ := hq
  obtain ⟨W, hW⟩ : ∃ W, W = (w.alloc (.cells #[.slice A1 p.routes.length c1, .slice A2 p.times.length c2, .slice A3 p.left.length c3, .int .i64 p.cost] 27)).alloc (.cells #[.slice B1 q.routes.length d1, .slice B2 q.times.length d2, .slice B3 q.left.length d3, .int .i64 q.cost] 27) := ⟨_, rfl⟩
  have hB : Below w.heap.size w W := by rw [hW]; exact ((Below.refl w.heap.size w).alloc (Nat.le_refl _) _).alloc (by simp) _
  have hn : W.heap[w.heap.size]? = some (.cells #[.slice A1 p.routes.length c1, .slice A2 p.times.length c2, .slice A3 p.left.length c3, .int .i64 p.cost] 27 (0, 0)) := by
    rw [hW, Below.heap_alloc _ _ _ (by simp)]
    exact heap_alloc_new w _
  have hn2 : W.heap[w.heap.size + 1]? = some (.cells #[.slice B1 q.routes.length d1, .slice B2 q.times.length d2, .slice B3 q.left.length d3, .int .i64 q.cost] 27 (0, 0)) := by
    rw [hW]
    have := heap_alloc_new (w.alloc (.cells #[.slice A1 p.routes.length c1, .slice A2 p.times.length c2, .slice A3 p.left.length c3, .int .i64 p.cost] 27)) (.cells #[.slice B1 q.routes.length d1, .slice B2 q.times.length d2, .slice B3 q.left.length d3, .int .i64 q.cost] 27)
    simpa using this
  have hsz : w.heap.size + 1 < W.heap.size := by rw [hW]; simp
  have hX := equalRows_50 A1 c1 p.routes B1 d1 q.routes W (Kd.C_below h1 hB) (Kd.C_below g1 hB)
  have hY := fun w' (hb : Below W.heap.size W w') => equalRows_52 A2 c2 p.times B2 d2 q.times w' (Kd.C_below (Kd.C_below h2 hB) hb) (Kd.C_below (Kd.C_below g2 hB) hb)
  have hZ := fun w' (hb : Below W.heap.size W w') => equal_51 A3 c3 p.left B3 d3 q.left w' (Kd.C_below (Kd.C_below h3 hB) hb) l3 (Kd.C_below (Kd.C_below g3 hB) hb) m3
  have hs : sameB p q = (decide (p.routes = q.routes) && decide (p.times = q.times) && decide (p.left = q.left) && decide (p.cost = q.cost)) := rfl
  rw [hs]
  obtain ⟨bR, hR⟩ : ∃ b, decide (p.routes = q.routes) = b := ⟨_, rfl⟩
  obtain ⟨bT, hT⟩ : ∃ b, decide (p.times = q.times) = b := ⟨_, rfl⟩
  obtain ⟨bL, hL⟩ : ∃ b, decide (p.left = q.left) = b := ⟨_, rfl⟩
  have hce : decide (p.cost = q.cost) = (p.cost == q.cost) := by rw [Bool.eq_iff_iff]; simp
  rw [hR] at hX ⊢
  rw [hT] at hY ⊢
  rw [hL] at hZ ⊢
  rw [hce]
  have HX := Lib.hid hX
  have HY := Lib.hid hY
  have HZ := Lib.hid hZ
  have HN := Lib.hid hn
  have HN2 := Lib.hid hn2
  have HB := Lib.hid hB
  have HW := Lib.hid hW
  have hbox : ∀ w', Below W.heap.size W w' → w'.cell? ⟨w.heap.size, 1, none⟩ = some (.slice A2 p.times.length c2) ∧ w'.cell? ⟨w.heap.size, 2, none⟩ = some (.slice A3 p.left.length c3) ∧ w'.cell? ⟨w.heap.size, 3, none⟩ = some (.int .i64 p.cost) ∧
      w'.cell? ⟨w.heap.size + 1, 1, none⟩ = some (.slice B2 q.times.length d2) ∧ w'.cell? ⟨w.heap.size + 1, 2, none⟩ = some (.slice B3 q.left.length d3) ∧ w'.cell? ⟨w.heap.size + 1, 3, none⟩ = some (.int .i64 q.cost) := by
    intro w' hb
    have k1 := (hb.block _ (by omega)).trans hn
    have k2 := (hb.block _ hsz).trans hn2
    exact ⟨cell_of_heap k1 1 rfl, cell_of_heap k1 2 rfl, cell_of_heap k1 3 rfl, cell_of_heap k2 1 rfl, cell_of_heap k2 2 rfl, cell_of_heap k2 3 rfl⟩
  have HBX := Lib.hid hbox
  have n0 := cell_of_heap hn 0 rfl
  have n1 := cell_of_heap hn2 0 rfl
  clear hX hY hZ hn hn2 hB hW hbox hR hT hL hce hs h1 h2 h3 g1 g2 g3
  go_enter Tryd.func19, Tryd.ntmps19
  go_upto_region 1 with fail
  rw [← HW.out]
  go_wp2_with fail
  refine HX.out.mono ?_
  rintro e w2 ⟨rfl, hb2⟩
  have HB2 := Lib.hid hb2
  clear hb2 n0 n1
  cases bR
  · go_wp2_with fail
    go_ret
    exact ⟨rfl, HB.out.trans (HB2.out.mono (by omega))⟩
  · obtain ⟨a1, a2, a3, a4, a5, a6⟩ := HBX.out w2 HB2.out
    go_wp2_with fail
    refine (HY.out w2 HB2.out).mono ?_
    rintro e w3 ⟨rfl, hb3⟩
    have hb23 := HB2.out.trans (hb3.mono HB2.out.size)
    have HB3 := Lib.hid hb23
    clear hb3 hb23 a1 a2 a3 a4 a5 a6
    cases bT
    · go_wp2_with fail
      go_ret
      exact ⟨rfl, HB.out.trans (HB3.out.mono (by omega))⟩
    · obtain ⟨a1, a2, a3, a4, a5, a6⟩ := HBX.out w3 HB3.out
      go_wp2_with fail
      refine (HZ.out w3 HB3.out).mono ?_
      rintro e w4 ⟨rfl, hb4⟩
      have hb24 := HB3.out.trans (hb4.mono HB3.out.size)
      have HB4 := Lib.hid hb24
      clear hb4 hb24 a1 a2 a3 a4 a5 a6
      cases bL
      · go_wp2_with fail
        go_ret
        exact ⟨rfl, HB.out.trans (HB4.out.mono (by omega))⟩
      · obtain ⟨a1, a2, a3, a4, a5, a6⟩ := HBX.out w4 HB4.out
        go_wp2_with fail
        go_ret
        exact ⟨rfl, HB.out.trans (HB4.out.mono (by omega))⟩
end Go.Proofs.YtdgifgdadminbaaDoor
