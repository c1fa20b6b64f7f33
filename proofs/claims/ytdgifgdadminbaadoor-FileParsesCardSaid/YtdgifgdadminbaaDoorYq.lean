/- FileParses: its walk. Written by this session. -/
import Derived.Test.YtdgifgdadminbaaDoorZz
import Derived.Test.YtdgifgdadminbaaDoorYf
set_option linter.unusedSimpArgs false
set_option linter.unusedVariables false
set_option maxRecDepth 100000
namespace Go.Proofs.YtdgifgdadminbaaDoor
open Go.RowKit Go.Proofs.YtdgifgdadminbaaDoorW.PrintWords Sp
open PFileParses (wrap_id ba_len toList_data info3 info2 info9 rd_L1 rd_L2 at_L1 at_L2)

theorem parse_two (s : ByteArray) (w : World) (hE : Env w) (hs : s.size < 4294967281) :
    Calls Tryd.prog 12 #[.string s] w fun e w' => match parseS s with
      | .error x => e = .returned (.tuple #[.agg #[.slice none 0 0, .slice none 0 0, .slice none 0 0, .int .i64 0], .int .i64 x.1, .int .i64 x.2]) ∧ Below w.heap.size w w'
      | .ok p => ∃ A1 c1 A2 c2 A3 c3, e = .returned (.tuple #[.agg #[.slice A1 p.routes.length c1, .slice A2 p.times.length c2, .slice A3 p.left.length c3, .int .i64 p.cost], .int .i64 0, .int .i64 0]) ∧
          PlanR w.heap.size (.slice A1 p.routes.length c1) (.slice A2 p.times.length c2) (.slice A3 p.left.length c3) p w' ∧ Below w.heap.size w w' := by
  cases h : parseS s with
  | error x => exact parse_err h w hE hs
  | ok p => exact parse_ok h w hE hs

def flatS (s : ByteArray) : Pl × Int × Int := match parseS s with
  | .error x => (⟨[], [], [], 0⟩, x.1, x.2)
  | .ok p => (p, 0, 0)
structure Small (p : Pl) : Prop where
  r : p.routes.length ≤ 4096
  t : p.times.length ≤ 4096
  l : p.left.length ≤ 4096
  rr : ∀ x ∈ p.routes, x.length ≤ 4096
  tt : ∀ x ∈ p.times, x.length ≤ 4096
theorem small_of_good {p : Pl} (h : Good p) : Small p := by
  have h64 := h.cars
  refine ⟨by omega, by rw [h.len]; omega, h.lefts, h.rows, fun x hx => ?_⟩
  rw [← h.snd] at hx
  obtain ⟨y, hy, rfl⟩ := List.mem_map.1 hx
  have h1 := h.rows y.1 (Good.mem_pairs hy).1
  rcases (h.pair y hy).2 with e | e
  · omega
  · rw [e]; simp
theorem flat_small (s : ByteArray) : Small (flatS s).1 := by
  unfold flatS
  cases h : parseS s with
  | error x => exact ⟨by simp, by simp, by simp, by simp, by simp⟩
  | ok p => exact small_of_good (parseS_inv h).1
def flatQ (s : ByteArray) (w : World) (e : Ending) (w' : World) : Prop := ∃ A1 c1 A2 c2 A3 c3,
    e = .returned (.tuple #[.agg #[.slice A1 (flatS s).1.routes.length c1, .slice A2 (flatS s).1.times.length c2, .slice A3 (flatS s).1.left.length c3, .int .i64 (flatS s).1.cost], .int .i64 (flatS s).2.1, .int .i64 (flatS s).2.2]) ∧
      PlanAt (.slice A1 (flatS s).1.routes.length c1) (.slice A2 (flatS s).1.times.length c2) (.slice A3 (flatS s).1.left.length c3) (flatS s).1 w' ∧ Below w.heap.size w w'
theorem planAt_nil (w : World) : PlanAt (.slice none 0 0) (.slice none 0 0) (.slice none 0 0) ⟨[], [], [], 0⟩ w :=
  ⟨⟨none, 0, rfl, Nat.le_refl _, C_nil _ _ _⟩, ⟨none, 0, rfl, Nat.le_refl _, C_nil _ _ _⟩, ⟨none, 0, rfl, Nat.le_refl _, C_nil _ _ _⟩⟩
theorem parse_flat (s : ByteArray) (w : World) (hE : Env w) (hs : s.size < 4294967281) : Calls Tryd.prog 12 #[.string s] w fun e w' => flatQ s w e w' := by
  refine (parse_two s w hE hs).mono ?_
  intro e w' h
  unfold flatQ flatS
  cases hp : parseS s with
  | error x =>
    rw [hp] at h
    exact ⟨none, 0, none, 0, none, 0, h.1, planAt_nil w', h.2⟩
  | ok p =>
    rw [hp] at h
    obtain ⟨A1, c1, A2, c2, A3, c3, he, hr, hb⟩ := h
    exact ⟨A1, c1, A2, c2, A3, c3, he, hr.at_, hb⟩
theorem refParse_flat (s : ByteArray) (w : World) : Calls Tryd.prog 13 #[.string s] w fun e w' => flatQ s w e w' := by
  refine (refParse_c s w).mono ?_
  intro e w' h
  unfold flatQ flatS
  unfold refQ at h
  cases hp : parseS s with
  | error x =>
    rw [hp] at h
    exact ⟨none, 0, none, 0, none, 0, h.1, planAt_nil w', h.2⟩
  | ok p =>
    rw [hp] at h
    obtain ⟨A1, c1, A2, c2, A3, c3, he, hr, hb⟩ := h
    exact ⟨A1, c1, A2, c2, A3, c3, he, hr.at_, hb⟩

set_option maxHeartbeats 16000000 in
theorem fileParses_walk (t : ByteArray) (w : World) (hE : Env w) :
    Calls Tryd.prog 3 #[.string t] w fun e w' => e = .returned (.bool true) ∧ Below w.heap.size w w' := by
  have h3s := hE.size
  have HA := Lib.hid (alive_c w hE)
  have HE := Lib.hid hE
  clear hE
  go_enter Tryd.func3, Tryd.ntmps3
  go_wp2_with fail
  refine HA.out.mono ?_
  rintro e w1 ⟨rfl, hb1⟩
  have HB1 := Lib.hid hb1
  have hz1 := hb1.size
  clear hb1
  by_cases hlong : 3000 < t.size
  · have hb : decide ((3000 : Int) < (t.size : Int)) = true := decide_eq_true (by omega)
    go_wp2_with fail
    go_ret
    exact ⟨rfl, HB1.out⟩
  · have hb : decide ((3000 : Int) < (t.size : Int)) = false := decide_eq_false (by omega)
    have hP := parse_flat t w1 (HE.out.below HB1.out h3s) (by omega)
    have hS := flat_small t
    obtain ⟨p, l, er, hf⟩ : ∃ p l er, flatS t = (p, l, er) := ⟨_, _, _, rfl⟩
    have hQ := fun W => refParse_flat t W
    unfold flatQ at hP hQ
    rw [hf] at hP hS
    simp only [hf] at hQ
    dsimp only at hP hS
    have HP := Lib.hid hP
    have HQ := Lib.hid hQ
    have HS := Lib.hid hS
    clear hP hQ hf hS hlong
    go_wp2_with fail
    refine HP.out.mono ?_
    rintro e w2 ⟨A1, c1, A2, c2, A3, c3, rfl, hp, hb2⟩
    have hz2 := hb2.size
    go_upto_region 6 with fail
    obtain ⟨W2, hW2⟩ : ∃ W, W = w2.alloc (.cells #[.slice A1 p.routes.length c1, .slice A2 p.times.length c2, .slice A3 p.left.length c3, .int .i64 p.cost] 27) := ⟨_, rfl⟩
    rw [← hW2]
    have hbW2 : Below w2.heap.size w2 W2 := by rw [hW2]; exact (Below.refl _ _).alloc (Nat.le_refl _) _
    have hn2 : W2.heap[w2.heap.size]? = some (.cells #[.slice A1 p.routes.length c1, .slice A2 p.times.length c2, .slice A3 p.left.length c3, .int .i64 p.cost] 27 (0, 0)) := by rw [hW2]; exact heap_alloc_new w2 _
    have hzW2 : w2.heap.size < W2.heap.size := by rw [hW2]; simp
    have HB2 := Lib.hid (HB1.out.trans ((hb2.mono hz1).trans (hbW2.mono (by omega))))
    have HPA := Lib.hid (show PlanAt _ _ _ _ W2 from hp.below hbW2)
    have HN2 := Lib.hid hn2
    clear hW2 hbW2 hn2 hp hb2 HP
    go_wp2_with fail
    refine (HQ.out W2).mono ?_
    rintro e w3 ⟨B1, d1, B2, d2, B3, d3, rfl, hq, hb3⟩
    have hz3 := hb3.size
    go_upto_region 7 with fail
    obtain ⟨W3, hW3⟩ : ∃ W, W = w3.alloc (.cells #[.slice B1 p.routes.length d1, .slice B2 p.times.length d2, .slice B3 p.left.length d3, .int .i64 p.cost] 31) := ⟨_, rfl⟩
    rw [← hW3]
    have hbW3 : Below w3.heap.size w3 W3 := by rw [hW3]; exact (Below.refl _ _).alloc (Nat.le_refl _) _
    have hn3 : W3.heap[w3.heap.size]? = some (.cells #[.slice B1 p.routes.length d1, .slice B2 p.times.length d2, .slice B3 p.left.length d3, .int .i64 p.cost] 31 (0, 0)) := by rw [hW3]; exact heap_alloc_new w3 _
    have hzW3 : w3.heap.size < W3.heap.size := by rw [hW3]; simp
    have hb23 := hb3.trans (hbW3.mono (by omega))
    have HB3 := Lib.hid (HB2.out.trans (hb23.mono (by omega)))
    have hpa := HPA.out.below hb23
    have hqa : PlanAt _ _ _ _ W3 := hq.below hbW3
    have hn2 := (hb23.block w2.heap.size (by omega)).trans HN2.out
    have HN3 := Lib.hid hn3
    have HN2' := Lib.hid hn2
    have HSM := Lib.hid (fun w' (hb : Below W3.heap.size W3 w') => sameR_c _ _ _ _ _ _ p w' (hpa.below hb) (hqa.below hb) 4096 (by omega) HS.out.r HS.out.t HS.out.l HS.out.rr HS.out.tt)
    have HAS := Lib.hid (fun w' => as_c A1 p.routes.length c1 A2 p.times.length c2 A3 p.left.length c3 p.cost w')
    have k1 : (er == er) = true := beq_self_eq_true _
    have k2 : (l == l) = true := beq_self_eq_true _
    obtain ⟨a0, a1, a2, a3⟩ := box_below hn2 (Below.refl _ _)
    have b0 := cell_of_heap hn3 0 rfl
    have b1 := cell_of_heap hn3 1 rfl
    have b2 := cell_of_heap hn3 2 rfl
    have b3 := cell_of_heap hn3 3 rfl
    clear hW3 hbW3 hn3 hn2 hb3 hb23 hpa hqa hq HQ HPA HN2
    go_region_law (first | (go_simp; go_at_call 15; refine (HAS.out _).mono ?_; rintro e wA ⟨rfl, hbA⟩; have hbA3 := (drewB W3).trans hbA; have c0 := cell_below b0 hbA3; have c1 := cell_below b1 hbA3; have c2 := cell_below b2 hbA3; have c3 := cell_below b3 hbA3) | (go_simp; go_at_call 14; refine (HSM.out _ hbA3).mono ?_; rintro e wB ⟨rfl, hbB⟩))
    all_goals
      go_wp2_with fail
      go_ret
      exact ⟨rfl, HB3.out.trans ((hbA3.trans (hbB.mono hbA3.size)).mono HB3.out.size)⟩
end Go.Proofs.YtdgifgdadminbaaDoor
