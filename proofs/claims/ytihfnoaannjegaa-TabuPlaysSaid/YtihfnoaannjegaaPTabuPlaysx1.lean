-- PRINTED BY print.sh 35421559b90ae4d0a3588c463048766b98c2df88dd9212a6774a882060cdf62d: not written by this session
import Derived.Test.YtihfnoaannjegaaPTabuPlaysx0
namespace Go.Proofs.Ytihfnoaannjegaa.PTabuPlays
open Go.RowKit Go.Proofs.YtihfnoaannjegaaW.PrintWords Go.Proofs.YtihfnoaannjegaaW.PrintLast Go.Proofs.YtihfnoaannjegaaW.PrintMore
attribute [local go_sem] max2_int min2_int max_two min_two max_three min_three max_four min_four   -- for this text's walks alone
set_option linter.unusedVariables false
set_option linter.unusedSimpArgs false

-- NOT PRINTED: function 9 (tabu_Table_Forbid)

-- NOT PRINTED: function 21 (tabu_pair_int)

-- NOT PRINTED: function 11 (tabu_Table_Sweep)

-- NOT PRINTED: function 13 (tabu_Table_Is)

-- NOT PRINTED: function 15 (tabu_Table_Count)

/-- A state of type 39 at block g of W; what its slices lead to came in by w0. -/
def IsS39 (w0 W : World) (g : Nat) (f0 : Int) : Prop := W.heap[g]? = some (.cells #[.int .i64 f0] 39 (0, 0)) ∧ w0.heap.size ≤ g
theorem IsS39.grown {w0 W : World} {g : Nat} {f0 : Int} {W1 : World} {row : Option Nat} (h : IsS39 w0 W g f0) (hw : W.grownBy W1 row) (hne : some g ≠ row) : IsS39 w0 W1 g f0 := by
  obtain ⟨hb, hg⟩ := h
  exact ⟨blk_grown hb hw hne, hg⟩
theorem IsS39.own_neN {w0 W : World} {g : Nat} {f0 : Int} {α : Type} {d : Kd α} {e : Nat} {base : Nat} {ok : Nat → Prop} {v : Value} {xs : List α} (h : IsS39 w0 W g f0) (ho : Kd.N d e W base ok v xs) (ht : e ≠ 39) : some g ≠ v.ownBlock := by
  obtain ⟨hb, hg⟩ := h
  exact Kd.N_ne ho hb ht
theorem IsS39.fresh {w0 W : World} {g : Nat} {f0 : Int} (h : IsS39 w0 W g f0) : ∀ k, W.heap.size ≤ k → k ≠ g := by
  obtain ⟨hb, hg⟩ := h
  exact Kd.freshB hb
theorem IsS39.kept {w0 W : World} {g : Nat} {f0 : Int} {W1 : World} {S : Nat → Prop} (h : IsS39 w0 W g f0) (hk : Kept W W1 S) (hne : ¬ S g) : IsS39 w0 W1 g f0 := by
  obtain ⟨hb, hg⟩ := h
  exact ⟨blk_kept hb hk hne, hg⟩
theorem IsS39.below {w0 W : World} {g : Nat} {f0 : Int} {W1 : World} (h : IsS39 w0 W g f0) (hw : Below W.heap.size W W1) : IsS39 w0 W1 g f0 := h.grown (grown_of_below hw none) (by simp)
theorem IsS39.alloc {w0 W : World} {g : Nat} {f0 : Int} (h : IsS39 w0 W g f0) (o : Obj) : IsS39 w0 (W.alloc o) g f0 := h.below (below_alloc (Below.refl _ _) o)
theorem IsS39.drewN {w0 W : World} {g : Nat} {f0 : Int} (h : IsS39 w0 W g f0) (m : Nat) : IsS39 w0 (W.drewN m) g f0 := h
theorem IsS39.drew {w0 W : World} {g : Nat} {f0 : Int} (h : IsS39 w0 W g f0) : IsS39 w0 W.drew g f0 := h
theorem IsS39.at_ {w0 W : World} {g : Nat} {f0 : Int} {w' : World} {m : Nat} (hq : W.drewN m = w') (h : IsS39 w0 W g f0) : IsS39 w0 w' g f0 := by subst hq; exact IsS39.drewN h m
theorem IsS39.apart {w0 W : World} {g : Nat} {f0 : Int} {α : Type} {d : Kd α} {e : Nat} {base : Nat} {ok : Nat → Prop} {v : Value} {xs : List α} (h : IsS39 w0 W g f0) (ho : d.R e W base ok v xs) (ht : ∀ q, q ∈ e :: d.E → q ≠ 39) : d.R e W base (fun k => ok k ∧ k ≠ g) v xs := by
  obtain ⟨hb, hg⟩ := h
  exact Kd.R_types ho hb ht
theorem IsS39.own_ne {w0 W : World} {g : Nat} {f0 : Int} {α : Type} {d : Kd α} {e : Nat} {base : Nat} {ok : Nat → Prop} {v : Value} {xs : List α} (h : IsS39 w0 W g f0) (ho : d.R e W base ok v xs) (ht : e ≠ 39) : some g ≠ v.ownBlock := by
  obtain ⟨hb, hg⟩ := h
  exact Kd.R_ne ho hb ht
theorem IsS39.apartQ {w0 W : World} {g : Nat} {f0 : Int} {α : Type} {d : Kd α} {e : Nat} {base : Nat} {ok : Nat → Prop} {v : Value} {xs : List α} (h : IsS39 w0 W g f0) (ho : d.Q e W base ok v xs) (ht : ∀ q, q ∈ e :: d.E → q ≠ 39) : d.Q e W base (fun k => ok k ∧ k ≠ g) v xs := by
  obtain ⟨hb, hg⟩ := h
  exact Kd.Q_types ho hb ht
theorem IsS39.own_neQ {w0 W : World} {g : Nat} {f0 : Int} {α : Type} {d : Kd α} {e : Nat} {base : Nat} {ok : Nat → Prop} {v : Value} {xs : List α} (h : IsS39 w0 W g f0) (ho : d.Q e W base ok v xs) (ht : e ≠ 39) : some g ≠ v.ownBlock := by
  obtain ⟨hb, hg⟩ := h
  exact Kd.Q_ne ho hb ht
theorem IsS39.apartS {w0 W : World} {g : Nat} {f0 : Int} {α : Type} {d : Kd α} {e : Nat} {base : Nat} {ok : Nat → Prop} {v : Value} {xs : List α} (h : IsS39 w0 W g f0) (ho : d.S e W base ok v xs) (ht : ∀ q, q ∈ e :: d.E → q ≠ 39) : d.S e W base (fun k => ok k ∧ k ≠ g) v xs := by
  obtain ⟨hb, hg⟩ := h
  exact Kd.S_types ho hb ht
theorem IsS39.own_neS {w0 W : World} {g : Nat} {f0 : Int} {α : Type} {d : Kd α} {e : Nat} {base : Nat} {ok : Nat → Prop} {v : Value} {xs : List α} (h : IsS39 w0 W g f0) (ho : d.S e W base ok v xs) (ht : e ≠ 39) : some g ≠ v.ownBlock := by
  obtain ⟨hb, hg⟩ := h
  exact Kd.S_ne ho hb ht
theorem IsS39.lt {w0 W : World} {g : Nat} {f0 : Int} (h : IsS39 w0 W g f0) : g < W.heap.size := by
  obtain ⟨hb, hg⟩ := h
  exact blk_lt hb
theorem IsS39.ge {w0 W : World} {g : Nat} {f0 : Int} (h : IsS39 w0 W g f0) : w0.heap.size ≤ g := by
  obtain ⟨hb, hg⟩ := h
  exact hg
theorem IsS39.ne_blk {w0 W : World} {g : Nat} {f0 : Int} {a : Nat} {cs : Array Value} {t : TypeId} {fr : Nat × Nat} (h : IsS39 w0 W g f0) (hb2 : W.heap[a]? = some (.cells cs t fr)) (ht : t ≠ 39) : g ≠ a := by
  obtain ⟨hb, hg⟩ := h
  rintro rfl
  rw [hb] at hb2
  injection hb2 with hb2
  injection hb2 with _ ht2
  exact ht ht2.symm
theorem IsS39.far {w0 W : World} {g : Nat} {f0 : Int} {p : Addr} (h : IsS39 w0 W g f0) (hne : g ≠ p.block) (u : Value) : IsS39 w0 (W.setCell p u) g f0 := by
  obtain ⟨hb, hg⟩ := h
  exact ⟨blk_far hb hne u, hg⟩
theorem cellS39_0 {W : World} {g : Nat} {f0 : Int} (h : W.heap[g]? = some (.cells #[.int .i64 f0] 39 (0, 0))) : W.cell? ⟨g, 0, none⟩ = some (.int .i64 f0) := (blk_cell h 0).trans rfl
theorem IsS39.set_0 {w0 W : World} {g : Nat} {f0 : Int} (h : IsS39 w0 W g f0) (x : Int) : IsS39 w0 (W.setCell ⟨g, 0, none⟩ (.int .i64 x)) g x := by
  obtain ⟨hb, hg⟩ := h
  exact ⟨by simpa using blk_set hb 0 (.int .i64 x), hg⟩
theorem IsS39.new (w0 W : World) (f0 : Int) (hB : Below w0.heap.size w0 W) : IsS39 w0 (W.alloc (.cells #[.int .i64 f0] 39)) W.heap.size f0 := ⟨by simpa using heap_alloc_new W _, hB.size⟩

/-! ### tabu_Weight_Value: function 18 -/
def tabu_Weight_Value.f (s0_0 : Int) : Option (Int × Int) := some (wrap64 (1000 + s0_0), s0_0)
set_option maxHeartbeats 8000000 in
set_option maxRecDepth 100000 in
theorem tabu_Weight_Value.calls (g : Nat) (s0_0 : Int) (r1 : Int) (r2 : Int) (w0 w : World) (hI : IsS39 w0 w g s0_0) (hB : Below w0.heap.size w0 w) (h : tabu_Weight_Value.f s0_0 = some (r1, r2)) :
    Calls Try.prog 18 #[.pointer (some ⟨g, 0, none⟩)] w fun e w' => e = .returned (.int .i64 r1) ∧ IsS39 w0 w' g r2 ∧ Below w0.heap.size w0 w' ∧ KeepBut w w' g none := by
  have HI0 := Aside0.mk hI
  have HK := Aside0.mk (KeepBut.refl w g none)
  have HL := Aside0.mk hB.size
  clear hI
  have HW0 := Aside0.mk hB.size
  have HB := Aside0.mk hB
  clear hB
  have H : (some (wrap64 (1000 + s0_0), s0_0)) = some (r1, r2) := h
  clear h
  simp only [Option.some.injEq, Prod.mk.injEq] at H
  obtain ⟨rfl, rfl⟩ := H
  obtain ⟨HGz2, hgz2⟩ := HI0.out
  have hcz2_0 := cellS39_0 HGz2
  have hfz2_0 := blk_frozen HGz2 0
  clear HGz2 hgz2
  go_enter Try.func18, Try.ntmps18
  go_wp2
  go_ret
  exact ⟨by first | rfl | (simp [errW_none, errW_some] <;> rfl) | (simp [*, errW_none, errW_some] <;> rfl), by repeat (first | (with_reducible first | exact HI0.out | apply IsS39.alloc | apply IsS39.drewN | apply IsS39.drew | apply IsS39.set_0) | exact HI0.out), by repeat (first | (with_reducible first | exact HB.out | apply below_alloc | apply pw_below_drewN | apply below_drew1 | refine below_set ?_ (IsS39.ge HI0.out)) | exact HB.out), by repeat (first | (with_reducible first | exact HK.out | apply KeepBut.set_ | apply keep_drewN | apply keep_drew | apply keep_alloc) | exact HK.out)⟩

/-! ### tabu_Weight_Turn: function 17 -/
def tabu_Weight_Turn.f (s0_0 : Int) (a1 : Bool) : Option (Int × Int) := (tabu_Weight_Value.f s0_0).bind fun bt101 => (if a1 = true then (some (mx (wrap64 (Int.tdiv (wrap64 (bt101.1 * 2)) 3)) 1, wrap64 ((mx (wrap64 (Int.tdiv (wrap64 (bt101.1 * 2)) 3)) 1) - 1000))) else (some (mn (wrap64 ((wrap64 (Int.tdiv (wrap64 (bt101.1 * 3)) 2)) + 1)) 1000000, wrap64 ((mn (wrap64 ((wrap64 (Int.tdiv (wrap64 (bt101.1 * 3)) 2)) + 1)) 1000000) - 1000))))
set_option maxHeartbeats 8000000 in
set_option maxRecDepth 100000 in
theorem tabu_Weight_Turn.calls (g : Nat) (s0_0 : Int) (a1 : Bool) (r1 : Int) (r2 : Int) (w0 w : World) (hI : IsS39 w0 w g s0_0) (hB : Below w0.heap.size w0 w) (h : tabu_Weight_Turn.f s0_0 a1 = some (r1, r2)) :
    Calls Try.prog 17 #[.pointer (some ⟨g, 0, none⟩), .bool a1] w fun e w' => e = .returned (.int .i64 r1) ∧ IsS39 w0 w' g r2 ∧ Below w0.heap.size w0 w' ∧ KeepBut w w' g none := by
  have HI0 := Aside0.mk hI
  have HK := Aside0.mk (KeepBut.refl w g none)
  have HL := Aside0.mk hB.size
  clear hI
  have HW0 := Aside0.mk hB.size
  have HB := Aside0.mk hB
  clear hB
  have H : ((tabu_Weight_Value.f s0_0).bind fun bt101 => (if a1 = true then (some (mx (wrap64 (Int.tdiv (wrap64 (bt101.1 * 2)) 3)) 1, wrap64 ((mx (wrap64 (Int.tdiv (wrap64 (bt101.1 * 2)) 3)) 1) - 1000))) else (some (mn (wrap64 ((wrap64 (Int.tdiv (wrap64 (bt101.1 * 3)) 2)) + 1)) 1000000, wrap64 ((mn (wrap64 ((wrap64 (Int.tdiv (wrap64 (bt101.1 * 3)) 2)) + 1)) 1000000) - 1000))))) = some (r1, r2) := h
  clear h
  replace H := Option.bind_eq_some_iff.mp H
  obtain ⟨⟨t101, t102⟩, A30, H⟩ := H
  replace H : (if a1 = true then (some (mx (wrap64 (Int.tdiv (wrap64 (t101 * 2)) 3)) 1, wrap64 ((mx (wrap64 (Int.tdiv (wrap64 (t101 * 2)) 3)) 1) - 1000))) else (some (mn (wrap64 ((wrap64 (Int.tdiv (wrap64 (t101 * 3)) 2)) + 1)) 1000000, wrap64 ((mn (wrap64 ((wrap64 (Int.tdiv (wrap64 (t101 * 3)) 2)) + 1)) 1000000) - 1000)))) = some (r1, r2) := H
  have A3 := Aside0.mk A30
  clear A30
  by_cases c4 : a1 = true
  · subst c4
    have H1 : (some (mx (wrap64 (Int.tdiv (wrap64 (t101 * 2)) 3)) 1, wrap64 ((mx (wrap64 (Int.tdiv (wrap64 (t101 * 2)) 3)) 1) - 1000))) = some (r1, r2) := by rw [if_pos rfl] at H; exact H
    clear H
    have H := H1
    clear H1
    obtain ⟨ji5, hji5⟩ : ∃ j_ : Int, (mx (wrap64 (Int.tdiv (wrap64 (t101 * 2)) 3)) 1) = j_ := ⟨_, rfl⟩
    replace H : (some (ji5, wrap64 ((ji5) - 1000))) = some (r1, r2) := by first | (rw [hji5] at H; exact H) | (simp only [hji5] at H ⊢; exact H)
    (try rw [hji5] at A3)
    (try (have hji5l : 1 ≤ ji5 := by (rw [← hji5]; unfold mx; (repeat' split) <;> omega)))
    (try (have hji5m : 0 ≤ ji5 := by omega))
    have hji5_ : (if (wrap64 (Int.tdiv (wrap64 (t101 * 2)) 3)) < 1 then 1 else (wrap64 (Int.tdiv (wrap64 (t101 * 2)) 3))) = ji5 := hji5
    simp only [Option.some.injEq, Prod.mk.injEq] at H
    obtain ⟨rfl, rfl⟩ := H
    go_enter Try.func17, Try.ntmps17
    go_wp2_with (first | ((with_reducible refine gate_callee (f := 18) rfl ?_); refine goesL_ (some 7) rfl rfl Try.func18 (by kernel_rfl) rfl #[.pointer (some ⟨g, 0, none⟩)] rfl (by (try simp only [List.map_toArray, List.map_cons, List.map_nil]); first | done | rfl | (simp only [List.length_drop, List.length_take]; rfl)) ?_; (with_reducible refine (tabu_Weight_Value.calls g s0_0 t101 t102 w0 _ ?side1 ?side2 A3.out).mono ?_); (case side1 => repeat (first | (with_reducible first | exact HI0.out | apply IsS39.alloc | apply IsS39.drewN | apply IsS39.drew | apply IsS39.set_0) | exact HI0.out)); (case side2 => repeat (first | (with_reducible first | exact HB.out | apply below_alloc | apply pw_below_drewN | apply below_drew1 | refine below_set ?_ (IsS39.ge HI0.out)) | exact HB.out)); rintro e w6 ⟨rfl, hi, hb, hk⟩; refine ⟨_, rfl, ?_⟩; have n0_ := Aside0.mk (KeepBut.trans (by repeat (first | (with_reducible first | exact HK.out | apply KeepBut.set_ | apply keep_drewN | apply keep_drew | apply keep_alloc) | exact HK.out)) hk (.inl rfl)); have n1_ := Aside0.mk (hb); have n2_ := Aside0.mk (hi); clear HK; clear HB; clear HI0; have HK := n0_; have HB := n1_; have HI0 := n2_; clear n0_ n1_ n2_; (try clear hb); (try clear hb2); (try clear hk); (try clear hi); obtain ⟨HGz7, hgz7⟩ := HI0.out; have hcz7_0 := cellS39_0 HGz7; have hfz7_0 := blk_frozen HGz7 0; clear HGz7 hgz7))
    go_ret
    exact ⟨by first | rfl | (simp [errW_none, errW_some] <;> rfl) | (simp only [← hji5]; first | rfl | (simp [errW_none, errW_some] <;> rfl)) | (simp [*, errW_none, errW_some] <;> rfl), by repeat (first | (with_reducible first | exact HI0.out | apply IsS39.alloc | apply IsS39.drewN | apply IsS39.drew | apply IsS39.set_0) | exact HI0.out), by repeat (first | (with_reducible first | exact HB.out | apply below_alloc | apply pw_below_drewN | apply below_drew1 | refine below_set ?_ (IsS39.ge HI0.out)) | exact HB.out), by repeat (first | (with_reducible first | exact HK.out | apply KeepBut.set_ | apply keep_drewN | apply keep_drew | apply keep_alloc) | exact HK.out)⟩
  · replace c4 := Bool.eq_false_iff.mpr c4
    subst c4
    have H1 : (some (mn (wrap64 ((wrap64 (Int.tdiv (wrap64 (t101 * 3)) 2)) + 1)) 1000000, wrap64 ((mn (wrap64 ((wrap64 (Int.tdiv (wrap64 (t101 * 3)) 2)) + 1)) 1000000) - 1000))) = some (r1, r2) := by rw [if_neg (show ¬ (false = true) by decide)] at H; exact H
    clear H
    have H := H1
    clear H1
    obtain ⟨ji8, hji8⟩ : ∃ j_ : Int, (mn (wrap64 ((wrap64 (Int.tdiv (wrap64 (t101 * 3)) 2)) + 1)) 1000000) = j_ := ⟨_, rfl⟩
    replace H : (some (ji8, wrap64 ((ji8) - 1000))) = some (r1, r2) := by first | (rw [hji8] at H; exact H) | (simp only [hji8] at H ⊢; exact H)
    (try rw [hji8] at A3)
    (try (have hji8h : ji8 ≤ 1000000 := by (rw [← hji8]; unfold mn; (repeat' split) <;> omega)))
    (try (have hji8g : ji8 ≤ 64 := by omega))
    have hji8_ : (if 1000000 < (wrap64 ((wrap64 (Int.tdiv (wrap64 (t101 * 3)) 2)) + 1)) then 1000000 else (wrap64 ((wrap64 (Int.tdiv (wrap64 (t101 * 3)) 2)) + 1))) = ji8 := hji8
    simp only [Option.some.injEq, Prod.mk.injEq] at H
    obtain ⟨rfl, rfl⟩ := H
    go_enter Try.func17, Try.ntmps17
    go_wp2_with (first | ((with_reducible refine gate_callee (f := 18) rfl ?_); refine goesL_ (some 7) rfl rfl Try.func18 (by kernel_rfl) rfl #[.pointer (some ⟨g, 0, none⟩)] rfl (by (try simp only [List.map_toArray, List.map_cons, List.map_nil]); first | done | rfl | (simp only [List.length_drop, List.length_take]; rfl)) ?_; (with_reducible refine (tabu_Weight_Value.calls g s0_0 t101 t102 w0 _ ?side1 ?side2 A3.out).mono ?_); (case side1 => repeat (first | (with_reducible first | exact HI0.out | apply IsS39.alloc | apply IsS39.drewN | apply IsS39.drew | apply IsS39.set_0) | exact HI0.out)); (case side2 => repeat (first | (with_reducible first | exact HB.out | apply below_alloc | apply pw_below_drewN | apply below_drew1 | refine below_set ?_ (IsS39.ge HI0.out)) | exact HB.out)); rintro e w9 ⟨rfl, hi, hb, hk⟩; refine ⟨_, rfl, ?_⟩; have n0_ := Aside0.mk (KeepBut.trans (by repeat (first | (with_reducible first | exact HK.out | apply KeepBut.set_ | apply keep_drewN | apply keep_drew | apply keep_alloc) | exact HK.out)) hk (.inl rfl)); have n1_ := Aside0.mk (hb); have n2_ := Aside0.mk (hi); clear HK; clear HB; clear HI0; have HK := n0_; have HB := n1_; have HI0 := n2_; clear n0_ n1_ n2_; (try clear hb); (try clear hb2); (try clear hk); (try clear hi); obtain ⟨HGz10, hgz10⟩ := HI0.out; have hcz10_0 := cellS39_0 HGz10; have hfz10_0 := blk_frozen HGz10 0; clear HGz10 hgz10))
    go_ret
    exact ⟨by first | rfl | (simp [errW_none, errW_some] <;> rfl) | (simp only [← hji8]; first | rfl | (simp [errW_none, errW_some] <;> rfl)) | (simp [*, errW_none, errW_some] <;> rfl), by repeat (first | (with_reducible first | exact HI0.out | apply IsS39.alloc | apply IsS39.drewN | apply IsS39.drew | apply IsS39.set_0) | exact HI0.out), by repeat (first | (with_reducible first | exact HB.out | apply below_alloc | apply pw_below_drewN | apply below_drew1 | refine below_set ?_ (IsS39.ge HI0.out)) | exact HB.out), by repeat (first | (with_reducible first | exact HK.out | apply KeepBut.set_ | apply keep_drewN | apply keep_drew | apply keep_alloc) | exact HK.out)⟩

/-! ### num_Held: function 23 -/
def num_Held.f (a0 : Int) (a1 : Int) (a2 : Int) : Option (Int) := some (mx (mn a0 a2) a1)
set_option maxHeartbeats 8000000 in
set_option maxRecDepth 100000 in
theorem num_Held.calls (a0 : Int) (a1 : Int) (a2 : Int) (r : Int) (w : World) (h : num_Held.f a0 a1 a2 = some r) :
    Calls Try.prog 23 #[.int .i64 a0, .int .i64 a1, .int .i64 a2] w fun e w' => e = .returned (.int .i64 r) ∧ Below w.heap.size w w' := by
  have HB := Aside0.mk (Below.refl w.heap.size w)
  have H : (some (mx (mn a0 a2) a1)) = some r := h
  clear h
  obtain ⟨ji4, hji4⟩ : ∃ j_ : Int, (mn a0 a2) = j_ := ⟨_, rfl⟩
  replace H : (some (mx (ji4) a1)) = some r := by first | (rw [hji4] at H; exact H) | (simp only [hji4] at H ⊢; exact H)
  have hji4_ : (if a2 < a0 then a2 else a0) = ji4 := hji4
  obtain ⟨ji5, hji5⟩ : ∃ j_ : Int, (mx (ji4) a1) = j_ := ⟨_, rfl⟩
  replace H : (some ji5) = some r := by first | (rw [hji5] at H; exact H) | (simp only [hji5] at H ⊢; exact H)
  have hji5_ : (if (ji4) < a1 then a1 else (ji4)) = ji5 := hji5
  obtain rfl := Option.some.inj H
  go_enter Try.func23, Try.ntmps23
  go_wp2
  go_ret
  exact ⟨by first | rfl | (simp [errW_none, errW_some] <;> rfl) | (simp only [← hji4, ← hji5]; first | rfl | (simp [errW_none, errW_some] <;> rfl)) | (simp [*, errW_none, errW_some] <;> rfl), by repeat (first | (with_reducible first | exact HB.out | apply below_alloc | apply pw_below_drewN | apply below_drew1) | exact HB.out)⟩

/-! ### tabu_Weight_Of: function 19 -/
def tabu_Weight_Of.f (s0_0 : Int) (a1 : Int) (a2 : Int) : Option (Int × Int) := (tabu_Weight_Value.f s0_0).bind fun bt103 => ((num_Held.f a1 0 1048576).bind fun t105 => ((num_Held.f a2 0 1048576).bind fun t106 => (some (wrap64 (bt103.1 * (wrap64 (t105 + t106))), bt103.2))))
set_option maxHeartbeats 8000000 in
set_option maxRecDepth 100000 in
theorem tabu_Weight_Of.calls (g : Nat) (s0_0 : Int) (a1 : Int) (a2 : Int) (r1 : Int) (r2 : Int) (w0 w : World) (hI : IsS39 w0 w g s0_0) (hB : Below w0.heap.size w0 w) (h : tabu_Weight_Of.f s0_0 a1 a2 = some (r1, r2)) :
    Calls Try.prog 19 #[.pointer (some ⟨g, 0, none⟩), .int .i64 a1, .int .i64 a2] w fun e w' => e = .returned (.int .i64 r1) ∧ IsS39 w0 w' g r2 ∧ Below w0.heap.size w0 w' ∧ KeepBut w w' g none := by
  have HI0 := Aside0.mk hI
  have HK := Aside0.mk (KeepBut.refl w g none)
  have HL := Aside0.mk hB.size
  clear hI
  have HW0 := Aside0.mk hB.size
  have HB := Aside0.mk hB
  clear hB
  have H : ((tabu_Weight_Value.f s0_0).bind fun bt103 => ((num_Held.f a1 0 1048576).bind fun t105 => ((num_Held.f a2 0 1048576).bind fun t106 => (some (wrap64 (bt103.1 * (wrap64 (t105 + t106))), bt103.2))))) = some (r1, r2) := h
  clear h
  replace H := Option.bind_eq_some_iff.mp H
  obtain ⟨⟨t103, t104⟩, A40, H⟩ := H
  replace H : ((num_Held.f a1 0 1048576).bind fun t105 => ((num_Held.f a2 0 1048576).bind fun t106 => (some (wrap64 (t103 * (wrap64 (t105 + t106))), t104)))) = some (r1, r2) := H
  have A4 := Aside0.mk A40
  clear A40
  replace H := Option.bind_eq_some_iff.mp H
  obtain ⟨t105, A50, H⟩ := H
  replace H : ((num_Held.f a2 0 1048576).bind fun t106 => (some (wrap64 (t103 * (wrap64 (t105 + t106))), t104))) = some (r1, r2) := H
  have A5 := Aside0.mk A50
  clear A50
  replace H := Option.bind_eq_some_iff.mp H
  obtain ⟨t106, A60, H⟩ := H
  replace H : (some (wrap64 (t103 * (wrap64 (t105 + t106))), t104)) = some (r1, r2) := H
  have A6 := Aside0.mk A60
  clear A60
  simp only [Option.some.injEq, Prod.mk.injEq] at H
  obtain ⟨rfl, rfl⟩ := H
  go_enter Try.func19, Try.ntmps19
  go_wp2_with (first | ((with_reducible refine gate_callee (f := 18) rfl ?_); refine goesL_ (some 8) rfl rfl Try.func18 (by kernel_rfl) rfl #[.pointer (some ⟨g, 0, none⟩)] rfl (by (try simp only [List.map_toArray, List.map_cons, List.map_nil]); first | done | rfl | (simp only [List.length_drop, List.length_take]; rfl)) ?_; (with_reducible refine (tabu_Weight_Value.calls g s0_0 t103 t104 w0 _ ?side1 ?side2 A4.out).mono ?_); (case side1 => repeat (first | (with_reducible first | exact HI0.out | apply IsS39.alloc | apply IsS39.drewN | apply IsS39.drew | apply IsS39.set_0) | exact HI0.out)); (case side2 => repeat (first | (with_reducible first | exact HB.out | apply below_alloc | apply pw_below_drewN | apply below_drew1 | refine below_set ?_ (IsS39.ge HI0.out)) | exact HB.out)); rintro e w7 ⟨rfl, hi, hb, hk⟩; refine ⟨_, rfl, ?_⟩; have n0_ := Aside0.mk (KeepBut.trans (by repeat (first | (with_reducible first | exact HK.out | apply KeepBut.set_ | apply keep_drewN | apply keep_drew | apply keep_alloc) | exact HK.out)) hk (.inl rfl)); have n1_ := Aside0.mk (hb); have n2_ := Aside0.mk (hi); clear HK; clear HB; clear HI0; have HK := n0_; have HB := n1_; have HI0 := n2_; clear n0_ n1_ n2_; (try clear hb); (try clear hb2); (try clear hk); (try clear hi)) | ((with_reducible refine gate_callee (f := 23) rfl ?_); refine goesL_ (some 10) rfl rfl Try.func23 (by kernel_rfl) rfl #[.int .i64 a1, .int .i64 0, .int .i64 1048576] rfl (by (try simp only [List.map_toArray, List.map_cons, List.map_nil]); first | done | rfl | (simp only [List.length_drop, List.length_take]; rfl)) ?_; (with_reducible refine (num_Held.calls a1 0 1048576 t105 _ A5.out).mono ?_); rintro e w8 ⟨rfl, hb⟩; refine ⟨_, rfl, ?_⟩; have n0_ := Aside0.mk (IsS39.below (by repeat (first | (with_reducible first | exact HI0.out | apply IsS39.alloc | apply IsS39.drewN | apply IsS39.drew | apply IsS39.set_0) | exact HI0.out)) hb); have n1_ := Aside0.mk (KeepBut.trans (by repeat (first | (with_reducible first | exact HK.out | apply KeepBut.set_ | apply keep_drewN | apply keep_drew | apply keep_alloc) | exact HK.out)) (KeepBut.of_below hb g none) (.inl rfl)); have n2_ := Aside0.mk (below_step (by repeat (first | (with_reducible first | exact HB.out | apply below_alloc | apply pw_below_drewN | apply below_drew1 | refine below_set ?_ (IsS39.ge HI0.out)) | exact HB.out)) hb); clear HI0; clear HK; clear HB; have HI0 := n0_; have HK := n1_; have HB := n2_; clear n0_ n1_ n2_; (try clear hb); (try clear hb2); (try clear hk); (try clear hi)) | ((with_reducible refine gate_callee (f := 23) rfl ?_); refine goesL_ (some 12) rfl rfl Try.func23 (by kernel_rfl) rfl #[.int .i64 a2, .int .i64 0, .int .i64 1048576] rfl (by (try simp only [List.map_toArray, List.map_cons, List.map_nil]); first | done | rfl | (simp only [List.length_drop, List.length_take]; rfl)) ?_; (with_reducible refine (num_Held.calls a2 0 1048576 t106 _ A6.out).mono ?_); rintro e w9 ⟨rfl, hb⟩; refine ⟨_, rfl, ?_⟩; have n0_ := Aside0.mk (IsS39.below (by repeat (first | (with_reducible first | exact HI0.out | apply IsS39.alloc | apply IsS39.drewN | apply IsS39.drew | apply IsS39.set_0) | exact HI0.out)) hb); have n1_ := Aside0.mk (KeepBut.trans (by repeat (first | (with_reducible first | exact HK.out | apply KeepBut.set_ | apply keep_drewN | apply keep_drew | apply keep_alloc) | exact HK.out)) (KeepBut.of_below hb g none) (.inl rfl)); have n2_ := Aside0.mk (below_step (by repeat (first | (with_reducible first | exact HB.out | apply below_alloc | apply pw_below_drewN | apply below_drew1 | refine below_set ?_ (IsS39.ge HI0.out)) | exact HB.out)) hb); clear HI0; clear HK; clear HB; have HI0 := n0_; have HK := n1_; have HB := n2_; clear n0_ n1_ n2_; (try clear hb); (try clear hb2); (try clear hk); (try clear hi)))
  go_ret
  exact ⟨by first | rfl | (simp [errW_none, errW_some] <;> rfl) | (simp [*, errW_none, errW_some] <;> rfl), by repeat (first | (with_reducible first | exact HI0.out | apply IsS39.alloc | apply IsS39.drewN | apply IsS39.drew | apply IsS39.set_0) | exact HI0.out), by repeat (first | (with_reducible first | exact HB.out | apply below_alloc | apply pw_below_drewN | apply below_drew1 | refine below_set ?_ (IsS39.ge HI0.out)) | exact HB.out), by repeat (first | (with_reducible first | exact HK.out | apply KeepBut.set_ | apply keep_drewN | apply keep_drew | apply keep_alloc) | exact HK.out)⟩

-- NOT PRINTED: function 8 (jitneylaw20_alive)

/-! ### jitneyref20_Forbid: function 10 -/
mutual
def jitneyref20_Forbid.l0 : Nat → List (S54) → Int → Int → Int → List (S54) → Int → Option ((List (S54)))
  | 0, _, _, _, _, _, _ => none
  | k + 1, x0, x1, x2, x3, x9, x10 => if x10 < (x0.length : Int) then (if 0 ≤ x10 then (if ((rd_T54 x0 x10).f0) = x1 then (jitneyref20_Forbid.j1 k x0 x1 x2 x3 x9 x10 (((rd_T54 x0 x10).f1) == x2)) else (jitneyref20_Forbid.j1 k x0 x1 x2 x3 x9 x10 false)) else (none)) else (if x9.length < 5864062014805 then (some (x9 ++ [(⟨x1, x2, x3⟩ : S54)])) else (none))
def jitneyref20_Forbid.j1 : Nat → List (S54) → Int → Int → Int → List (S54) → Int → Bool → Option ((List (S54)))
  | 0, _, _, _, _, _, _, _ => none
  | k + 1, x0, x1, x2, x3, x9, x10, x33 => if x33 = true then (if 0 ≤ x10 then (if x10 < (x0.length : Int) then (if ((rd_T54 x0 x10).f2) > x3 then (jitneyref20_Forbid.l0 k x0 x1 x2 ((rd_T54 x0 x10).f2) x9 (wrap64 (x10 + 1))) else (jitneyref20_Forbid.l0 k x0 x1 x2 x3 x9 (wrap64 (x10 + 1)))) else (none)) else (none)) else (if 0 ≤ x10 then (if x10 < (x0.length : Int) then (if x9.length < 5864062014805 then (jitneyref20_Forbid.l0 k x0 x1 x2 x3 (x9 ++ [(⟨(rd_T54 x0 x10).f0, (rd_T54 x0 x10).f1, (rd_T54 x0 x10).f2⟩ : S54)]) (wrap64 (x10 + 1))) else (none)) else (none)) else (none))
end
def jitneyref20_Forbid.f (k : Nat) (l0 : List (S54)) (a1 : Int) (a2 : Int) (a3 : Int) : Option ((List (S54))) := jitneyref20_Forbid.l0 k l0 a1 a2 a3 (([] : List (S54))) 0
theorem jitneyref20_Forbid.mono_l : ∀ k, (∀ y0 y1 y2 y3 y4 y5, LeO (jitneyref20_Forbid.l0 k y0 y1 y2 y3 y4 y5) (jitneyref20_Forbid.l0 (k + 1) y0 y1 y2 y3 y4 y5)) ∧ (∀ y0 y1 y2 y3 y4 y5 y6, LeO (jitneyref20_Forbid.j1 k y0 y1 y2 y3 y4 y5 y6) (jitneyref20_Forbid.j1 (k + 1) y0 y1 y2 y3 y4 y5 y6))
  | 0 => ⟨fun _ _ _ _ _ _ r h => by simp [jitneyref20_Forbid.l0] at h, fun _ _ _ _ _ _ _ r h => by simp [jitneyref20_Forbid.j1] at h⟩
  | k + 1 => by
    obtain ⟨ih0, ih1⟩ := jitneyref20_Forbid.mono_l k
    refine ⟨?_, ?_⟩
    · intro y0 y1 y2 y3 y4 y5
      unfold jitneyref20_Forbid.l0
      repeat' first
      | (with_reducible exact ih0 _ _ _ _ _ _)
      | (with_reducible exact ih1 _ _ _ _ _ _ _)
      | (with_reducible exact LeO.refl _)
      | (with_reducible exact LeO.none _)
      | (with_reducible refine LeO.ite ?_ ?_)
      | (with_reducible refine LeO.bind ?_ (fun _ => ?_))
      | exact ih0 _ _ _ _ _ _
      | exact ih1 _ _ _ _ _ _ _
      | exact LeO.none _
      | refine LeO.ite ?_ ?_
      | refine LeO.bind ?_ (fun _ => ?_)
    · intro y0 y1 y2 y3 y4 y5 y6
      unfold jitneyref20_Forbid.j1
      repeat' first
      | (with_reducible exact ih0 _ _ _ _ _ _)
      | (with_reducible exact ih1 _ _ _ _ _ _ _)
      | (with_reducible exact LeO.refl _)
      | (with_reducible exact LeO.none _)
      | (with_reducible refine LeO.ite ?_ ?_)
      | (with_reducible refine LeO.bind ?_ (fun _ => ?_))
      | exact ih0 _ _ _ _ _ _
      | exact ih1 _ _ _ _ _ _ _
      | exact LeO.none _
      | refine LeO.ite ?_ ?_
      | refine LeO.bind ?_ (fun _ => ?_)
theorem jitneyref20_Forbid.mono : ∀ a0 a1 a2 a3 k, LeO (jitneyref20_Forbid.f k a0 a1 a2 a3) (jitneyref20_Forbid.f (k + 1) a0 a1 a2 a3) := by
  intro a0 a1 a2 a3 k
  obtain ⟨ih0, ih1⟩ := jitneyref20_Forbid.mono_l k
  unfold jitneyref20_Forbid.f
  repeat' first
      | (with_reducible exact ih0 _ _ _ _ _ _)
      | (with_reducible exact ih1 _ _ _ _ _ _ _)
      | (with_reducible exact LeO.refl _)
      | (with_reducible exact LeO.none _)
      | (with_reducible refine LeO.ite ?_ ?_)
      | (with_reducible refine LeO.bind ?_ (fun _ => ?_))
      | exact ih0 _ _ _ _ _ _
      | exact ih1 _ _ _ _ _ _ _
      | exact LeO.none _
      | refine LeO.ite ?_ ?_
      | refine LeO.bind ?_ (fun _ => ?_)
set_option maxHeartbeats 8000000 in
set_option maxRecDepth 100000 in
theorem jitneyref20_Forbid.calls (k : Nat) (A0 : Option Addr) (c0 : Nat) (l0 : List (S54)) (a1 : Int) (a2 : Int) (a3 : Int) (r : List (S54)) (w : World) (hr0 : Kd.C k54 w A0 l0.length l0) (hc0 : l0.length ≤ c0) (h : jitneyref20_Forbid.f k l0 a1 a2 a3 = some r) :
    Calls Try.prog 10 #[.slice A0 l0.length c0, .int .i64 a1, .int .i64 a2, .int .i64 a3] w fun e w' => ∃ v0_ : Value, e = .returned (v0_) ∧ Kd.R k54 54 w' w.heap.size (fun _ => True) v0_ r ∧ Below w.heap.size w w' := by
  have hu54 := Try.underlying54
  have HR0 := Aside0.mk hr0
  have HC0 := Aside0.mk hc0
  clear hr0 hc0
  have HB := Aside0.mk (Below.refl w.heap.size w)
  have H : (jitneyref20_Forbid.l0 k l0 a1 a2 a3 (([] : List (S54))) 0) = some r := h
  clear h
  obtain ⟨y107, hy107⟩ : ∃ y_ : List (S54), y_ = (([] : List (S54))) := ⟨_, rfl⟩
  replace H : (jitneyref20_Forbid.l0 k l0 a1 a2 a3 y107 0) = some r := by first | (rw [hy107]; with_reducible exact H) | (have H2_ := (Option.bind_some _ _).symm.trans H; rw [hy107]; with_reducible exact H2_) | (have H2_ := (Option.bind_some _ _).symm.trans H; with_reducible exact H2_) | with_reducible exact H | (rw [hy107]; exact H) | exact H
  have Ny107 := Aside0.mk hy107
  clear hy107
  have H' := Aside0.mk H
  clear H
  go_enter Try.func10, Try.ntmps10
  go_wp2_with (first | ((with_reducible refine gate_dst (N := 11) rfl ?_); refine Kd.R_lit k54 _ 54 ?hg (N := 11) ?hd (xs := ([] : List (S54))) (inner := []) (ok := fun _ => True) (okp := fun _ => True) ?hr ?hp (fun _ hk => hk) trivial (Below.refl _ _) (Nat.le_refl _) (by simp) ?_; (case hd => rfl); (case hg => rfl); (case hr => first | (go_simp; done) | (go_simp; rfl)); (case hp => exact (Reps.none _ _)); intro v108 w5 ho6 hb hg_ hnew_; clear hg_ hnew_; (first | rw [← Ny107.out] at ho6 | (simp only [Int.reduceToNat] at ho6; rw [← Ny107.out] at ho6)); have n0_ := Aside0.mk (Kd.R_lower ho6 (below_size (by repeat (first | (with_reducible first | exact HB.out | apply below_alloc | apply pw_below_drewN | apply below_drew1) | exact HB.out)))); have n1_ := Aside0.mk (below_step (by repeat (first | (with_reducible first | exact HB.out | apply below_alloc | apply pw_below_drewN | apply below_drew1) | exact HB.out)) hb); clear HB; have HO109 := n0_; have HB := n1_; clear n0_ n1_; clear hb ho6))
  go_loopg [3, 9, 10] k (fun kq v3 v9 v10 w' => ∃ (x3_1 : Int) (x9_1 : List (S54)) (x10_1 : Int), v3 = .int .i64 x3_1 ∧ v10 = .int .i64 x10_1 ∧ Aside0 (jitneyref20_Forbid.l0 kq l0 a1 a2 x3_1 x9_1 x10_1 = some r) ∧ Aside0 (kq ≤ k) ∧ Aside0 (Kd.R k54 54 w' w.heap.size (fun _ => True) v9 x9_1) ∧ Aside0 (Below w.heap.size w w'))
  case atStart => exact ⟨(a3), (y107), (0), (by first | rfl | (simp; done) | (simp [*]; done)), (by first | rfl | (simp; done) | (simp [*]; done)), H', ⟨Nat.le_refl _⟩, ⟨by (with_reducible repeat (first | apply Kd.R_alloc | apply Kd.R_drewN | apply Kd.R_drew)); exact HO109.out⟩, ⟨by repeat (first | (with_reducible first | exact HB.out | apply below_alloc | apply pw_below_drewN | apply below_drew1) | exact HB.out)⟩⟩
  case round =>
    clear H'
    try clear c1
    try clear p2
    obtain ⟨x3_1, x9_1, x10_1, rfl, rfl, HA, HK1, HO_9, HB⟩ := hrel
    cases gk with
    | zero => exact absurd HA.out (by simp [jitneyref20_Forbid.l0])
    | succ k1 =>
      have H := HA.out
      clear HA
      simp only [jitneyref20_Forbid.l0] at H
      by_cases c7 : x10_1 < (l0.length : Int)
      · rw [if_pos c7] at H
        have c7b0 : decide (x10_1 < (l0.length : Int)) = true := decide_eq_true c7
        clear c7
        have HC8 := Aside0.mk H
        clear H
        go_upto_region 5 with (fail)
        go_cut [33] (fun v33 wc => ∃ (kq : Nat) (x33_7 : Bool), v33 = .bool x33_7 ∧ Aside0 (jitneyref20_Forbid.j1 kq l0 a1 a2 x3_1 x9_1 x10_1 x33_7 = some r) ∧ Aside0 (kq ≤ k1) ∧ Aside0 (Kd.R k54 54 wc w.heap.size (fun _ => True) u9 x9_1) ∧ Aside0 (Below w.heap.size w wc))
        case first =>
          have H := HC8.out
          clear HC8
          by_cases c9 : 0 ≤ x10_1
          · rw [if_pos c9] at H
            have c9b0 : decide (0 ≤ x10_1) = true := decide_eq_true c9
            clear c9
            (first | rw [c9b0] | (simp only [i64_w, i32_w]; rw [c9b0]) | skip)
            by_cases c10 : ((rd_T54 l0 x10_1).f0) = a1
            · rw [if_pos c10] at H
              have c10b0 : (((rd_T54 l0 x10_1).f0) == a1) = true := beq_iff_eq.mpr c10
              have c10b1 : (((rd_T54 l0 x10_1).f0) != a1) = false := bne_eq_false_iff_eq.mpr c10
              clear c10
              have H' := Aside0.mk H
              clear H
              have p113 : 0 ≤ (x10_1 : Int) := of_decide_eq_true (by first | (with_reducible assumption) | assumption)
              have q113 : x10_1 < (l0.length : Int) := of_decide_eq_true (by first | (with_reducible assumption) | assumption)
              obtain ⟨ad113, e113, hx113_0, hx113_1, hx113_2⟩ := at_T54 HR0.out x10_1 p113 q113
              cases e113
              replace hx113_0 := (HB.out.cell (World.block_lt_of_cell? w _ hx113_0)).trans hx113_0
              replace hx113_1 := (HB.out.cell (World.block_lt_of_cell? w _ hx113_1)).trans hx113_1
              replace hx113_2 := (HB.out.cell (World.block_lt_of_cell? w _ hx113_2)).trans hx113_2
              replace p113 := eq_true p113
              replace q113 := eq_true q113
              have p114 : 0 ≤ (x10_1 : Int) := of_decide_eq_true (by first | (with_reducible assumption) | assumption)
              have q114 : x10_1 < (l0.length : Int) := of_decide_eq_true (by first | (with_reducible assumption) | assumption)
              obtain ⟨ad114, e114, hx114_0, hx114_1, hx114_2⟩ := at_T54 HR0.out x10_1 p114 q114
              obtain rfl : ad113 = ad114 := (by injection e114)
              replace hx114_0 := (HB.out.cell (World.block_lt_of_cell? w _ hx114_0)).trans hx114_0
              replace hx114_1 := (HB.out.cell (World.block_lt_of_cell? w _ hx114_1)).trans hx114_1
              replace hx114_2 := (HB.out.cell (World.block_lt_of_cell? w _ hx114_2)).trans hx114_2
              replace p114 := eq_true p114
              replace q114 := eq_true q114
              go_wp2
              go_meet
              case rel => exact ⟨_, ((((rd_T54 l0 x10_1).f1) == a2)), (by first | rfl | (simp; done) | (simp [*]; done)), H', ⟨by have := HK1.out; first | omega | exact Nat.le_refl _⟩, ⟨by (with_reducible repeat (first | apply Kd.R_alloc | apply Kd.R_drewN | apply Kd.R_drew)); exact HO_9.out⟩, ⟨by repeat (first | (with_reducible first | exact HB.out | apply below_alloc | apply pw_below_drewN | apply below_drew1) | exact HB.out)⟩⟩
            · rw [if_neg c10] at H
              have c10b0 : (((rd_T54 l0 x10_1).f0) == a1) = false := beq_eq_false_iff_ne.mpr c10
              have c10b1 : (((rd_T54 l0 x10_1).f0) != a1) = true := bne_iff_ne.mpr c10
              have H' := Aside0.mk H
              clear H
              have p113 : 0 ≤ (x10_1 : Int) := of_decide_eq_true (by first | (with_reducible assumption) | assumption)
              have q113 : x10_1 < (l0.length : Int) := of_decide_eq_true (by first | (with_reducible assumption) | assumption)
              obtain ⟨ad113, e113, hx113_0, hx113_1, hx113_2⟩ := at_T54 HR0.out x10_1 p113 q113
              cases e113
              replace hx113_0 := (HB.out.cell (World.block_lt_of_cell? w _ hx113_0)).trans hx113_0
              replace hx113_1 := (HB.out.cell (World.block_lt_of_cell? w _ hx113_1)).trans hx113_1
              replace hx113_2 := (HB.out.cell (World.block_lt_of_cell? w _ hx113_2)).trans hx113_2
              replace p113 := eq_true p113
              replace q113 := eq_true q113
              go_wp2
              go_meet
              case rel => exact ⟨_, (false), (by first | rfl | (simp; done) | (simp [*]; done)), H', ⟨by have := HK1.out; first | omega | exact Nat.le_refl _⟩, ⟨by (with_reducible repeat (first | apply Kd.R_alloc | apply Kd.R_drewN | apply Kd.R_drew)); exact HO_9.out⟩, ⟨by repeat (first | (with_reducible first | exact HB.out | apply below_alloc | apply pw_below_drewN | apply below_drew1) | exact HB.out)⟩⟩
          · rw [if_neg c9] at H
            exact absurd H (by simp)
        case rest =>
          clear HC8
          try clear c1
          try clear p1
          try clear q1
          try clear hx1
          try clear p2
          try clear c7
          try clear c7b0
          try clear c9
          try clear c9b0
          try clear c10
          try clear c10b0
          try clear c10b1
          try clear hx113_0
          try clear hx113_1
          try clear hx113_2
          try clear hx114_0
          try clear hx114_1
          try clear hx114_2
          try clear p113
          try clear p114
          try clear p2
          try clear q113
          try clear q114
          obtain ⟨kq, x33_7, rfl, HA, HJ7, HO_9, HB⟩ := hcut
          cases kq with
          | zero => exact absurd HA.out (by simp [jitneyref20_Forbid.j1])
          | succ kj7 =>
            have H := HA.out
            clear HA
            simp only [jitneyref20_Forbid.j1] at H
            by_cases c11 : x33_7 = true
            · subst c11
              have H1 : (if 0 ≤ x10_1 then (if x10_1 < (l0.length : Int) then (if ((rd_T54 l0 x10_1).f2) > x3_1 then (jitneyref20_Forbid.l0 kj7 l0 a1 a2 ((rd_T54 l0 x10_1).f2) x9_1 (wrap64 (x10_1 + 1))) else (jitneyref20_Forbid.l0 kj7 l0 a1 a2 x3_1 x9_1 (wrap64 (x10_1 + 1)))) else (none)) else (none)) = some r := by rw [if_pos rfl] at H; exact H
              clear H
              have H := H1
              clear H1
              by_cases c12 : 0 ≤ x10_1
              · rw [if_pos c12] at H
                have c12b0 : decide (0 ≤ x10_1) = true := decide_eq_true c12
                clear c12
                by_cases c13 : x10_1 < (l0.length : Int)
                · rw [if_pos c13] at H
                  have c13b0 : decide (x10_1 < (l0.length : Int)) = true := decide_eq_true c13
                  clear c13
                  by_cases c14 : ((rd_T54 l0 x10_1).f2) > x3_1
                  · rw [if_pos c14] at H
                    have c14b0 : decide (x3_1 < ((rd_T54 l0 x10_1).f2)) = true := decide_eq_true c14
                    clear c14
                    have H' := Aside0.mk H
                    clear H
                    have p115 : 0 ≤ (x10_1 : Int) := of_decide_eq_true (by first | (with_reducible assumption) | assumption)
                    have q115 : x10_1 < (l0.length : Int) := of_decide_eq_true (by first | (with_reducible assumption) | assumption)
                    obtain ⟨ad115, e115, hx115_0, hx115_1, hx115_2⟩ := at_T54 HR0.out x10_1 p115 q115
                    cases e115
                    replace hx115_0 := (HB.out.cell (World.block_lt_of_cell? w _ hx115_0)).trans hx115_0
                    replace hx115_1 := (HB.out.cell (World.block_lt_of_cell? w _ hx115_1)).trans hx115_1
                    replace hx115_2 := (HB.out.cell (World.block_lt_of_cell? w _ hx115_2)).trans hx115_2
                    replace p115 := eq_true p115
                    replace q115 := eq_true q115
                    have p116 : 0 ≤ (x10_1 : Int) := of_decide_eq_true (by first | (with_reducible assumption) | assumption)
                    have q116 : x10_1 < (l0.length : Int) := of_decide_eq_true (by first | (with_reducible assumption) | assumption)
                    obtain ⟨ad116, e116, hx116_0, hx116_1, hx116_2⟩ := at_T54 HR0.out x10_1 p116 q116
                    obtain rfl : ad115 = ad116 := (by injection e116)
                    replace hx116_0 := (HB.out.cell (World.block_lt_of_cell? w _ hx116_0)).trans hx116_0
                    replace hx116_1 := (HB.out.cell (World.block_lt_of_cell? w _ hx116_1)).trans hx116_1
                    replace hx116_2 := (HB.out.cell (World.block_lt_of_cell? w _ hx116_2)).trans hx116_2
                    replace p116 := eq_true p116
                    replace q116 := eq_true q116
                    go_wp2
                    go_roundg kj7
                    case measure => have := HK1.out; have := HJ7.out; omega
                    case rel => exact ⟨((rd_T54 l0 x10_1).f2), (x9_1), (wrap64 (x10_1 + 1)), (by first | rfl | (simp; done) | (simp [*]; done)), (by first | rfl | (simp; done) | (simp [*]; done)), H', ⟨by have := HK1.out; have := HJ7.out; omega⟩, ⟨by (with_reducible repeat (first | apply Kd.R_alloc | apply Kd.R_drewN | apply Kd.R_drew)); exact HO_9.out⟩, ⟨by repeat (first | (with_reducible first | exact HB.out | apply below_alloc | apply pw_below_drewN | apply below_drew1) | exact HB.out)⟩⟩
                  · rw [if_neg c14] at H
                    have c14b0 : decide (x3_1 < ((rd_T54 l0 x10_1).f2)) = false := decide_eq_false c14
                    clear c14
                    have H' := Aside0.mk H
                    clear H
                    have p115 : 0 ≤ (x10_1 : Int) := of_decide_eq_true (by first | (with_reducible assumption) | assumption)
                    have q115 : x10_1 < (l0.length : Int) := of_decide_eq_true (by first | (with_reducible assumption) | assumption)
                    obtain ⟨ad115, e115, hx115_0, hx115_1, hx115_2⟩ := at_T54 HR0.out x10_1 p115 q115
                    cases e115
                    replace hx115_0 := (HB.out.cell (World.block_lt_of_cell? w _ hx115_0)).trans hx115_0
                    replace hx115_1 := (HB.out.cell (World.block_lt_of_cell? w _ hx115_1)).trans hx115_1
                    replace hx115_2 := (HB.out.cell (World.block_lt_of_cell? w _ hx115_2)).trans hx115_2
                    replace p115 := eq_true p115
                    replace q115 := eq_true q115
                    go_wp2
                    go_roundg kj7
                    case measure => have := HK1.out; have := HJ7.out; omega
                    case rel => exact ⟨(x3_1), (x9_1), (wrap64 (x10_1 + 1)), (by first | rfl | (simp; done) | (simp [*]; done)), (by first | rfl | (simp; done) | (simp [*]; done)), H', ⟨by have := HK1.out; have := HJ7.out; omega⟩, ⟨by (with_reducible repeat (first | apply Kd.R_alloc | apply Kd.R_drewN | apply Kd.R_drew)); exact HO_9.out⟩, ⟨by repeat (first | (with_reducible first | exact HB.out | apply below_alloc | apply pw_below_drewN | apply below_drew1) | exact HB.out)⟩⟩
                · rw [if_neg c13] at H
                  exact absurd H (by simp)
              · rw [if_neg c12] at H
                exact absurd H (by simp)
            · replace c11 := Bool.eq_false_iff.mpr c11
              subst c11
              have H1 : (if 0 ≤ x10_1 then (if x10_1 < (l0.length : Int) then (if x9_1.length < 5864062014805 then (jitneyref20_Forbid.l0 kj7 l0 a1 a2 x3_1 (x9_1 ++ [(⟨(rd_T54 l0 x10_1).f0, (rd_T54 l0 x10_1).f1, (rd_T54 l0 x10_1).f2⟩ : S54)]) (wrap64 (x10_1 + 1))) else (none)) else (none)) else (none)) = some r := by rw [if_neg (show ¬ (false = true) by decide)] at H; exact H
              clear H
              have H := H1
              clear H1
              by_cases c15 : 0 ≤ x10_1
              · rw [if_pos c15] at H
                have c15b0 : decide (0 ≤ x10_1) = true := decide_eq_true c15
                clear c15
                by_cases c16 : x10_1 < (l0.length : Int)
                · rw [if_pos c16] at H
                  have c16b0 : decide (x10_1 < (l0.length : Int)) = true := decide_eq_true c16
                  clear c16
                  by_cases c17 : x9_1.length < 5864062014805
                  · rw [if_pos c17] at H
                    have LMc17 := Aside0.mk c17
                    clear c17
                    obtain ⟨y118, hy118⟩ : ∃ y_ : List (S54), y_ = (x9_1 ++ [(⟨(rd_T54 l0 x10_1).f0, (rd_T54 l0 x10_1).f1, (rd_T54 l0 x10_1).f2⟩ : S54)]) := ⟨_, rfl⟩
                    replace H : (jitneyref20_Forbid.l0 kj7 l0 a1 a2 x3_1 y118 (wrap64 (x10_1 + 1))) = some r := by first | (rw [hy118]; with_reducible exact H) | (have H2_ := (Option.bind_some _ _).symm.trans H; rw [hy118]; with_reducible exact H2_) | (have H2_ := (Option.bind_some _ _).symm.trans H; with_reducible exact H2_) | with_reducible exact H | (rw [hy118]; exact H) | exact H
                    have Ny118 := Aside0.mk hy118
                    clear hy118
                    have H' := Aside0.mk H
                    clear H
                    have p117 : 0 ≤ (x10_1 : Int) := of_decide_eq_true (by first | (with_reducible assumption) | assumption)
                    have q117 : x10_1 < (l0.length : Int) := of_decide_eq_true (by first | (with_reducible assumption) | assumption)
                    obtain ⟨ad117, e117, hx117_0, hx117_1, hx117_2⟩ := at_T54 HR0.out x10_1 p117 q117
                    cases e117
                    replace hx117_0 := (HB.out.cell (World.block_lt_of_cell? w _ hx117_0)).trans hx117_0
                    replace hx117_1 := (HB.out.cell (World.block_lt_of_cell? w _ hx117_1)).trans hx117_1
                    replace hx117_2 := (HB.out.cell (World.block_lt_of_cell? w _ hx117_2)).trans hx117_2
                    replace p117 := eq_true p117
                    replace q117 := eq_true q117
                    go_wp2_with (first | ((with_reducible refine gate_builtin (b := .append) (xs := #[.tmp 46, .tmp 51]) rfl ?_); at_builtin; refine Kd.R_append k54 (w0 := w) w.heap.size rfl (.tmp 46) (.tmp 51) 27 54 (.agg #[(.int .i64 0), (.int .i64 0), (.int .i64 0)]) 24 rfl Try.underlying27 info54 rfl (by decide) (by omega) u9 x9_1 (⟨(rd_T54 l0 x10_1).f0, (rd_T54 l0 x10_1).f1, (rd_T54 l0 x10_1).f2⟩ : S54) [.int .i64 ((rd_T54 l0 x10_1).f0), .int .i64 ((rd_T54 l0 x10_1).f1), .int .i64 ((rd_T54 l0 x10_1).f2)] (fun _ => True) (fun _ => False) rfl rfl ?aP (fun _ hk => hk.elim) ?aF ?aO ?aB ?aS ?aL ?_; (case aP => exact k54_mkM _ _ _ (⟨(rd_T54 l0 x10_1).f0, (rd_T54 l0 x10_1).f1, (rd_T54 l0 x10_1).f2⟩ : S54)); (case aB => exact (by repeat (first | (with_reducible first | exact HB.out | apply below_alloc | apply pw_below_drewN | apply below_drew1) | exact HB.out))); (case aF => exact (fun _ _ => trivial)); (case aO => exact (by (with_reducible repeat (first | apply Kd.R_alloc | apply Kd.R_drewN | apply Kd.R_drew)); exact HO_9.out)); (case aS => exact (below_size (by repeat (first | (with_reducible first | exact HB.out | apply below_alloc | apply pw_below_drewN | apply below_drew1) | exact HB.out)))); (case aL => have := LMc17.out; omega); intro v119 w18 ho hb hg hat; rw [← Ny118.out] at ho; have n0_ := Aside0.mk (hb); have n1_ := Aside0.mk (ho); clear HB; clear HO_9; have HB := n0_; have HO120 := n1_; clear n0_ n1_; clear ho hb hg hat))
                    go_roundg kj7
                    case measure => have := HK1.out; have := HJ7.out; omega
                    case rel => exact ⟨(x3_1), (y118), (wrap64 (x10_1 + 1)), (by first | rfl | (simp; done) | (simp [*]; done)), (by first | rfl | (simp; done) | (simp [*]; done)), H', ⟨by have := HK1.out; have := HJ7.out; omega⟩, ⟨by (with_reducible repeat (first | apply Kd.R_alloc | apply Kd.R_drewN | apply Kd.R_drew)); exact HO120.out⟩, ⟨by repeat (first | (with_reducible first | exact HB.out | apply below_alloc | apply pw_below_drewN | apply below_drew1) | exact HB.out)⟩⟩
                  · rw [if_neg c17] at H
                    exact absurd H (by simp)
                · rw [if_neg c16] at H
                  exact absurd H (by simp)
              · rw [if_neg c15] at H
                exact absurd H (by simp)
      · rw [if_neg c7] at H
        have c7b0 : decide (x10_1 < (l0.length : Int)) = false := decide_eq_false c7
        clear c7
        by_cases c19 : x9_1.length < 5864062014805
        · rw [if_pos c19] at H
          have LMc19 := Aside0.mk c19
          clear c19
          obtain ⟨y110, hy110⟩ : ∃ y_ : List (S54), y_ = (x9_1 ++ [(⟨a1, a2, x3_1⟩ : S54)]) := ⟨_, rfl⟩
          replace H : (some y110) = some r := by first | (rw [hy110]; with_reducible exact H) | (have H2_ := (Option.bind_some _ _).symm.trans H; rw [hy110]; with_reducible exact H2_) | (have H2_ := (Option.bind_some _ _).symm.trans H; with_reducible exact H2_) | with_reducible exact H | (rw [hy110]; exact H) | exact H
          have Ny110 := Aside0.mk hy110
          clear hy110
          obtain rfl := Option.some.inj H
          go_wp2_with (first | ((with_reducible refine gate_builtin (b := .append) (xs := #[.tmp 53, .tmp 58]) rfl ?_); at_builtin; refine Kd.R_append k54 (w0 := w) w.heap.size rfl (.tmp 53) (.tmp 58) 27 54 (.agg #[(.int .i64 0), (.int .i64 0), (.int .i64 0)]) 24 rfl Try.underlying27 info54 rfl (by decide) (by omega) u9 x9_1 (⟨a1, a2, x3_1⟩ : S54) [.int .i64 a1, .int .i64 a2, .int .i64 x3_1] (fun _ => True) (fun _ => False) rfl rfl ?aP (fun _ hk => hk.elim) ?aF ?aO ?aB ?aS ?aL ?_; (case aP => exact k54_mkM _ _ _ (⟨a1, a2, x3_1⟩ : S54)); (case aB => exact (by repeat (first | (with_reducible first | exact HB.out | apply below_alloc | apply pw_below_drewN | apply below_drew1) | exact HB.out))); (case aF => exact (fun _ _ => trivial)); (case aO => exact (by (with_reducible repeat (first | apply Kd.R_alloc | apply Kd.R_drewN | apply Kd.R_drew)); exact HO_9.out)); (case aS => exact (below_size (by repeat (first | (with_reducible first | exact HB.out | apply below_alloc | apply pw_below_drewN | apply below_drew1) | exact HB.out)))); (case aL => have := LMc19.out; omega); intro v111 w20 ho hb hg hat; rw [← Ny110.out] at ho; have n0_ := Aside0.mk (hb); have n1_ := Aside0.mk (ho); clear HB; clear HO_9; have HB := n0_; have HO112 := n1_; clear n0_ n1_; clear ho hb hg hat))
          go_ret
          exact ⟨_, by first | rfl | (simp [errW_none, errW_some] <;> rfl) | (simp [*, errW_none, errW_some] <;> rfl), by (with_reducible repeat (first | apply Kd.R_alloc | apply Kd.R_drewN | apply Kd.R_drew)); exact HO112.out, by repeat (first | (with_reducible first | exact HB.out | apply below_alloc | apply pw_below_drewN | apply below_drew1) | exact HB.out)⟩
        · rw [if_neg c19] at H
          exact absurd H (by simp)

/-! ### jitneyref20_Live: function 12 -/
def jitneyref20_Live.l0 : Nat → List (S54) → Int → List (S54) → Int → Option ((List (S54)))
  | 0, _, _, _, _ => none
  | k + 1, x0, x1, x5, x6 => if x6 < (x0.length : Int) then (if 0 ≤ x6 then (if x1 < ((rd_T54 x0 x6).f2) then (if x5.length < 5864062014805 then (jitneyref20_Live.l0 k x0 x1 (x5 ++ [(⟨(rd_T54 x0 x6).f0, (rd_T54 x0 x6).f1, (rd_T54 x0 x6).f2⟩ : S54)]) (wrap64 (x6 + 1))) else (none)) else (jitneyref20_Live.l0 k x0 x1 x5 (wrap64 (x6 + 1)))) else (none)) else (some x5)
def jitneyref20_Live.f (k : Nat) (l0 : List (S54)) (a1 : Int) : Option ((List (S54))) := jitneyref20_Live.l0 k l0 a1 (([] : List (S54))) 0
theorem jitneyref20_Live.mono_l : ∀ k, (∀ y0 y1 y2 y3, LeO (jitneyref20_Live.l0 k y0 y1 y2 y3) (jitneyref20_Live.l0 (k + 1) y0 y1 y2 y3))
  | 0 => fun _ _ _ _ r h => by simp [jitneyref20_Live.l0] at h
  | k + 1 => by
    have ih0 := jitneyref20_Live.mono_l k
    · intro y0 y1 y2 y3
      unfold jitneyref20_Live.l0
      repeat' first
      | (with_reducible exact ih0 _ _ _ _)
      | (with_reducible exact LeO.refl _)
      | (with_reducible exact LeO.none _)
      | (with_reducible refine LeO.ite ?_ ?_)
      | (with_reducible refine LeO.bind ?_ (fun _ => ?_))
      | exact ih0 _ _ _ _
      | exact LeO.none _
      | refine LeO.ite ?_ ?_
      | refine LeO.bind ?_ (fun _ => ?_)
theorem jitneyref20_Live.mono : ∀ a0 a1 k, LeO (jitneyref20_Live.f k a0 a1) (jitneyref20_Live.f (k + 1) a0 a1) := by
  intro a0 a1 k
  have ih0 := jitneyref20_Live.mono_l k
  unfold jitneyref20_Live.f
  repeat' first
      | (with_reducible exact ih0 _ _ _ _)
      | (with_reducible exact LeO.refl _)
      | (with_reducible exact LeO.none _)
      | (with_reducible refine LeO.ite ?_ ?_)
      | (with_reducible refine LeO.bind ?_ (fun _ => ?_))
      | exact ih0 _ _ _ _
      | exact LeO.none _
      | refine LeO.ite ?_ ?_
      | refine LeO.bind ?_ (fun _ => ?_)
set_option maxHeartbeats 8000000 in
set_option maxRecDepth 100000 in
theorem jitneyref20_Live.calls (k : Nat) (A0 : Option Addr) (c0 : Nat) (l0 : List (S54)) (a1 : Int) (r : List (S54)) (w : World) (hr0 : Kd.C k54 w A0 l0.length l0) (hc0 : l0.length ≤ c0) (h : jitneyref20_Live.f k l0 a1 = some r) :
    Calls Try.prog 12 #[.slice A0 l0.length c0, .int .i64 a1] w fun e w' => ∃ v0_ : Value, e = .returned (v0_) ∧ Kd.R k54 54 w' w.heap.size (fun _ => True) v0_ r ∧ Below w.heap.size w w' := by
  have hu54 := Try.underlying54
  have HR0 := Aside0.mk hr0
  have HC0 := Aside0.mk hc0
  clear hr0 hc0
  have HB := Aside0.mk (Below.refl w.heap.size w)
  have H : (jitneyref20_Live.l0 k l0 a1 (([] : List (S54))) 0) = some r := h
  clear h
  obtain ⟨y121, hy121⟩ : ∃ y_ : List (S54), y_ = (([] : List (S54))) := ⟨_, rfl⟩
  replace H : (jitneyref20_Live.l0 k l0 a1 y121 0) = some r := by first | (rw [hy121]; with_reducible exact H) | (have H2_ := (Option.bind_some _ _).symm.trans H; rw [hy121]; with_reducible exact H2_) | (have H2_ := (Option.bind_some _ _).symm.trans H; with_reducible exact H2_) | with_reducible exact H | (rw [hy121]; exact H) | exact H
  have Ny121 := Aside0.mk hy121
  clear hy121
  have H' := Aside0.mk H
  clear H
  go_enter Try.func12, Try.ntmps12
  go_wp2_with (first | ((with_reducible refine gate_dst (N := 7) rfl ?_); refine Kd.R_lit k54 _ 54 ?hg (N := 7) ?hd (xs := ([] : List (S54))) (inner := []) (ok := fun _ => True) (okp := fun _ => True) ?hr ?hp (fun _ hk => hk) trivial (Below.refl _ _) (Nat.le_refl _) (by simp) ?_; (case hd => rfl); (case hg => rfl); (case hr => first | (go_simp; done) | (go_simp; rfl)); (case hp => exact (Reps.none _ _)); intro v122 w3 ho4 hb hg_ hnew_; clear hg_ hnew_; (first | rw [← Ny121.out] at ho4 | (simp only [Int.reduceToNat] at ho4; rw [← Ny121.out] at ho4)); have n0_ := Aside0.mk (Kd.R_lower ho4 (below_size (by repeat (first | (with_reducible first | exact HB.out | apply below_alloc | apply pw_below_drewN | apply below_drew1) | exact HB.out)))); have n1_ := Aside0.mk (below_step (by repeat (first | (with_reducible first | exact HB.out | apply below_alloc | apply pw_below_drewN | apply below_drew1) | exact HB.out)) hb); clear HB; have HO123 := n0_; have HB := n1_; clear n0_ n1_; clear hb ho4))
  go_loopg [5, 6] k (fun kq v5 v6 w' => ∃ (x5_1 : List (S54)) (x6_1 : Int), v6 = .int .i64 x6_1 ∧ Aside0 (jitneyref20_Live.l0 kq l0 a1 x5_1 x6_1 = some r) ∧ Aside0 (kq ≤ k) ∧ Aside0 (Kd.R k54 54 w' w.heap.size (fun _ => True) v5 x5_1) ∧ Aside0 (Below w.heap.size w w'))
  case atStart => exact ⟨(y121), (0), (by first | rfl | (simp; done) | (simp [*]; done)), H', ⟨Nat.le_refl _⟩, ⟨by (with_reducible repeat (first | apply Kd.R_alloc | apply Kd.R_drewN | apply Kd.R_drew)); exact HO123.out⟩, ⟨by repeat (first | (with_reducible first | exact HB.out | apply below_alloc | apply pw_below_drewN | apply below_drew1) | exact HB.out)⟩⟩
  case round =>
    clear H'
    try clear c1
    try clear p2
    obtain ⟨x5_1, x6_1, rfl, HA, HK1, HO_5, HB⟩ := hrel
    cases gk with
    | zero => exact absurd HA.out (by simp [jitneyref20_Live.l0])
    | succ k1 =>
      have H := HA.out
      clear HA
      simp only [jitneyref20_Live.l0] at H
      by_cases c5 : x6_1 < (l0.length : Int)
      · rw [if_pos c5] at H
        have c5b0 : decide (x6_1 < (l0.length : Int)) = true := decide_eq_true c5
        clear c5
        by_cases c6 : 0 ≤ x6_1
        · rw [if_pos c6] at H
          have c6b0 : decide (0 ≤ x6_1) = true := decide_eq_true c6
          clear c6
          by_cases c7 : a1 < ((rd_T54 l0 x6_1).f2)
          · rw [if_pos c7] at H
            have c7b0 : decide (a1 < ((rd_T54 l0 x6_1).f2)) = true := decide_eq_true c7
            clear c7
            by_cases c8 : x5_1.length < 5864062014805
            · rw [if_pos c8] at H
              have LMc8 := Aside0.mk c8
              clear c8
              obtain ⟨y126, hy126⟩ : ∃ y_ : List (S54), y_ = (x5_1 ++ [(⟨(rd_T54 l0 x6_1).f0, (rd_T54 l0 x6_1).f1, (rd_T54 l0 x6_1).f2⟩ : S54)]) := ⟨_, rfl⟩
              replace H : (jitneyref20_Live.l0 k1 l0 a1 y126 (wrap64 (x6_1 + 1))) = some r := by first | (rw [hy126]; with_reducible exact H) | (have H2_ := (Option.bind_some _ _).symm.trans H; rw [hy126]; with_reducible exact H2_) | (have H2_ := (Option.bind_some _ _).symm.trans H; with_reducible exact H2_) | with_reducible exact H | (rw [hy126]; exact H) | exact H
              have Ny126 := Aside0.mk hy126
              clear hy126
              have H' := Aside0.mk H
              clear H
              have p124 : 0 ≤ (x6_1 : Int) := of_decide_eq_true (by first | (with_reducible assumption) | assumption)
              have q124 : x6_1 < (l0.length : Int) := of_decide_eq_true (by first | (with_reducible assumption) | assumption)
              obtain ⟨ad124, e124, hx124_0, hx124_1, hx124_2⟩ := at_T54 HR0.out x6_1 p124 q124
              cases e124
              replace hx124_0 := (HB.out.cell (World.block_lt_of_cell? w _ hx124_0)).trans hx124_0
              replace hx124_1 := (HB.out.cell (World.block_lt_of_cell? w _ hx124_1)).trans hx124_1
              replace hx124_2 := (HB.out.cell (World.block_lt_of_cell? w _ hx124_2)).trans hx124_2
              replace p124 := eq_true p124
              replace q124 := eq_true q124
              have p125 : 0 ≤ (x6_1 : Int) := of_decide_eq_true (by first | (with_reducible assumption) | assumption)
              have q125 : x6_1 < (l0.length : Int) := of_decide_eq_true (by first | (with_reducible assumption) | assumption)
              obtain ⟨ad125, e125, hx125_0, hx125_1, hx125_2⟩ := at_T54 HR0.out x6_1 p125 q125
              obtain rfl : ad124 = ad125 := (by injection e125)
              replace hx125_0 := (HB.out.cell (World.block_lt_of_cell? w _ hx125_0)).trans hx125_0
              replace hx125_1 := (HB.out.cell (World.block_lt_of_cell? w _ hx125_1)).trans hx125_1
              replace hx125_2 := (HB.out.cell (World.block_lt_of_cell? w _ hx125_2)).trans hx125_2
              replace p125 := eq_true p125
              replace q125 := eq_true q125
              go_wp2_with (first | ((with_reducible refine gate_builtin (b := .append) (xs := #[.tmp 21, .tmp 26]) rfl ?_); at_builtin; refine Kd.R_append k54 (w0 := w) w.heap.size rfl (.tmp 21) (.tmp 26) 27 54 (.agg #[(.int .i64 0), (.int .i64 0), (.int .i64 0)]) 24 rfl Try.underlying27 info54 rfl (by decide) (by omega) u5 x5_1 (⟨(rd_T54 l0 x6_1).f0, (rd_T54 l0 x6_1).f1, (rd_T54 l0 x6_1).f2⟩ : S54) [.int .i64 ((rd_T54 l0 x6_1).f0), .int .i64 ((rd_T54 l0 x6_1).f1), .int .i64 ((rd_T54 l0 x6_1).f2)] (fun _ => True) (fun _ => False) rfl rfl ?aP (fun _ hk => hk.elim) ?aF ?aO ?aB ?aS ?aL ?_; (case aP => exact k54_mkM _ _ _ (⟨(rd_T54 l0 x6_1).f0, (rd_T54 l0 x6_1).f1, (rd_T54 l0 x6_1).f2⟩ : S54)); (case aB => exact (by repeat (first | (with_reducible first | exact HB.out | apply below_alloc | apply pw_below_drewN | apply below_drew1) | exact HB.out))); (case aF => exact (fun _ _ => trivial)); (case aO => exact (by (with_reducible repeat (first | apply Kd.R_alloc | apply Kd.R_drewN | apply Kd.R_drew)); exact HO_5.out)); (case aS => exact (below_size (by repeat (first | (with_reducible first | exact HB.out | apply below_alloc | apply pw_below_drewN | apply below_drew1) | exact HB.out)))); (case aL => have := LMc8.out; omega); intro v127 w9 ho hb hg hat; rw [← Ny126.out] at ho; have n0_ := Aside0.mk (hb); have n1_ := Aside0.mk (ho); clear HB; clear HO_5; have HB := n0_; have HO128 := n1_; clear n0_ n1_; clear ho hb hg hat))
              go_roundg k1
              case measure => have := HK1.out; omega
              case rel => exact ⟨(y126), (wrap64 (x6_1 + 1)), (by first | rfl | (simp; done) | (simp [*]; done)), H', ⟨by have := HK1.out; omega⟩, ⟨by (with_reducible repeat (first | apply Kd.R_alloc | apply Kd.R_drewN | apply Kd.R_drew)); exact HO128.out⟩, ⟨by repeat (first | (with_reducible first | exact HB.out | apply below_alloc | apply pw_below_drewN | apply below_drew1) | exact HB.out)⟩⟩
            · rw [if_neg c8] at H
              exact absurd H (by simp)
          · rw [if_neg c7] at H
            have c7b0 : decide (a1 < ((rd_T54 l0 x6_1).f2)) = false := decide_eq_false c7
            clear c7
            have H' := Aside0.mk H
            clear H
            have p124 : 0 ≤ (x6_1 : Int) := of_decide_eq_true (by first | (with_reducible assumption) | assumption)
            have q124 : x6_1 < (l0.length : Int) := of_decide_eq_true (by first | (with_reducible assumption) | assumption)
            obtain ⟨ad124, e124, hx124_0, hx124_1, hx124_2⟩ := at_T54 HR0.out x6_1 p124 q124
            cases e124
            replace hx124_0 := (HB.out.cell (World.block_lt_of_cell? w _ hx124_0)).trans hx124_0
            replace hx124_1 := (HB.out.cell (World.block_lt_of_cell? w _ hx124_1)).trans hx124_1
            replace hx124_2 := (HB.out.cell (World.block_lt_of_cell? w _ hx124_2)).trans hx124_2
            replace p124 := eq_true p124
            replace q124 := eq_true q124
            go_wp2
            go_roundg k1
            case measure => have := HK1.out; omega
            case rel => exact ⟨(x5_1), (wrap64 (x6_1 + 1)), (by first | rfl | (simp; done) | (simp [*]; done)), H', ⟨by have := HK1.out; omega⟩, ⟨by (with_reducible repeat (first | apply Kd.R_alloc | apply Kd.R_drewN | apply Kd.R_drew)); exact HO_5.out⟩, ⟨by repeat (first | (with_reducible first | exact HB.out | apply below_alloc | apply pw_below_drewN | apply below_drew1) | exact HB.out)⟩⟩
        · rw [if_neg c6] at H
          exact absurd H (by simp)
      · rw [if_neg c5] at H
        have c5b0 : decide (x6_1 < (l0.length : Int)) = false := decide_eq_false c5
        clear c5
        obtain rfl := Option.some.inj H
        go_wp2
        go_ret
        exact ⟨_, by first | rfl | (simp [errW_none, errW_some] <;> rfl) | (simp [*, errW_none, errW_some] <;> rfl), by (with_reducible repeat (first | apply Kd.R_alloc | apply Kd.R_drewN | apply Kd.R_drew)); exact HO_5.out, by repeat (first | (with_reducible first | exact HB.out | apply below_alloc | apply pw_below_drewN | apply below_drew1) | exact HB.out)⟩

/-! ### jitneyref20_Is: function 14 -/
def jitneyref20_Is.l0 : Nat → List (S54) → Int → Int → Int → Int → Option (Bool)
  | 0, _, _, _, _, _ => none
  | k + 1, x0, x1, x2, x3, x9 => if x9 < (x0.length : Int) then (if 0 ≤ x9 then (if ((rd_T54 x0 x9).f0) = x1 then (if ((rd_T54 x0 x9).f1) = x2 then (if x3 < ((rd_T54 x0 x9).f2) then (some true) else (jitneyref20_Is.l0 k x0 x1 x2 x3 (wrap64 (x9 + 1)))) else (jitneyref20_Is.l0 k x0 x1 x2 x3 (wrap64 (x9 + 1)))) else (jitneyref20_Is.l0 k x0 x1 x2 x3 (wrap64 (x9 + 1)))) else (none)) else (some false)
def jitneyref20_Is.f (k : Nat) (l0 : List (S54)) (a1 : Int) (a2 : Int) (a3 : Int) : Option (Bool) := jitneyref20_Is.l0 k l0 a1 a2 a3 0
theorem jitneyref20_Is.mono_l : ∀ k, (∀ y0 y1 y2 y3 y4, LeO (jitneyref20_Is.l0 k y0 y1 y2 y3 y4) (jitneyref20_Is.l0 (k + 1) y0 y1 y2 y3 y4))
  | 0 => fun _ _ _ _ _ r h => by simp [jitneyref20_Is.l0] at h
  | k + 1 => by
    have ih0 := jitneyref20_Is.mono_l k
    · intro y0 y1 y2 y3 y4
      unfold jitneyref20_Is.l0
      repeat' first
      | (with_reducible exact ih0 _ _ _ _ _)
      | (with_reducible exact LeO.refl _)
      | (with_reducible exact LeO.none _)
      | (with_reducible refine LeO.ite ?_ ?_)
      | (with_reducible refine LeO.bind ?_ (fun _ => ?_))
      | exact ih0 _ _ _ _ _
      | exact LeO.none _
      | refine LeO.ite ?_ ?_
      | refine LeO.bind ?_ (fun _ => ?_)
theorem jitneyref20_Is.mono : ∀ a0 a1 a2 a3 k, LeO (jitneyref20_Is.f k a0 a1 a2 a3) (jitneyref20_Is.f (k + 1) a0 a1 a2 a3) := by
  intro a0 a1 a2 a3 k
  have ih0 := jitneyref20_Is.mono_l k
  unfold jitneyref20_Is.f
  repeat' first
      | (with_reducible exact ih0 _ _ _ _ _)
      | (with_reducible exact LeO.refl _)
      | (with_reducible exact LeO.none _)
      | (with_reducible refine LeO.ite ?_ ?_)
      | (with_reducible refine LeO.bind ?_ (fun _ => ?_))
      | exact ih0 _ _ _ _ _
      | exact LeO.none _
      | refine LeO.ite ?_ ?_
      | refine LeO.bind ?_ (fun _ => ?_)
set_option maxHeartbeats 8000000 in
set_option maxRecDepth 100000 in
theorem jitneyref20_Is.calls (k : Nat) (A0 : Option Addr) (c0 : Nat) (l0 : List (S54)) (a1 : Int) (a2 : Int) (a3 : Int) (r : Bool) (w : World) (hr0 : Kd.C k54 w A0 l0.length l0) (hc0 : l0.length ≤ c0) (h : jitneyref20_Is.f k l0 a1 a2 a3 = some r) :
    Calls Try.prog 14 #[.slice A0 l0.length c0, .int .i64 a1, .int .i64 a2, .int .i64 a3] w fun e w' => e = .returned (.bool r) ∧ Drawn0 w w' := by
  have HR0 := Aside0.mk hr0
  have HC0 := Aside0.mk hc0
  clear hr0 hc0
  have H : (jitneyref20_Is.l0 k l0 a1 a2 a3 0) = some r := h
  clear h
  have H' := Aside0.mk H
  clear H
  go_enter Try.func14, Try.ntmps14
  go_wp2
  go_loopg [9] k (fun kq v9 w' => ∃ (x9_1 : Int), v9 = .int .i64 x9_1 ∧ Aside0 (jitneyref20_Is.l0 kq l0 a1 a2 a3 x9_1 = some r) ∧ Aside0 (kq ≤ k) ∧ Drawn0 w w')
  case atStart => exact ⟨(0), (by first | rfl | (simp; done) | (simp [*]; done)), H', ⟨Nat.le_refl _⟩, by repeat (first | exact Drawn0.refl _ | apply Drawn0.step)⟩
  case round =>
    clear H'
    try clear c1
    try clear p2
    obtain ⟨x9_1, rfl, HA, HK1, ⟨m1, rfl⟩⟩ := hrel
    cases gk with
    | zero => exact absurd HA.out (by simp [jitneyref20_Is.l0])
    | succ k1 =>
      have H := HA.out
      clear HA
      simp only [jitneyref20_Is.l0] at H
      by_cases c5 : x9_1 < (l0.length : Int)
      · rw [if_pos c5] at H
        have c5b0 : decide (x9_1 < (l0.length : Int)) = true := decide_eq_true c5
        clear c5
        by_cases c6 : 0 ≤ x9_1
        · rw [if_pos c6] at H
          have c6b0 : decide (0 ≤ x9_1) = true := decide_eq_true c6
          clear c6
          by_cases c7 : ((rd_T54 l0 x9_1).f0) = a1
          · rw [if_pos c7] at H
            have c7b0 : (((rd_T54 l0 x9_1).f0) == a1) = true := beq_iff_eq.mpr c7
            have c7b1 : (((rd_T54 l0 x9_1).f0) != a1) = false := bne_eq_false_iff_eq.mpr c7
            clear c7
            by_cases c8 : ((rd_T54 l0 x9_1).f1) = a2
            · rw [if_pos c8] at H
              have c8b0 : (((rd_T54 l0 x9_1).f1) == a2) = true := beq_iff_eq.mpr c8
              have c8b1 : (((rd_T54 l0 x9_1).f1) != a2) = false := bne_eq_false_iff_eq.mpr c8
              clear c8
              by_cases c9 : a3 < ((rd_T54 l0 x9_1).f2)
              · rw [if_pos c9] at H
                have c9b0 : decide (a3 < ((rd_T54 l0 x9_1).f2)) = true := decide_eq_true c9
                clear c9
                obtain rfl := Option.some.inj H
                have p129 : 0 ≤ (x9_1 : Int) := of_decide_eq_true (by first | (with_reducible assumption) | assumption)
                have q129 : x9_1 < (l0.length : Int) := of_decide_eq_true (by first | (with_reducible assumption) | assumption)
                obtain ⟨ad129, e129, hx129_0, hx129_1, hx129_2⟩ := at_T54 HR0.out x9_1 p129 q129
                cases e129
                replace p129 := eq_true p129
                replace q129 := eq_true q129
                have p130 : 0 ≤ (x9_1 : Int) := of_decide_eq_true (by first | (with_reducible assumption) | assumption)
                have q130 : x9_1 < (l0.length : Int) := of_decide_eq_true (by first | (with_reducible assumption) | assumption)
                obtain ⟨ad130, e130, hx130_0, hx130_1, hx130_2⟩ := at_T54 HR0.out x9_1 p130 q130
                obtain rfl : ad129 = ad130 := (by injection e130)
                replace p130 := eq_true p130
                replace q130 := eq_true q130
                have p131 : 0 ≤ (x9_1 : Int) := of_decide_eq_true (by first | (with_reducible assumption) | assumption)
                have q131 : x9_1 < (l0.length : Int) := of_decide_eq_true (by first | (with_reducible assumption) | assumption)
                obtain ⟨ad131, e131, hx131_0, hx131_1, hx131_2⟩ := at_T54 HR0.out x9_1 p131 q131
                obtain rfl : ad129 = ad131 := (by injection e131)
                replace p131 := eq_true p131
                replace q131 := eq_true q131
                go_wp2
                go_ret
                exact ⟨by first | rfl | (simp; done) | (simp [*]; done), by repeat (first | exact Drawn0.refl _ | apply Drawn0.step)⟩
              · rw [if_neg c9] at H
                have c9b0 : decide (a3 < ((rd_T54 l0 x9_1).f2)) = false := decide_eq_false c9
                clear c9
                have H' := Aside0.mk H
                clear H
                have p129 : 0 ≤ (x9_1 : Int) := of_decide_eq_true (by first | (with_reducible assumption) | assumption)
                have q129 : x9_1 < (l0.length : Int) := of_decide_eq_true (by first | (with_reducible assumption) | assumption)
                obtain ⟨ad129, e129, hx129_0, hx129_1, hx129_2⟩ := at_T54 HR0.out x9_1 p129 q129
                cases e129
                replace p129 := eq_true p129
                replace q129 := eq_true q129
                have p130 : 0 ≤ (x9_1 : Int) := of_decide_eq_true (by first | (with_reducible assumption) | assumption)
                have q130 : x9_1 < (l0.length : Int) := of_decide_eq_true (by first | (with_reducible assumption) | assumption)
                obtain ⟨ad130, e130, hx130_0, hx130_1, hx130_2⟩ := at_T54 HR0.out x9_1 p130 q130
                obtain rfl : ad129 = ad130 := (by injection e130)
                replace p130 := eq_true p130
                replace q130 := eq_true q130
                have p131 : 0 ≤ (x9_1 : Int) := of_decide_eq_true (by first | (with_reducible assumption) | assumption)
                have q131 : x9_1 < (l0.length : Int) := of_decide_eq_true (by first | (with_reducible assumption) | assumption)
                obtain ⟨ad131, e131, hx131_0, hx131_1, hx131_2⟩ := at_T54 HR0.out x9_1 p131 q131
                obtain rfl : ad129 = ad131 := (by injection e131)
                replace p131 := eq_true p131
                replace q131 := eq_true q131
                go_wp2
                go_roundg k1
                case measure => have := HK1.out; omega
                case rel => exact ⟨(wrap64 (x9_1 + 1)), (by first | rfl | (simp; done) | (simp [*]; done)), H', ⟨by have := HK1.out; omega⟩, by repeat (first | exact Drawn0.refl _ | apply Drawn0.step)⟩
            · rw [if_neg c8] at H
              have c8b0 : (((rd_T54 l0 x9_1).f1) == a2) = false := beq_eq_false_iff_ne.mpr c8
              have c8b1 : (((rd_T54 l0 x9_1).f1) != a2) = true := bne_iff_ne.mpr c8
              have H' := Aside0.mk H
              clear H
              have p129 : 0 ≤ (x9_1 : Int) := of_decide_eq_true (by first | (with_reducible assumption) | assumption)
              have q129 : x9_1 < (l0.length : Int) := of_decide_eq_true (by first | (with_reducible assumption) | assumption)
              obtain ⟨ad129, e129, hx129_0, hx129_1, hx129_2⟩ := at_T54 HR0.out x9_1 p129 q129
              cases e129
              replace p129 := eq_true p129
              replace q129 := eq_true q129
              have p130 : 0 ≤ (x9_1 : Int) := of_decide_eq_true (by first | (with_reducible assumption) | assumption)
              have q130 : x9_1 < (l0.length : Int) := of_decide_eq_true (by first | (with_reducible assumption) | assumption)
              obtain ⟨ad130, e130, hx130_0, hx130_1, hx130_2⟩ := at_T54 HR0.out x9_1 p130 q130
              obtain rfl : ad129 = ad130 := (by injection e130)
              replace p130 := eq_true p130
              replace q130 := eq_true q130
              go_wp2
              go_roundg k1
              case measure => have := HK1.out; omega
              case rel => exact ⟨(wrap64 (x9_1 + 1)), (by first | rfl | (simp; done) | (simp [*]; done)), H', ⟨by have := HK1.out; omega⟩, by repeat (first | exact Drawn0.refl _ | apply Drawn0.step)⟩
          · rw [if_neg c7] at H
            have c7b0 : (((rd_T54 l0 x9_1).f0) == a1) = false := beq_eq_false_iff_ne.mpr c7
            have c7b1 : (((rd_T54 l0 x9_1).f0) != a1) = true := bne_iff_ne.mpr c7
            have H' := Aside0.mk H
            clear H
            have p129 : 0 ≤ (x9_1 : Int) := of_decide_eq_true (by first | (with_reducible assumption) | assumption)
            have q129 : x9_1 < (l0.length : Int) := of_decide_eq_true (by first | (with_reducible assumption) | assumption)
            obtain ⟨ad129, e129, hx129_0, hx129_1, hx129_2⟩ := at_T54 HR0.out x9_1 p129 q129
            cases e129
            replace p129 := eq_true p129
            replace q129 := eq_true q129
            go_wp2
            go_roundg k1
            case measure => have := HK1.out; omega
            case rel => exact ⟨(wrap64 (x9_1 + 1)), (by first | rfl | (simp; done) | (simp [*]; done)), H', ⟨by have := HK1.out; omega⟩, by repeat (first | exact Drawn0.refl _ | apply Drawn0.step)⟩
        · rw [if_neg c6] at H
          exact absurd H (by simp)
      · rw [if_neg c5] at H
        have c5b0 : decide (x9_1 < (l0.length : Int)) = false := decide_eq_false c5
        clear c5
        obtain rfl := Option.some.inj H
        go_wp2
        go_ret
        exact ⟨by first | rfl | (simp; done) | (simp [*]; done), by repeat (first | exact Drawn0.refl _ | apply Drawn0.step)⟩

-- NOT PRINTED: function 3 (jitneylaw20_TabuPlays)

end Go.Proofs.Ytihfnoaannjegaa.PTabuPlays
