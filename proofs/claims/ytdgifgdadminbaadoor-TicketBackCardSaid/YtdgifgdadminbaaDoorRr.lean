/- The reader's route. Written by this session. -/
import Derived.Test.YtdgifgdadminbaaDoorRw
import Derived.Deep.RegionLaw
import Derived.RegionDies
import Derived.Deep.DeepCutAuto
set_option linter.unusedSimpArgs false
set_option linter.unusedVariables false
set_option maxRecDepth 100000
namespace Go.Proofs.YtdgifgdadminbaaDoor
open Go.RowKit Go.Proofs.YtdgifgdadminbaaDoorW.PrintWords Sp
open PFileParses (wrap_id ba_len toList_data info3 info2 info9)

theorem info25 : (Tryd.prog.info? 25).map (fun i => (i.zero, i.size, i.bytes)) = some (some (.slice none 0 0), 1, 24) := by kernel_rfl
theorem info61 : (Tryd.prog.info? 61).map (fun i => (i.zero, i.size, i.bytes)) = some (some (.slice none 0 0), 1, 24) := by kernel_rfl

abbrev kRow : Kd (List Int) := Kd.slice 3 (Kd.int .i64)
abbrev kTim : Kd (List Int) := Kd.slice 2 (Kd.int .i64)

/-- Nothing below P has turned, but for block R. -/
structure Mid (R P : Nat) (w w' : World) : Prop where
  os : w'.os = w.os
  tape : w'.tape = w.tape
  output : w'.output = w.output
  size : w.heap.size ≤ w'.heap.size
  block : ∀ k, k < P → k ≠ R → w'.heap[k]? = w.heap[k]?
theorem Mid.refl (R P w) : Mid R P w w := ⟨rfl, rfl, rfl, Nat.le_refl _, fun _ _ _ => rfl⟩
theorem Mid.trans {R P a b c} (h : Mid R P a b) (k : Mid R P b c) : Mid R P a c :=
  ⟨k.os.trans h.os, k.tape.trans h.tape, k.output.trans h.output, Nat.le_trans h.size k.size, fun i hi hR => (k.block i hi hR).trans (h.block i hi hR)⟩
theorem Mid.of_ex {R P a b} (h : Ex R a b) (hP : P ≤ a.heap.size) : Mid R P a b := ⟨h.os, h.tape, h.output, h.size, fun i hi hR => h.block i (by omega) hR⟩
theorem Mid.of_below {R P B a b} (h : Below B a b) (hP : P ≤ B) : Mid R P a b := ⟨h.os, h.tape, h.output, h.size, fun i hi hR => h.block i (by omega)⟩
theorem Mid.below {R P a b} (h : Mid R P a b) (hR : R ≤ P) : Below R a b := ⟨h.os, h.tape, h.output, h.size, fun i hi => h.block i (by omega) (by omega)⟩

/-- A plan that is being read, in block P. -/
structure PS (P : Nat) (rv tv lv : Value) (cost : Int) (routes times : List (List Int)) (w : World) : Prop where
  blk : w.heap[P]? = some (.cells #[rv, tv, lv, .int .i64 cost] 27 (0, 0))
  rows : ∃ okR okT : Nat → Prop, Kd.R kRow 25 w (P + 1) okR rv routes ∧ Kd.R kTim 61 w (P + 1) okT tv times ∧ ∀ k, okR k → ¬ okT k

theorem PS.lt {P rv tv lv cost routes times w} (h : PS P rv tv lv cost routes times w) : P < w.heap.size := by
  rcases Nat.lt_or_ge P w.heap.size with g | g
  · exact g
  · have := h.blk
    rw [Array.getElem?_eq_none g] at this
    cases this
theorem PS.below {P rv tv lv cost routes times w w'} (h : PS P rv tv lv cost routes times w) (hb : Below w.heap.size w w') : PS P rv tv lv cost routes times w' := by
  obtain ⟨okR, okT, h1, h2, h3⟩ := h.rows
  exact ⟨(hb.block P h.lt).trans h.blk, okR, okT, Kd.R_below h1 hb, Kd.R_below h2 hb, h3⟩
theorem PS.ex {P rv tv lv cost routes times w w'} {R : Nat} (h : PS P rv tv lv cost routes times w) (hb : Ex R w w') (hR : R < P) : PS P rv tv lv cost routes times w' := by
  obtain ⟨okR, okT, h1, h2, h3⟩ := h.rows
  refine ⟨(hb.block P h.lt (by omega)).trans h.blk, _, _, Kd.R_step (Kd.R_bound h1) (fun k hk hlt => hb.block k hlt (by omega)), Kd.R_step (Kd.R_bound h2) (fun k hk hlt => hb.block k hlt (by omega)), fun k a b => h3 k a.1 b.1⟩

theorem Rd.belowB {R A c lines at_ w w'} {B : Nat} (h : Rd R A c lines at_ w) (hb : Below B w w') (hB : R < B) : Rd R A c lines at_ w' := by
  obtain ⟨w0, e, hC, hb0⟩ := h.old
  exact ⟨(hb.block R hB).trans h.blk, ⟨w0, e, hC, hb0.trans (hb.mono (Nat.le_of_lt hB))⟩, h.env.below hb (by have := h.low; omega), h.low, h.few, h.thin, h.at0, h.at1⟩

/-- What an append to the routes (or times) wants: the rows at the world behind the call that made the new one. -/
theorem grow_pre {e0 k0 : Nat} {w1 w2 : World} {P : Nat} {rv v : Value} {rows : List (List Int)} {row : List Int} {ok : Nat → Prop} (hR : Kd.R (Kd.slice k0 (Kd.int .i64)) e0 w1 (P + 1) ok rv rows) (hb : Below w1.heap.size w1 w2)
    (hv : Kd.R (Kd.int .i64) k0 w2 w1.heap.size (fun _ => True) v row) (hP : P < w1.heap.size) :
    Kd.R (Kd.slice k0 (Kd.int .i64)) e0 w2 (P + 1) (fun k => ok k ∨ w1.heap.size ≤ k) rv rows ∧ (Kd.slice k0 (Kd.int .i64)).M w2 (P + 1) (fun k => w1.heap.size ≤ k) row [v] ∧
    (∀ k, w1.heap.size ≤ k → (ok k ∨ w1.heap.size ≤ k) ∧ some k ≠ rv.ownBlock) ∧ (∀ k, w2.heap.size ≤ k → (ok k ∨ w1.heap.size ≤ k)) := by
  have hs := hb.size
  refine ⟨Kd.R_mono (Kd.R_below hR hb) (fun k h => .inl h), ⟨v, rfl, Kd.R_lower (Kd.R_mono (Kd.R_bound hv) (fun k h => h.2.1)) (by omega)⟩, fun k hk => ⟨.inr hk, fun e => ?_⟩, fun k hk => .inr (by omega)⟩
  have := Kd.R_lt hR k e.symm
  omega

theorem grow_blk {e0 k0 : Nat} {w1 w2 w3 : World} {P : Nat} {rv : Value} {rows : List (List Int)} {ok : Nat → Prop} {o : Obj} (hR : Kd.R (Kd.slice k0 (Kd.int .i64)) e0 w1 (P + 1) ok rv rows) (hP : w1.heap[P]? = some o) (hlt : P < w1.heap.size) (hb : Below w1.heap.size w1 w2) (hg : w2.grownBy w3 rv.ownBlock) : w3.heap[P]? = some o := by
  have h2 := (hb.block P hlt).trans hP
  refine (hg.block P (by have := hb.size; omega) (fun e => ?_)).trans h2
  have := Kd.R_base hR P e.symm
  omega

/-- The routes have grown, and the plan's field is set. -/
theorem PS.grewR {w1 w2 w3 : World} {P : Nat} {rv tv lv v1 : Value} {cost : Int} {routes times : List (List Int)} {row : List Int} {okR okT : Nat → Prop} (hblk : w1.heap[P]? = some (.cells #[rv, tv, lv, .int .i64 cost] 27 (0, 0)))
    (hR : Kd.R kRow 25 w1 (P + 1) okR rv routes) (hT : Kd.R kTim 61 w1 (P + 1) okT tv times) (hd : ∀ k, okR k → ¬ okT k) (hTl : ∀ k, okT k → k < w1.heap.size) (hlt : P < w1.heap.size) (hb : Below w1.heap.size w1 w2) (hg : w2.grownBy w3 rv.ownBlock)
    (hR1 : Kd.R kRow 25 w3 (P + 1) (fun k => okR k ∨ w1.heap.size ≤ k) v1 (routes ++ [row])) : PS P v1 tv lv cost (routes ++ [row]) times (w3.setCell ⟨P, 0, none⟩ v1) := by
  have h3 := grow_blk hR hblk hlt hb hg
  refine ⟨by simp [World.setCell, Array.getElem?_modify, h3], fun k => (okR k ∨ w1.heap.size ≤ k) ∧ P + 1 ≤ k, okT, ?_, ?_, ?_⟩
  · exact Kd.R_far (Kd.R_mono (Kd.R_bound hR1) (fun k h => ⟨h.1, h.2.1⟩)) (fun k h => by show k ≠ P; omega) _
  · have h1 := Kd.R_below hT hb
    have h2 := Kd.R_grown h1 hg (fun k hk e => hd k (hR.1 k e.symm) hk)
    have h3 := Kd.R_far (p := ⟨P, 0, none⟩) (Kd.R_bound h2) (fun k h => by show k ≠ P; omega) v1
    exact Kd.R_mono h3 (fun k h => h.1)
  · rintro k ⟨h | h, _⟩ ht
    · exact hd k h ht
    · have := hTl k ht; omega
theorem PS.grewT {w1 w2 w3 : World} {P : Nat} {rv tv lv v1 : Value} {cost : Int} {routes times : List (List Int)} {row : List Int} {okR okT : Nat → Prop} (hblk : w1.heap[P]? = some (.cells #[rv, tv, lv, .int .i64 cost] 27 (0, 0)))
    (hR : Kd.R kRow 25 w1 (P + 1) okR rv routes) (hT : Kd.R kTim 61 w1 (P + 1) okT tv times) (hd : ∀ k, okR k → ¬ okT k) (hRl : ∀ k, okR k → k < w1.heap.size) (hlt : P < w1.heap.size) (hb : Below w1.heap.size w1 w2) (hg : w2.grownBy w3 tv.ownBlock)
    (hT1 : Kd.R kTim 61 w3 (P + 1) (fun k => okT k ∨ w1.heap.size ≤ k) v1 (times ++ [row])) : PS P rv v1 lv cost routes (times ++ [row]) (w3.setCell ⟨P, 1, none⟩ v1) := by
  have h3 := grow_blk hT hblk hlt hb hg
  refine ⟨by simp [World.setCell, Array.getElem?_modify, h3], okR, fun k => (okT k ∨ w1.heap.size ≤ k) ∧ P + 1 ≤ k, ?_, ?_, ?_⟩
  · have h1 := Kd.R_below hR hb
    have h2 := Kd.R_grown h1 hg (fun k hk e => hd k hk (hT.1 k e.symm))
    have h3 := Kd.R_far (p := ⟨P, 1, none⟩) (Kd.R_bound h2) (fun k h => by show k ≠ P; omega) v1
    exact Kd.R_mono h3 (fun k h => h.1)
  · exact Kd.R_far (Kd.R_mono (Kd.R_bound hT1) (fun k h => ⟨h.1, h.2.1⟩)) (fun k h => by show k ≠ P; omega) _
  · rintro k hr ⟨h | h, _⟩
    · exact hd k hr h
    · have := hRl k hr; omega

def AnsL {α : Type} (R : Nat) (w : World) (s : Except (Int × Int) α) (Q : α → Ending → World → Prop) (e : Ending) (w' : World) : Prop :=
  match s with
  | .error x => Fell x.1 x.2 e ∧ Below R w w'
  | .ok x => Q x e w'

theorem wordsS_thin (s : ByteArray) : ∀ x ∈ (wordsS s).1, x.size ≤ s.size := by
  intro x hx
  unfold wordsS at hx
  split at hx
  · simp at hx
  · split at hx
    · obtain ⟨l, hl, rfl⟩ := List.mem_map.1 hx
      have := cutAt_len 32 _ l hl
      rw [mk_size]
      rwa [ba_len] at this
    · simp at hx
theorem nextS_ok {lines : List ByteArray} {i : Nat} {first : ByteArray} {ws : List ByteArray} (h : nextS lines i first = .ok ws) (ht : ∀ l ∈ lines, l.size ≤ 1048576) : ws.length ≤ 4096 ∧ ∀ x ∈ ws, x.size < 4294967281 := by
  unfold nextS at h
  split at h
  · cases h
  · rename_i l hl
    split at h
    · cases h
    · split at h
      · cases h
      · rename_i hm
        cases h
        refine ⟨by rw [List.length_tail]; omega, fun x hx => ?_⟩
        have h1 := wordsS_thin l x (List.mem_of_mem_tail hx)
        have h2 := ht l (List.mem_of_getElem? hl)
        omega

def routeQ (R P : Nat) (A : Option Addr) (c : Nat) (lines : List ByteArray) (i : Nat) (lv : Value) (cost : Int) (routes times : List (List Int)) (w : World) (x : List Int × List Int) (e : Ending) (w' : World) : Prop :=
  e = .returned (.tuple #[]) ∧ Rd R A c lines ((i : Int) + 2) w' ∧ (∃ rv tv, PS P rv tv lv cost (routes ++ [x.1]) (times ++ [x.2]) w') ∧ Mid R P w w'

set_option maxHeartbeats 8000000 in
theorem route_c (R P : Nat) (A c lines) (i : Nat) (rv tv lv : Value) (cost : Int) (routes times : List (List Int)) (w : World) (h : Rd R A c lines i w) (hp : PS P rv tv lv cost routes times w) (hRP : R < P) (hi : i ≤ 1000000)
    (hr : routes.length ≤ 1000) (ht : times.length ≤ 1000) :
    Calls Tryd.prog 72 #[.pointer (some ⟨R, 0, none⟩), .pointer (some ⟨P, 0, none⟩)] w fun e w' => AnsL R w (routeS lines i) (routeQ R P A c lines i lv cost routes times w) e w' := by
  have hn1 := next_c R A c lines i sRoute w h (by omega)
  have hPlt := hp.lt
  have hRlt := h.lt
  have hthin := h.thin
  cases hs1 : nextS lines i sRoute with
  | error er =>
    rw [hs1] at hn1
    have hspec : routeS lines i = .error ((i : Int) + 1, er) := by unfold routeS; rw [hs1]
    have HSP := Lib.hid hspec
    clear hspec hs1 h hp hthin
    unfold Ans sRoute at hn1
    dsimp only at hn1
    go_enter Tryd.func72, Tryd.ntmps72
    go_wp2_with fail
    refine hn1.mono ?_
    rintro e w1 ⟨he, hb⟩
    unfold Fell at he
    subst he
    go_wp2_with fail
    refine ⟨rfl, ?_⟩
    unfold AnsL
    rw [HSP.out]
    exact ⟨rfl, hb⟩
  | ok ws =>
    rw [hs1] at hn1
    obtain ⟨hwl, hwt⟩ := nextS_ok hs1 hthin
    have HS1 := Lib.hid hs1
    have HP := Lib.hid hp
    clear hs1 h hp
    unfold Ans sRoute nextQ at hn1
    dsimp only at hn1
    go_enter Tryd.func72, Tryd.ntmps72
    go_wp2_with fail
    refine hn1.mono ?_
    rintro e w1 ⟨A1, c1, rfl, hle1, hC1, hRd1, hEx1⟩
    have HRd1 := Lib.hid hRd1
    have HEx1 := Lib.hid hEx1
    have HP1 := Lib.hid (HP.out.ex hEx1 hRP)
    have HC1 := Lib.hid hC1
    have HTH := Lib.hid hthin
    have HWT := Lib.hid hwt
    have HWL := Lib.hid hwl
    have HM1 := Lib.hid (Mid.of_ex hEx1 (Nat.le_of_lt hPlt))
    clear hn1 hC1 hRd1 hEx1 hthin hwt hwl
    by_cases hnil : ws = []
    · subst hnil
      go_wp2_with fail
      refine (fail_c R A c lines _ 21 _ HRd1.out).mono ?_
      rintro e w2 ⟨he, rfl⟩
      unfold Fell at he
      subst he
      go_wp2_with fail
      refine ⟨rfl, ?_⟩
      have hspec : routeS lines i = .error ((i : Int) + 1, 21) := by unfold routeS; rw [HS1.out]; rfl
      unfold AnsL
      rw [hspec]
      exact ⟨rfl, HM1.out.below (Nat.le_of_lt hRP)⟩
    · have hpos : 0 < ws.length := List.length_pos_iff.2 hnil
      have hb0 : ((ws.length : Int) == 0) = false := by simp; omega
      have hWc := fun (w2 : World) (hb : Below w1.heap.size w1 w2) => wholes_c R A c lines ((i : Int) + 1) A1 c1 ws w2 (HRd1.out.below hb) (Kd.C_below HC1.out hb) (by have := HWL.out; omega) HWT.out
      have HNIL := Lib.hid hnil
      clear hnil
      have hP0 := cell_of_heap HP1.out.blk 0 rfl
      have hPz := frozen_of_heap HP1.out.blk 0
      go_wp2_with fail
      cases hrow : readAll wholeS ws with
      | error er =>
        have hspec : routeS lines i = .error ((i : Int) + 1, er) := by unfold routeS; rw [HS1.out]; dsimp only; rw [if_neg HNIL.out, hrow]
        have HSP := Lib.hid hspec
        simp only [hrow] at hWc
        unfold Ans at hWc
        clear hspec hrow
        dsimp only at hWc
        unfold Fell at hWc
        have HWC := Lib.hid hWc
        clear hWc
        have fin : ∀ w2, Below w1.heap.size w1 w2 → ∀ w3, Below R w2 w3 → AnsL R w (routeS lines i) (routeQ R P A c lines i lv cost routes times w) (.panicked [{ v := faultV ((i : Int) + 1) er, recovered := false }]) w3 := by
          intro w2 hb2 w3 hb3
          rw [HSP.out]
          exact ⟨rfl, (HM1.out.below (Nat.le_of_lt hRP)).trans ((hb2.mono (Nat.le_of_lt HRd1.out.lt)).trans hb3)⟩
        have FIN := Lib.hid fin
        clear fin
        go_region_dies
        all_goals
          refine (HWC.out _ (drewB _)).mono ?_
          rintro e w2 ⟨rfl, hb⟩
          exact ⟨rfl, FIN.out _ (drewB _) _ hb⟩
      | ok row =>
        simp only [hrow] at hWc
        unfold Ans wholesQ at hWc
        dsimp only at hWc
        have HROW := Lib.hid hrow
        clear hrow
        obtain ⟨okR, okT, hkR, hkT, hdj⟩ := HP1.out.rows
        have hkR1 := Kd.R_bound hkR
        have hkT1 := Kd.R_bound hkT
        have HKR := Lib.hid hkR1
        have HKT := Lib.hid hkT1
        have HDJ := Lib.hid hdj
        clear hkR hkT hkR1 hkT1 hdj
        have HWC := Lib.hid hWc
        clear hWc
        have hPa := fun (w2 : World) (hb : Below w1.drew.heap.size w1.drew w2) => cell_below (w := w1.drew) (w' := w2) (p := ⟨P, 0, none⟩) (v := rv) hP0 hb
        have hlt1 := HP1.out.lt
        have hbw : Below w1.heap.size w1 w1.drew := drewB w1
        have HKR2 := Lib.hid (Kd.R_below HKR.out hbw)
        have hblk2 := (hbw.block P hlt1).trans HP1.out.blk
        have HBLK2 := Lib.hid hblk2
        clear hblk2
        have hl24 : (routes.length + 1) * 24 ≤ 140737488355328 := by omega
        go_cut [] (fun wx => ∃ v1, Rd R A c lines ((i : Int) + 1) wx ∧ PS P v1 tv lv cost (routes ++ [row]) times wx ∧ Mid R P w wx)
        case first =>
         go_region_law (first | (refine Kd.R_append_step kRow (P + 1) rfl (.tmp 20) (.tmp 24) 23 25 (.slice none 0 0) 24 rfl Tryd.underlying23 info25 rfl (by decide) (by decide) rv routes row [.slice A9 row.length c9] _ _ rfl rfl hg1.out.2.1 hg1.out.2.2.1 hg1.out.2.2.2 hg1.out.1 (Below.refl _ _) hbase hl24 ?_; intro v1 w3 ho hb3 hg hat; obtain ⟨Az, cz, rfl⟩ := Kd.R_slice ho; have hP3 := grow_blk HKR2.out HBLK2.out hlt1 hb.out hg; have hP3c := cell_of_heap hP3 0 rfl; have hP3z := frozen_of_heap hP3 0; have HO3 := Lib.hid ho; have HB3 := Lib.hid hb3; have HG3 := Lib.hid hg; clear ho hb3 hg hat hP3) | (go_simp; go_at_call 70; refine (HWC.out _ (drewB _)).mono ?_; rintro e w2 ⟨v, rfl, hRv, hb0⟩; obtain ⟨A9, c9, rfl⟩ := Kd.R_slice hRv; have hPb := hPa _ hb0; have hPc := fun o => cell_below (w' := w2.alloc o) hPb ((Below.refl _ _).alloc (Nat.le_refl _) o); have hg1 := Lib.hid (grow_pre HKR2.out hb0 hRv hlt1); have hbase : P + 1 ≤ w2.heap.size := Nat.le_trans hlt1 hb0.size; have hb := Lib.hid hb0; clear hb0 hRv))
         all_goals
          clear hPb hPc
          have hPS := PS.grewR HBLK2.out HKR2.out (Kd.R_below HKT.out hbw) (fun k a b => HDJ.out k a.1 b.1) (fun k a => by have := a.2.2.1; have := hbw.size; omega) hlt1 hb.out HG3.out HO3.out
          rw [show (routes ++ [row]).length = routes.length + 1 by simp] at hPS
          have hBP : Below P w1 (w3.setCell ⟨P, 0, none⟩ (.slice Az (routes.length + 1) cz)) := by
            have h1 := (hbw.mono (Nat.le_of_lt hlt1)).trans (hb.out.mono (by have := hbw.size; omega))
            have h2 := h1.trans (HB3.out.mono (Nat.le_succ P))
            exact h2.setCell (p := ⟨P, 0, none⟩) (Nat.le_refl _) _
          have HPS := Lib.hid hPS
          have HBP := Lib.hid hBP
          clear hPS hBP
          go_wp2_with fail
          go_meet
          case rel => exact ⟨_, HRd1.out.belowB HBP.out hRP, HPS.out, HM1.out.trans (Mid.of_below HBP.out (Nat.le_refl _))⟩
        case rest =>
          obtain ⟨v1, hRd2, hPS2, hM2⟩ := hcut
          have hn2 := next_c R A c lines (i + 1) sTimes wc (by rw [show (((i + 1 : Nat) : Int)) = (i : Int) + 1 by omega]; exact hRd2) (by omega)
          rw [show (((i + 1 : Nat) : Int) + 1) = (i : Int) + 2 by omega] at hn2
          have hPl2 := hPS2.lt
          have HRd2 := Lib.hid hRd2
          have HPS2 := Lib.hid hPS2
          have HM2 := Lib.hid hM2
          clear hRd2 hPS2 hM2
          cases hs2 : nextS lines (i + 1) sTimes with
          | error er =>
            rw [hs2] at hn2
            have hspec : routeS lines i = .error ((i : Int) + 2, er) := by unfold routeS; rw [HS1.out]; dsimp only; rw [if_neg HNIL.out, HROW.out]; dsimp only; rw [hs2]
            have HSP := Lib.hid hspec
            clear hspec hs2
            unfold Ans sTimes at hn2
            dsimp only at hn2
            go_wp2_with fail
            refine hn2.mono ?_
            rintro e w4 ⟨he, hb⟩
            unfold Fell at he
            subst he
            go_wp2_with fail
            refine ⟨rfl, ?_⟩
            unfold AnsL
            rw [HSP.out]
            exact ⟨rfl, (HM2.out.below (Nat.le_of_lt hRP)).trans hb⟩
          | ok more =>
            rw [hs2] at hn2
            obtain ⟨hml, hmt⟩ := nextS_ok hs2 HTH.out
            have HS2 := Lib.hid hs2
            clear hs2
            unfold Ans sTimes nextQ at hn2
            dsimp only at hn2
            go_wp2_with fail
            refine hn2.mono ?_
            rintro e w4 ⟨A4, c4, rfl, hle4, hC4, hRd4, hEx4⟩
            have HRd4 := Lib.hid hRd4
            have HPS4 := Lib.hid (HPS2.out.ex hEx4 hRP)
            have HC4 := Lib.hid hC4
            have HMT := Lib.hid hmt
            have HML := Lib.hid hml
            have HM4 := Lib.hid (HM2.out.trans (Mid.of_ex hEx4 (Nat.le_of_lt hPl2)))
            clear hn2 hC4 hRd4 hEx4 hmt hml
            by_cases hbad : more.length ≠ ws.length ∧ 0 < more.length
            · have hq1 : ((more.length : Int) != (ws.length : Int)) = true := bne_iff_ne.2 (fun h => hbad.1 (by omega))
              have hq2 : decide ((0 : Int) < (more.length : Int)) = true := decide_eq_true (by omega)
              have hq3 : decide (0 < more.length) = true := decide_eq_true hbad.2
              have hq4 : 0 < more.length := hbad.2
              have hspec : routeS lines i = .error ((i : Int) + 2, 1) := by unfold routeS; rw [HS1.out]; dsimp only; rw [if_neg HNIL.out, HROW.out]; dsimp only; rw [HS2.out]; dsimp only; rw [if_pos hbad]
              have HSP := Lib.hid hspec
              clear hspec hbad
              go_wp2_with fail
              refine (fail_c R A c lines _ 1 _ HRd4.out).mono ?_
              rintro e w5 ⟨he, rfl⟩
              unfold Fell at he
              subst he
              go_wp2_with fail
              refine ⟨rfl, ?_⟩
              unfold AnsL
              rw [HSP.out]
              exact ⟨rfl, HM4.out.below (Nat.le_of_lt hRP)⟩
            · have HBAD := Lib.hid hbad
              obtain ⟨T1, hT10⟩ : ∃ T1, ((more.length : Int) != (ws.length : Int)) = T1 := ⟨_, rfl⟩
              have hT2 : T1 = true → decide ((0 : Int) < (more.length : Int)) = false := by
                intro h
                subst h
                refine decide_eq_false (fun h => hbad ⟨?_, by omega⟩)
                have := bne_iff_ne.1 hT10
                omega
              have hT4 : T1 = true → decide (0 < more.length) = false := by
                intro h
                have := hT2 h
                refine decide_eq_false (fun h2 => ?_)
                have h3 := of_decide_eq_false this
                omega
              clear hbad
              cases T1
              all_goals
                first | (have hT3 := hT2 rfl; have hT5 := hT4 rfl; clear hT2 hT4) | clear hT2 hT4
                go_wp2_with fail
                go_loopw [6, 8, 44] (fun out _ k wr => ∃ j : Nat, j ≤ more.length ∧ k = .int .i64 j ∧ (∀ x ∈ more.take j, (longS x).2 = 0) ∧ Kd.R (Kd.int .i64) 2 wr w4.heap.size (fun _ => True) out ((more.take j).map fun x => (longS x).1) ∧ Below w4.heap.size w4 wr) (fun _ _ k _ => more.length - (intOf k).toNat)
                case atStart => exact ⟨0, Nat.zero_le _, rfl, by simp, Kd.R_nil _ _ _ _ _, Below.refl _ _⟩
                case round =>
                  obtain ⟨j, hj, rfl, hall, hO, hB⟩ := hrel
                  have HALL := Lib.hid hall
                  have HO := Lib.hid hO
                  have HB := Lib.hid hB
                  clear hall hO hB
                  by_cases hlt : j < more.length
                  · obtain ⟨ad, rfl, hc⟩ := Kd.at_string (Kd.C_below HC4.out HB.out) j (by omega) (by omega)
                    rw [Int.toNat_natCast] at hc
                    have hrd : rdOf ByteArray.empty more (j : Int) = more[j]'hlt := by
                      unfold rdOf
                      rw [Int.toNat_natCast, List.getD_eq_getElem?_getD, List.getElem?_eq_getElem hlt]
                      rfl
                    rw [hrd] at hc
                    have hxk := HMT.out (more[j]'hlt) (List.getElem_mem hlt)
                    have hwj0 : wrap64 ((j : Int) + 1) = (j : Int) + 1 := wrap_id (by omega) (by have := HML.out; omega)
                    have hwj := Lib.hid hwj0
                    clear hwj0
                    clear hrd
                    go_wp2_with fail
                    refine (long_c R A c lines _ (more[j]'hlt) _ (HRd4.out.below HB.out) hxk).mono ?_
                    rintro e w5 ⟨hyes, hno, hd5⟩
                    have HB5 := Lib.hid (drawn_below HB.out hd5)
                    have HO5 := Lib.hid (R_drawn HO.out hd5)
                    clear hd5
                    by_cases hok : (longS (more[j]'hlt)).2 = 0
                    · have he := hno hok
                      subst he
                      have HOK := Lib.hid hok
                      clear hyes hno hok
                      go_wp2_with (first | ((with_reducible refine gate_builtin (b := .append) (xs := #[.tmp 48, .tmp 52]) rfl ?_); at_builtin; refine Kd.R_append (Kd.int .i64) (w0 := w4) w4.heap.size rfl (.tmp 48) (.tmp 52) 61 2 (.int .i64 0) 8 rfl Tryd.underlying61 info2 rfl (by decide) (by omega) u6 ((more.take j).map fun x => (longS x).1) (longS (more[j]'hlt)).1 [.int .i64 (longS (more[j]'hlt)).1] (fun _ => True) (fun _ => False) rfl rfl ?aP (fun _ hk => hk.elim) ?aF ?aO ?aB ?aS ?aL ?_; (case aP => exact rfl); (case aB => exact HB5.out); (case aF => exact (fun _ _ => trivial)); (case aO => exact HO5.out); (case aS => exact HB5.out.size); (case aL => (have := List.length_take_le j more; have := HML.out; rw [List.length_map]; omega)); intro v155 w13 ho hb hg hat; have n0_ := Lib.hid hb; have n1_ := Lib.hid ho; clear ho hb hg hat))
                      go_roundw
                      case rel =>
                        refine ⟨j + 1, by omega, by (rw [hwj.out]; rfl), ?_, ?_, n0_.out⟩
                        · intro x hx
                          rw [List.take_succ_eq_append_getElem hlt] at hx
                          rcases List.mem_append.1 hx with hx | hx
                          · exact HALL.out x hx
                          · rw [List.mem_singleton.1 hx, HOK.out]
                        · have h1 := n1_.out
                          rw [List.take_succ_eq_append_getElem hlt, List.map_append]
                          exact h1
                      case measure => (rw [hwj.out]; simp [intOf]; omega)
                    · have he := hyes hok
                      unfold Fell at he
                      subst he
                      clear hyes hno
                      go_wp2_with fail
                      refine ⟨rfl, ?_⟩
                      unfold AnsL
                      have hspec : routeS lines i = .error ((i : Int) + 2, (longS (more[j]'hlt)).2) := by
                        unfold routeS
                        rw [HS1.out]; dsimp only; rw [if_neg HNIL.out, HROW.out]; dsimp only; rw [HS2.out]; dsimp only; rw [if_neg HBAD.out, readAll_bad hlt HALL.out hok]
                      rw [hspec]
                      exact ⟨rfl, (HM4.out.below (Nat.le_of_lt hRP)).trans (HB5.out.mono (Nat.le_of_lt HRd4.out.lt))⟩
                  · have hj' : j = more.length := by omega
                    subst hj'
                    have hall2 := HALL.out
                    rw [List.take_length] at hall2
                    have hO2 := HO.out
                    rw [List.take_length] at hO2
                    have hspec : routeS lines i = .ok (row, more.map fun x => (longS x).1) := by
                      unfold routeS
                      rw [HS1.out]; dsimp only; rw [if_neg HNIL.out, HROW.out]; dsimp only; rw [HS2.out]; dsimp only; rw [if_neg HBAD.out, readAll_ok hall2]
                    have HSP := Lib.hid hspec
                    clear hspec hall2
                    obtain ⟨A9, c9, e9⟩ := Kd.R_slice hO2
                    rw [List.length_map] at e9
                    subst e9
                    obtain ⟨okR, okT, hkR, hkT, hdj⟩ := HPS4.out.rows
                    have HKR := Lib.hid (Kd.R_bound hkR)
                    have HKT := Lib.hid (Kd.R_bound hkT)
                    have HDJ := Lib.hid hdj
                    clear hkR hkT hdj
                    have hlt4 := HPS4.out.lt
                    have hP1 := cell_of_heap ((HB.out.block P hlt4).trans HPS4.out.blk) 1 rfl
                    have hg1 := Lib.hid (grow_pre HKT.out HB.out hO2 hlt4)
                    have hbase : P + 1 ≤ wr.heap.size := Nat.le_trans hlt4 HB.out.size
                    have hl24 : (times.length + 1) * 24 ≤ 140737488355328 := by omega
                    clear hO2
                    go_wp2_with (first | ((with_reducible refine gate_builtin (b := .append) (xs := #[.tmp 59, .tmp 61]) rfl ?_); at_builtin; refine Kd.R_append kTim (w0 := wr) (P + 1) rfl (.tmp 59) (.tmp 61) 24 61 (.slice none 0 0) 24 rfl Tryd.underlying24 info61 rfl (by decide) (by decide) tv times (more.map fun x => (longS x).1) [.slice A9 more.length c9] _ _ rfl ?aE hg1.out.2.1 hg1.out.2.2.1 hg1.out.2.2.2 hg1.out.1 (Below.refl _ _) hbase hl24 ?_; (case aE => rfl); intro v2 w6 ho hb3 hg hat; obtain ⟨Az, cz, rfl⟩ := Kd.R_slice ho; have hP3 := grow_blk HKT.out HPS4.out.blk hlt4 HB.out hg; have hP3c := cell_of_heap hP3 1 rfl; have hP3z := frozen_of_heap hP3 1; have HO3 := Lib.hid ho; have HB3 := Lib.hid hb3; have HG3 := Lib.hid hg; clear ho hb3 hg hat hP3))
                    have hPS := PS.grewT HPS4.out.blk HKR.out HKT.out (fun k a b => HDJ.out k a.1 b.1) (fun k a => a.2.2.1) hlt4 HB.out HG3.out HO3.out
                    rw [show (times ++ [more.map fun x => (longS x).1]).length = times.length + 1 by simp] at hPS
                    have hBP : Below P w4 (w6.setCell ⟨P, 1, none⟩ (.slice Az (times.length + 1) cz)) := by
                      have h1 := (HB.out.mono (Nat.le_of_lt hlt4)).trans (HB3.out.mono (Nat.le_succ P))
                      exact h1.setCell (p := ⟨P, 1, none⟩) (Nat.le_refl _) _
                    go_end0
                    unfold AnsL
                    rw [HSP.out]
                    refine ⟨rfl, HRd4.out.belowB hBP hRP, ⟨_, _, hPS⟩, HM4.out.trans (Mid.of_below hBP (Nat.le_refl _))⟩
end Go.Proofs.YtdgifgdadminbaaDoor
