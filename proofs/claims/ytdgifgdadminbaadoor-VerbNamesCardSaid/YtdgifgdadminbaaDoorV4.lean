/- Layer verb: read. Written by v4.py of this session. -/
import Derived.Test.YtdgifgdadminbaaDoorV3
set_option linter.unusedSimpArgs false
set_option linter.unusedVariables false
set_option maxRecDepth 100000
namespace Go.Proofs.YtdgifgdadminbaaDoor
open Go.RowKit Go.Proofs.YtdgifgdadminbaaDoorW.PrintWords Sp
open PFileParses (wrap_id ba_len bt_nat toList_data info3 info2 info9)

def Z55 : Obj := .cells #[.int .i64 0, .int .i64 0, .int .i64 0, .int .i64 0, .slice none 0 0, .string ⟨#[]⟩] 55 (0, 0)
theorem z55_cells {w : World} {b : Nat} (h : w.heap[b]? = some Z55) : w.cell? ⟨b, 0, none⟩ = some (.int .i64 0) ∧ w.cell? ⟨b, 1, none⟩ = some (.int .i64 0) ∧ w.cell? ⟨b, 2, none⟩ = some (.int .i64 0) ∧ w.cell? ⟨b, 3, none⟩ = some (.int .i64 0) ∧ w.cell? ⟨b, 4, none⟩ = some (.slice none 0 0) ∧ w.cell? ⟨b, 5, none⟩ = some (.string ⟨#[]⟩) :=
  ⟨cell_of_heap h 0 rfl, cell_of_heap h 1 rfl, cell_of_heap h 2 rfl, cell_of_heap h 3 rfl, cell_of_heap h 4 rfl, cell_of_heap h 5 rfl⟩
theorem z55_frozen {w : World} {b : Nat} (h : w.heap[b]? = some Z55) : w.frozen? ⟨b, 0, none⟩ = false ∧ w.frozen? ⟨b, 1, none⟩ = false ∧ w.frozen? ⟨b, 2, none⟩ = false ∧ w.frozen? ⟨b, 3, none⟩ = false ∧ w.frozen? ⟨b, 4, none⟩ = false ∧ w.frozen? ⟨b, 5, none⟩ = false :=
  ⟨frozen_of_heap h 0, frozen_of_heap h 1, frozen_of_heap h 2, frozen_of_heap h 3, frozen_of_heap h 4, frozen_of_heap h 5⟩
theorem setBlk {w : World} {b : Nat} {cs : Array Value} {t : TypeId} (h : w.heap[b]? = some (.cells cs t (0, 0))) (k : Nat) (v : Value) : (w.setCell ⟨b, k, none⟩ v).heap[b]? = some (.cells (cs.setIfInBounds k v) t (0, 0)) := by
  simp [World.setCell, Array.getElem?_modify, h]
def put6 (b : Nat) (v0 v1 v2 v3 v4 v5 : Value) (w : World) : World := (((((w.setCell ⟨b, 0, none⟩ v0).setCell ⟨b, 1, none⟩ v1).setCell ⟨b, 2, none⟩ v2).setCell ⟨b, 3, none⟩ v3).setCell ⟨b, 4, none⟩ v4).setCell ⟨b, 5, none⟩ v5
theorem put6_blk {b : Nat} {w : World} (h : w.heap[b]? = some Z55) (v0 v1 v2 v3 v4 v5 : Value) : (put6 b v0 v1 v2 v3 v4 v5 w).heap[b]? = some (.cells #[v0, v1, v2, v3, v4, v5] 55 (0, 0)) :=
  setBlk (setBlk (setBlk (setBlk (setBlk (setBlk h 0 _) 1 _) 2 _) 3 _) 4 _) 5 _
theorem put6_below {b B : Nat} {w0 w : World} (h : Below B w0 w) (hB : B ≤ b) (v0 v1 v2 v3 v4 v5 : Value) : Below B w0 (put6 b v0 v1 v2 v3 v4 v5 w) :=
  (((((h.setCell (p := ⟨b, 0, none⟩) hB _).setCell (p := ⟨b, 1, none⟩) hB _).setCell (p := ⟨b, 2, none⟩) hB _).setCell (p := ⟨b, 3, none⟩) hB _).setCell (p := ⟨b, 4, none⟩) hB _).setCell (p := ⟨b, 5, none⟩) hB _
theorem Q_put6 {α : Type} {d : Kd α} {e b base : Nat} {ok : Nat → Prop} {v : Value} {xs : List α} {w : World} (h : d.Q e w base ok v xs) (hk : ∀ k, ok k → k ≠ b) (v0 v1 v2 v3 v4 v5 : Value) : d.Q e (put6 b v0 v1 v2 v3 v4 v5 w) base ok v xs :=
  Kd.Q_far (p := ⟨b, 5, none⟩) (Kd.Q_far (p := ⟨b, 4, none⟩) (Kd.Q_far (p := ⟨b, 3, none⟩) (Kd.Q_far (p := ⟨b, 2, none⟩) (Kd.Q_far (p := ⟨b, 1, none⟩) (Kd.Q_far (p := ⟨b, 0, none⟩) h hk v0) hk v1) hk v2) hk v3) hk v4) hk v5
theorem Q_from {α : Type} {d : Kd α} {e : Nat} {w : World} {base base' : Nat} {ok : Nat → Prop} {v : Value} {xs : List α} (h : d.Q e w base ok v xs) (hb : base' ≤ base) : d.Q e w base' (fun k => base' ≤ k) v xs :=
  Kd.Q_lower (Kd.Q_mono (Kd.Q_bound h) (fun k h => by have := h.2.1; omega)) hb
theorem results_cell_row2 {P : Program} {fn : Func} {p t : Tmp} {ty : TypeId} (h : fn.results = #[.cell p ty, .tmp t]) (tmps : Array Value) (w : World) (g : Nat) (t0 : TypeId) (cs : Array Value) (fr : Nat × Nat) (d : TypeDesc)
    (hp : tmps.getD p undef = .pointer (some ⟨g, 0, none⟩)) (hg : w.heap[g]? = some (.cells cs t0 fr))
    (hu : P.underlying ty = some d) (hd : (match d with | .struct _ | .array _ _ => true | _ => false) = true) (hi : (P.info? ty).map (·.size) = some cs.size) :
    (results fn tmps).run P w = .ok (.tuple #[.agg cs, tmps.getD t undef]) w := by
  have hp' : tmps[p]?.getD undef = .pointer (some ⟨g, 0, none⟩) := by simpa using hp
  simp [results, h, hp', asAddr, run_loadVar_row w g t0 ty cs fr d hg hu hd hi]
theorem wordsV_thin (s : ByteArray) : ∀ x ∈ (wordsS s).1, x.size ≤ s.size := by
  intro x hx
  unfold wordsS at hx
  split at hx
  · simp at hx
  · split at hx
    · obtain ⟨l, hl, rfl⟩ := List.mem_map.1 hx
      have := cutAt_len 32 _ l hl
      rw [mk_size]
      rwa [ba_len] at this
    · simp at hx

def readV (s : ByteArray) : Except Int Cmd :=
  if (wordsS s).2 ≠ 0 then .error (wordsS s).2 else
  match (wordsS s).1 with
  | [] => .error 50
  | nm :: rest =>
    if kindS nm = 0 then .error 50 else
    if lenB (kindS nm) rest.length = false then .error 21 else
    if 4098 < rest.length then .error 3 else
    if kindS nm = 4 then
      if (readS (rest.getD 0 ByteArray.empty)).2 ≠ 0 then .error (readS (rest.getD 0 ByteArray.empty)).2 else .ok ⟨4, 0, 0, (readS (rest.getD 0 ByteArray.empty)).1, [], ⟨#[]⟩⟩
    else match readAll wholeS rest with
      | .error e => .error e
      | .ok ns => .ok ⟨kindS nm, ns.getD 0 0, ns.getD 1 0, 0, ns.drop 2, ⟨#[]⟩⟩
def readQ (s : ByteArray) (w : World) (e : Ending) (w' : World) : Prop := match readV s with
  | .error er => e = .returned (.tuple #[.agg #[.int .i64 0, .int .i64 0, .int .i64 0, .int .i64 0, .slice none 0 0, .string ⟨#[]⟩], .int .i64 er]) ∧ Below w.heap.size w w'
  | .ok c => ∃ v, e = .returned (.tuple #[.agg #[.int .i64 c.f0, .int .i64 c.f1, .int .i64 c.f2, .int .i64 c.f3, v, .string c.f5], .int .i64 0]) ∧ Kd.Q (Kd.int .i64) 3 w' w.heap.size (fun k => w.heap.size ≤ k) v c.f4 ∧ Below w.heap.size w w'

theorem readAll_errV {f : ByteArray → Int × Int} {ws : List ByteArray} {er : Int} (h : readAll f ws = .error er) : er ≠ 0 := by
  unfold readAll at h
  split at h
  · rename_i x hx
    cases h
    have := List.find?_some hx
    simpa using this
  · cases h
theorem readAll_lenV {f : ByteArray → Int × Int} {ws : List ByteArray} {ns : List Int} (h : readAll f ws = .ok ns) : ns.length = ws.length := by
  unfold readAll at h
  split at h
  · cases h
  · cases h
    simp

set_option maxHeartbeats 8000000 in
theorem readV_c (s : ByteArray) (w : World) (hE : EnvV w) (hs : s.size < 4294967281) :
    Calls Tryd.prog 60 #[.string s] w fun e w' => readQ s w e w' := by
  obtain ⟨W, hW⟩ : ∃ W, W = w.alloc Z55 := ⟨_, rfl⟩
  have hWs : W.heap.size = w.heap.size + 1 := by rw [hW]; simp
  have hbW : Below w.heap.size w W := by rw [hW]; exact (Below.refl _ _).alloc (Nat.le_refl _) _
  have hb0 : W.heap[w.heap.size]? = some Z55 := by rw [hW]; exact heap_alloc_new w Z55
  have h3 := hE.size
  have hEW := hE.below hbW hE.size
  obtain ⟨ws, hws⟩ : ∃ ws, ws = (wordsS s).1 := ⟨_, rfl⟩
  obtain ⟨ew, hew⟩ : ∃ ew, ew = (wordsS s).2 := ⟨_, rfl⟩
  have hthin := wordsV_thin s
  have hwd := words_walk s W hEW.env hs
  rw [← hws] at hthin
  rw [← hws, ← hew] at hwd
  have HW := Lib.hid hW
  have HbW := Lib.hid hbW
  have HB0 := Lib.hid hb0
  have HE := Lib.hid hE
  have HWS := Lib.hid hws
  have HEW := Lib.hid hew
  have HWD := Lib.hid hwd
  have HTH : Hid (∀ x ∈ ws, x.size < 4294967281) := Lib.hid (fun x hx => by have := hthin x hx; omega)
  clear hW hbW hb0 hEW hwd hws hew hE hthin
  go_enter Tryd.func60, Tryd.ntmps60
  go_upto_region 1 with fail
  rw [show w.alloc (.cells #[.int .i64 0, .int .i64 0, .int .i64 0, .int .i64 0, .slice none 0 0, .string ⟨#[]⟩] 55) = W from HW.out.symm]
  go_wp2_with fail
  refine HWD.out.mono ?_
  rintro e w1 ⟨v1, rfl, hR1, hbe1⟩
  have hz1 := hbe1.size
  have HC1 := Lib.hid ((hbe1.block _ (by omega)).trans HB0.out)
  have HBE1 := Lib.hid (HbW.out.trans (hbe1.mono (by omega)))
  have HR1 := Lib.hid hR1
  clear hR1 hbe1 HWD
  by_cases he : ew = 0
  · subst he
    obtain ⟨A, cl, rfl, hle, hC⟩ := Kd.R_reads HR1.out
    have HCC := Lib.hid hC
    clear hC
    cases ws with
    | nil =>
      have hspec : readV s = .error 50 := by unfold readV; rw [← HEW.out, ← HWS.out, if_neg (by decide)]
      have HSP := Lib.hid hspec
      clear hspec
      obtain ⟨q0, q1, q2, q3, q4, q5⟩ := z55_cells HC1.out
      obtain ⟨z0, z1, z2, z3, z4, z5⟩ := z55_frozen HC1.out
      go_wp2_with fail
      refine bodyPost_ret (v := .tuple #[.agg #[.int .i64 0, .int .i64 0, .int .i64 0, .int .i64 0, .slice none 0 0, .string ⟨#[]⟩], .int .i64 50]) ?_ rfl ?_
      · exact results_cell_row2 (P := Tryd.prog) (fn := Tryd.f60) (p := 2) (t := 3) (ty := 55) rfl _ _ w.heap.size 55 #[.int .i64 0, .int .i64 0, .int .i64 0, .int .i64 0, .slice none 0 0, .string ⟨#[]⟩] (0, 0) _ rfl (put6_blk HC1.out _ _ _ _ _ _) Tryd.underlying55 rfl (by kernel_rfl)
      · unfold readQ
        rw [HSP.out]
        exact ⟨rfl, put6_below HBE1.out (Nat.le_refl _) _ _ _ _ _ _⟩
    | cons nm rest =>
      obtain ⟨ad, rfl, hc0⟩ := Kd.at_string HCC.out 0 (by omega) (by simp)
      have hc0' : w1.cell? ad = some (.string nm) := by simpa [Addr.add, rdOf] using hc0
      have g0 : (((nm :: rest).length : Int) == 0) = false := beq_eq_false_iff_ne.2 (by simp; omega)
      have hnz : (nm :: rest).length = rest.length + 1 := rfl
      obtain ⟨k, hk⟩ : ∃ k, k = kindS nm := ⟨_, rfl⟩
      have hkn := kindS_nonneg nm
      rw [← hk] at hkn
      have hkc := fun W (hb : Below w1.heap.size w1 W) => kind_c nm W ((HE.out.below HBE1.out h3).below hb (by have := HBE1.out.size; omega))
      rw [← hk] at hkc
      have HK := Lib.hid hk
      have HKC := Lib.hid hkc
      clear hk hkc hc0
      go_wp2_with fail
      refine (HKC.out _ (Below.refl _ _)).mono ?_
      rintro e w2 ⟨rfl, hd2⟩
      have hbe2 := drawn_below (Below.refl w1.heap.size w1) hd2
      have hz2 := hbe2.size
      have HB2 := Lib.hid hbe2
      have HC2 := Lib.hid ((hbe2.block _ (by omega)).trans HC1.out)
      have HBE2 := Lib.hid (HBE1.out.trans (hbe2.mono (by have := HBE1.out.size; omega)))
      have hc2 : w2.cell? ad = some (.string nm) := cell_below hc0' hbe2
      clear hd2 hbe2 hc0'
      by_cases hk0 : k = 0
      · have g1 : (k == 0) = true := beq_iff_eq.2 hk0
        have hspec : readV s = .error 50 := by unfold readV; rw [← HEW.out, ← HWS.out, if_neg (by decide)]; dsimp only; rw [← HK.out, if_pos hk0]
        have HSP := Lib.hid hspec
        clear hspec hk0
        obtain ⟨q0, q1, q2, q3, q4, q5⟩ := z55_cells HC2.out
        obtain ⟨z0, z1, z2, z3, z4, z5⟩ := z55_frozen HC2.out
        go_wp2_with fail
        refine bodyPost_ret (v := .tuple #[.agg #[.int .i64 0, .int .i64 0, .int .i64 0, .int .i64 0, .slice none 0 0, .string ⟨#[]⟩], .int .i64 50]) ?_ rfl ?_
        · exact results_cell_row2 (P := Tryd.prog) (fn := Tryd.f60) (p := 2) (t := 3) (ty := 55) rfl _ _ w.heap.size 55 #[.int .i64 0, .int .i64 0, .int .i64 0, .int .i64 0, .slice none 0 0, .string ⟨#[]⟩] (0, 0) _ rfl (put6_blk HC2.out _ _ _ _ _ _) Tryd.underlying55 rfl (by kernel_rfl)
        · unfold readQ
          rw [HSP.out]
          exact ⟨rfl, put6_below HBE2.out (Nat.le_refl _) _ _ _ _ _ _⟩
      · have g1 : (k == 0) = false := beq_eq_false_iff_ne.2 hk0
        have HK0 := Lib.hid hk0
        clear hk0
        go_wp2_with fail
        refine (HKC.out _ HB2.out).mono ?_
        rintro e w3 ⟨rfl, hd3⟩
        have hbe3 := drawn_below (Below.refl w2.heap.size w2) hd3
        have hz3 := hbe3.size
        clear hc2 hd3
        obtain ⟨A1, hA1⟩ : ∃ A1 : Option Addr, A1 = (if cl = 1 then some ad else some ⟨ad.block, ad.off + 1, none⟩) := ⟨_, rfl⟩
        go_upto_region 8 with fail
        rw [← hA1]
        obtain ⟨W4, hW4⟩ : ∃ W, W = w3.alloc (.cells #[.int .i64 k, .int .i64 0, .int .i64 0, .int .i64 0, .slice none 0 0, .string ⟨#[]⟩] 55) := ⟨_, rfl⟩
        rw [← hW4]
        have hbW4 : Below w3.heap.size w3 W4 := by rw [hW4]; exact (Below.refl _ _).alloc (Nat.le_refl _) _
        have hb4 := hbe3.trans (hbW4.mono hz3)
        have hn4 : W4.heap[w3.heap.size]? = some (.cells #[.int .i64 k, .int .i64 0, .int .i64 0, .int .i64 0, .slice none 0 0, .string ⟨#[]⟩] 55 (0, 0)) := by rw [hW4]; exact heap_alloc_new w3 _
        have hz4 : w3.heap.size < W4.heap.size := by rw [hW4]; simp
        have HN4 := Lib.hid hn4
        have HC4 := Lib.hid ((hb4.block _ (by omega)).trans HC2.out)
        have HBE4 := Lib.hid (HBE2.out.trans (hb4.mono (by have := HBE2.out.size; omega)))
        have hCr : Kd.string.C W4 A1 rest.length rest := by
          have h1 := Kd.Q_drop (Kd.Q_of_R HR1.out) (k := 1) (by simp)
          have h2 := Kd.Q_below (Kd.Q_below h1 HB2.out) hb4
          obtain ⟨_, _, h3⟩ := Kd.Q_reads' h2
          have e1 : (if cl = 1 then some ad else (some ad).map (·.add (1 * Kd.string.sz))) = A1 := by
            rw [hA1]
            split
            · rfl
            · show some (ad.add (1 * 1)) = _
              simp [Addr.add]
          rw [e1] at h3
          exact h3
        have HCR := Lib.hid hCr
        have HTR : Hid (∀ x ∈ rest, x.size < 4294967281) := Lib.hid (fun x hx => HTH.out x (List.mem_cons_of_mem _ hx))
        have HE4 := Lib.hid (HE.out.below HBE4.out h3)
        obtain ⟨lb, hlb⟩ : ∃ lb, lb = lenB k rest.length := ⟨_, rfl⟩
        have hlen := fun W => PVerbPrints.verb_length.calls 1 k rest.length lb W (by rw [hlb]; exact length_f _ _)
        have HLB := Lib.hid hlb
        have HLEN := Lib.hid hlen
        have p0 := cell_of_heap hn4 0 rfl
        have hw4 : w.heap.size < w3.heap.size := by omega
        clear hW4 hbW4 hb4 hn4 hCr hlb hlen hA1 hbe3 HKC HB2 HC1 HC2 HBE1 HBE2 HR1 HCC g0 hle
        go_wp2_with fail
        refine (HLEN.out _).mono ?_
        rintro e w5 ⟨rfl, hd5⟩
        have hbe5 := drawn_below (Below.refl W4.heap.size W4) hd5
        have hz5 := hbe5.size
        have HN5 := Lib.hid ((hbe5.block _ (by omega)).trans HN4.out)
        have HC5 := Lib.hid ((hbe5.block _ (by omega)).trans HC4.out)
        have HBE5 := Lib.hid (HBE4.out.trans (hbe5.mono (by have := HBE4.out.size; omega)))
        have HCR5 := Lib.hid (Kd.C_below HCR.out hbe5)
        have HE5 := Lib.hid (HE4.out.below hbe5 (by omega))
        clear hd5 hbe5 HN4 HC4 HBE4 HCR HE4 HLEN p0
        cases lb with
        | false =>
          have hspec : readV s = .error 21 := by unfold readV; rw [← HEW.out, ← HWS.out, if_neg (by decide)]; dsimp only; rw [← HK.out, if_neg HK0.out, if_pos HLB.out.symm]
          have HSP := Lib.hid hspec
          clear hspec
          obtain ⟨q0, q1, q2, q3, q4, q5⟩ := z55_cells HC5.out
          obtain ⟨z0, z1, z2, z3, z4, z5⟩ := z55_frozen HC5.out
          go_wp2_with fail
          refine bodyPost_ret (v := .tuple #[.agg #[.int .i64 0, .int .i64 0, .int .i64 0, .int .i64 0, .slice none 0 0, .string ⟨#[]⟩], .int .i64 21]) ?_ rfl ?_
          · exact results_cell_row2 (P := Tryd.prog) (fn := Tryd.f60) (p := 2) (t := 3) (ty := 55) rfl _ _ w.heap.size 55 #[.int .i64 0, .int .i64 0, .int .i64 0, .int .i64 0, .slice none 0 0, .string ⟨#[]⟩] (0, 0) _ rfl (put6_blk HC5.out _ _ _ _ _ _) Tryd.underlying55 rfl (by kernel_rfl)
          · unfold readQ
            rw [HSP.out]
            exact ⟨rfl, put6_below HBE5.out (Nat.le_refl _) _ _ _ _ _ _⟩
        | true =>
          by_cases hmany : 4098 < rest.length
          · have g2 : decide ((4098 : Int) < (rest.length : Int)) = true := decide_eq_true (by omega)
            have hspec : readV s = .error 3 := by unfold readV; rw [← HEW.out, ← HWS.out, if_neg (by decide)]; dsimp only; rw [← HK.out, if_neg HK0.out, if_neg (by rw [← HLB.out]; decide), if_pos hmany]
            have HSP := Lib.hid hspec
            clear hspec hmany
            obtain ⟨q0, q1, q2, q3, q4, q5⟩ := z55_cells HC5.out
            obtain ⟨z0, z1, z2, z3, z4, z5⟩ := z55_frozen HC5.out
            go_wp2_with fail
            refine bodyPost_ret (v := .tuple #[.agg #[.int .i64 0, .int .i64 0, .int .i64 0, .int .i64 0, .slice none 0 0, .string ⟨#[]⟩], .int .i64 3]) ?_ rfl ?_
            · exact results_cell_row2 (P := Tryd.prog) (fn := Tryd.f60) (p := 2) (t := 3) (ty := 55) rfl _ _ w.heap.size 55 #[.int .i64 0, .int .i64 0, .int .i64 0, .int .i64 0, .slice none 0 0, .string ⟨#[]⟩] (0, 0) _ rfl (put6_blk HC5.out _ _ _ _ _ _) Tryd.underlying55 rfl (by kernel_rfl)
            · unfold readQ
              rw [HSP.out]
              exact ⟨rfl, put6_below HBE5.out (Nat.le_refl _) _ _ _ _ _ _⟩
          · have g2 : decide ((4098 : Int) < (rest.length : Int)) = false := decide_eq_false (by omega)
            have hpre : ∀ r, (if k = 4 then (if (readS (rest.getD 0 ByteArray.empty)).2 ≠ 0 then (.error (readS (rest.getD 0 ByteArray.empty)).2 : Except Int Cmd) else .ok ⟨4, 0, 0, (readS (rest.getD 0 ByteArray.empty)).1, [], ⟨#[]⟩⟩)
                else match readAll wholeS rest with
                  | .error e => .error e
                  | .ok ns => .ok ⟨k, ns.getD 0 0, ns.getD 1 0, 0, ns.drop 2, ⟨#[]⟩⟩) = r → readV s = r := by
              intro r hr
              unfold readV
              rw [← HEW.out, ← HWS.out, if_neg (by decide)]
              dsimp only
              rw [← HK.out, if_neg HK0.out, if_neg (by rw [← HLB.out]; decide), if_neg hmany]
              exact hr
            have HPRE := Lib.hid hpre
            have p0 := cell_of_heap HN5.out 0 rfl
            clear hpre
            by_cases h4 : k = 4
            · subst h4
              have hl1 : rest.length = 1 := by
                have := HLB.out
                unfold lenB at this
                rw [if_neg (by decide), if_neg (by decide)] at this
                have := beq_iff_eq.1 this.symm
                omega
              obtain ⟨x, rfl⟩ : ∃ x, rest = [x] := by
                match rest, hl1 with
                | [x], _ => exact ⟨x, rfl⟩
              obtain ⟨ad1, rfl, hcx⟩ := Kd.at_string HCR5.out 0 (by omega) (by simp)
              have hcx' : w5.cell? ad1 = some (.string x) := by simpa [Addr.add, rdOf] using hcx
              have f3 := frozen_of_heap HN5.out 3
              have hp3 := cell_of_heap HN5.out 3 rfl
              have hrd := read_walk x w5 HE5.out.env (HTR.out x (by simp))
              unfold readAns at hrd
              obtain ⟨n, hn⟩ : ∃ n, n = (readS x).1 := ⟨_, rfl⟩
              obtain ⟨er, her⟩ : ∃ er, er = (readS x).2 := ⟨_, rfl⟩
              rw [← hn, ← her] at hrd
              have HRD := Lib.hid hrd
              have HN := Lib.hid hn
              have HER := Lib.hid her
              clear hrd hn her hcx hl1 hmany
              go_wp2_with fail
              refine HRD.out.mono ?_
              rintro e w6 ⟨rfl, hd6⟩
              have hbe6 := drawn_below (Below.refl w5.heap.size w5) hd6
              have hz6 := hbe6.size
              have hn6 := (hbe6.block _ (by omega)).trans HN5.out
              have f36 := frozen_of_heap hn6 3
              have hp36 := cell_of_heap hn6 3 rfl
              have hc6 := (hbe6.block _ (by omega)).trans HC5.out
              have hbl6 := HBE5.out.trans (hbe6.mono (by have := HBE5.out.size; omega))
              obtain ⟨W7, hW7⟩ : ∃ W, W = w6.setCell ⟨w3.heap.size, 3, none⟩ (.int .i64 n) := ⟨_, rfl⟩
              have hn7 : W7.heap[w3.heap.size]? = some (.cells #[.int .i64 4, .int .i64 0, .int .i64 0, .int .i64 n, .slice none 0 0, .string ⟨#[]⟩] 55 (0, 0)) := by rw [hW7]; exact setBlk hn6 3 _
              have hc7 : W7.heap[w.heap.size]? = some Z55 := by rw [hW7]; exact (Below.heap_setCell w6 ⟨w3.heap.size, 3, none⟩ _ _ (by show w.heap.size ≠ w3.heap.size; omega)).trans hc6
              have hbl7 : Below w.heap.size w W7 := by rw [hW7]; exact hbl6.setCell (p := ⟨w3.heap.size, 3, none⟩) (by show w.heap.size ≤ w3.heap.size; omega) _
              have HN7 := Lib.hid hn7
              have HC7 := Lib.hid hc7
              have HBL7 := Lib.hid hbl7
              have HW7 := Lib.hid hW7
              clear hd6 hbe6 hn6 hc6 hbl6 hn7 hc7 hbl7 hW7 hcx' p0 hp3 f3 HRD
              go_upto_region 20 with fail
              rw [← HW7.out]
              clear f36 hp36
              by_cases hee : er = 0
              · subst hee
                have hspec : readV s = .ok ⟨4, 0, 0, n, [], ⟨#[]⟩⟩ := HPRE.out _ (by refine (if_pos (by trivial)).trans ?_; show (if (readS x).2 ≠ 0 then _ else _) = _; rw [← HER.out, if_neg (by decide)]; show Except.ok (⟨4, 0, 0, (readS x).1, [], ⟨#[]⟩⟩ : Cmd) = _; rw [← HN.out])
                have HSP := Lib.hid hspec
                clear hspec
                obtain ⟨q0, q1, q2, q3, q4, q5⟩ := z55_cells HC7.out
                obtain ⟨z0, z1, z2, z3, z4, z5⟩ := z55_frozen HC7.out
                have p0 := cell_of_heap HN7.out 0 rfl
                have p1 := cell_of_heap HN7.out 1 rfl
                have p2 := cell_of_heap HN7.out 2 rfl
                have p3 := cell_of_heap HN7.out 3 rfl
                have p4 := cell_of_heap HN7.out 4 rfl
                have p5 := cell_of_heap HN7.out 5 rfl
                go_wp2_with fail
                refine bodyPost_ret (v := .tuple #[.agg #[.int .i64 4, .int .i64 0, .int .i64 0, .int .i64 n, .slice none 0 0, .string ⟨#[]⟩], .int .i64 0]) ?_ rfl ?_
                · exact results_cell_row2 (P := Tryd.prog) (fn := Tryd.f60) (p := 2) (t := 3) (ty := 55) rfl _ _ w.heap.size 55 #[.int .i64 4, .int .i64 0, .int .i64 0, .int .i64 n, .slice none 0 0, .string ⟨#[]⟩] (0, 0) _ rfl (put6_blk HC7.out _ _ _ _ _ _) Tryd.underlying55 rfl (by kernel_rfl)
                · unfold readQ
                  rw [HSP.out]
                  exact ⟨_, rfl, Kd.Q_nil _ _ _ _ _, put6_below HBL7.out (Nat.le_refl _) _ _ _ _ _ _⟩
              · have g3 : (er != 0) = true := bne_iff_ne.2 hee
                have hspec : readV s = .error er := HPRE.out _ (by refine (if_pos (by trivial)).trans ?_; show (if (readS x).2 ≠ 0 then _ else _) = _; rw [← HER.out, if_pos hee]; show Except.error (readS x).2 = _; rw [← HER.out])
                have HSP := Lib.hid hspec
                clear hspec hee
                obtain ⟨q0, q1, q2, q3, q4, q5⟩ := z55_cells HC7.out
                obtain ⟨z0, z1, z2, z3, z4, z5⟩ := z55_frozen HC7.out
                go_wp2_with fail
                refine bodyPost_ret (v := .tuple #[.agg #[.int .i64 0, .int .i64 0, .int .i64 0, .int .i64 0, .slice none 0 0, .string ⟨#[]⟩], .int .i64 er]) ?_ rfl ?_
                · exact results_cell_row2 (P := Tryd.prog) (fn := Tryd.f60) (p := 2) (t := 3) (ty := 55) rfl _ _ w.heap.size 55 #[.int .i64 0, .int .i64 0, .int .i64 0, .int .i64 0, .slice none 0 0, .string ⟨#[]⟩] (0, 0) _ rfl (put6_blk HC7.out _ _ _ _ _ _) Tryd.underlying55 rfl (by kernel_rfl)
                · unfold readQ
                  rw [HSP.out]
                  exact ⟨rfl, put6_below HBL7.out (Nat.le_refl _) _ _ _ _ _ _⟩
            · have g4 : (k == 4) = false := beq_eq_false_iff_ne.2 h4
              have HPRE2 := Lib.hid (fun r hr => HPRE.out r (by rw [if_neg h4]; exact hr))
              clear h4 HPRE
              by_cases hr0 : rest.length = 0
              · obtain rfl := List.eq_nil_of_length_eq_zero hr0
                have hspec : readV s = .ok ⟨k, 0, 0, 0, [], ⟨#[]⟩⟩ := HPRE2.out _ rfl
                have HSP := Lib.hid hspec
                clear hspec hr0 hmany
                obtain ⟨q0, q1, q2, q3, q4, q5⟩ := z55_cells HC5.out
                obtain ⟨z0, z1, z2, z3, z4, z5⟩ := z55_frozen HC5.out
                have p0 := cell_of_heap HN5.out 0 rfl
                have p1 := cell_of_heap HN5.out 1 rfl
                have p2 := cell_of_heap HN5.out 2 rfl
                have p3 := cell_of_heap HN5.out 3 rfl
                have p4 := cell_of_heap HN5.out 4 rfl
                have p5 := cell_of_heap HN5.out 5 rfl
                go_wp2_with fail
                refine bodyPost_ret (v := .tuple #[.agg #[.int .i64 k, .int .i64 0, .int .i64 0, .int .i64 0, .slice none 0 0, .string ⟨#[]⟩], .int .i64 0]) ?_ rfl ?_
                · exact results_cell_row2 (P := Tryd.prog) (fn := Tryd.f60) (p := 2) (t := 3) (ty := 55) rfl _ _ w.heap.size 55 #[.int .i64 k, .int .i64 0, .int .i64 0, .int .i64 0, .slice none 0 0, .string ⟨#[]⟩] (0, 0) _ rfl (put6_blk HC5.out _ _ _ _ _ _) Tryd.underlying55 rfl (by kernel_rfl)
                · unfold readQ
                  rw [HSP.out]
                  exact ⟨_, rfl, Kd.Q_nil _ _ _ _ _, put6_below HBE5.out (Nat.le_refl _) _ _ _ _ _ _⟩
              · have g5 : decide ((0 : Int) < (rest.length : Int)) = true := decide_eq_true (by omega)
                have g5' : decide (0 < rest.length) = true := decide_eq_true (by omega)
                have hrp : 0 < rest.length := by omega
                have hwh := wholesV_c A1 (cl - 1) rest w5 HE5.out.env HCR5.out (by omega) HTR.out
                cases hra : readAll wholeS rest with
                | error er =>
                  have hner := readAll_errV hra
                  have HSP := Lib.hid (HPRE2.out (.error er) (by rw [hra]))
                  rw [hra] at hwh
                  unfold ansV at hwh
                  dsimp only at hwh
                  have HWH := Lib.hid hwh
                  have g3 : (er != 0) = true := bne_iff_ne.2 hner
                  have g3' : (er == 0) = false := beq_eq_false_iff_ne.2 hner
                  clear hwh hra hner hr0 hmany
                  go_wp2_with fail
                  refine HWH.out.mono ?_
                  rintro e w6 ⟨v6, rfl, hR6, hbe6⟩
                  have hc6 := (hbe6.block _ (by omega)).trans HC5.out
                  have hbl6 := HBE5.out.trans (hbe6.mono (by have := HBE5.out.size; omega))
                  clear hR6 hbe6 HWH
                  obtain ⟨q0, q1, q2, q3, q4, q5⟩ := z55_cells hc6
                  obtain ⟨z0, z1, z2, z3, z4, z5⟩ := z55_frozen hc6
                  go_wp2_with fail
                  refine bodyPost_ret (v := .tuple #[.agg #[.int .i64 0, .int .i64 0, .int .i64 0, .int .i64 0, .slice none 0 0, .string ⟨#[]⟩], .int .i64 er]) ?_ rfl ?_
                  · exact results_cell_row2 (P := Tryd.prog) (fn := Tryd.f60) (p := 2) (t := 3) (ty := 55) rfl _ _ w.heap.size 55 #[.int .i64 0, .int .i64 0, .int .i64 0, .int .i64 0, .slice none 0 0, .string ⟨#[]⟩] (0, 0) _ rfl (put6_blk hc6 _ _ _ _ _ _) Tryd.underlying55 rfl (by kernel_rfl)
                  · unfold readQ
                    rw [HSP.out]
                    exact ⟨rfl, put6_below hbl6 (Nat.le_refl _) _ _ _ _ _ _⟩
                | ok ns =>
                  have hnl : ns.length = rest.length := readAll_lenV hra
                  have HNL := Lib.hid hnl
                  have HSP := Lib.hid (HPRE2.out (.ok ⟨k, ns.getD 0 0, ns.getD 1 0, 0, ns.drop 2, ⟨#[]⟩⟩) (by rw [hra]))
                  rw [hra] at hwh
                  unfold ansV at hwh
                  dsimp only at hwh
                  have HWH := Lib.hid hwh
                  obtain ⟨n0, ns', rfl⟩ : ∃ n0 ns', ns = n0 :: ns' := by
                    cases ns with
                    | nil => simp at hnl; omega
                    | cons a b => exact ⟨a, b, rfl⟩
                  clear hwh hra hnl
                  go_wp2_with fail
                  refine HWH.out.mono ?_
                  rintro e w6 ⟨v6, rfl, hR6, hbe6⟩
                  obtain ⟨A6, c6, rfl, hle6, hC6⟩ := Kd.R_reads hR6
                  have hz6 := hbe6.size
                  have hn6 := (hbe6.block _ (by omega)).trans HN5.out
                  have f16 := frozen_of_heap hn6 1
                  have hp16 := cell_of_heap hn6 1 rfl
                  have hc6 := (hbe6.block _ (by omega)).trans HC5.out
                  have hbl6 := HBE5.out.trans (hbe6.mono (by have := HBE5.out.size; omega))
                  obtain ⟨ad6, rfl, hcn⟩ := Kd.at_int hC6 0 (by omega) (by simp)
                  have hcn' : w6.cell? ad6 = some (.int .i64 n0) := by simpa [Addr.add, rd] using hcn
                  obtain ⟨W7, hW7⟩ : ∃ W, W = w6.setCell ⟨w3.heap.size, 1, none⟩ (.int .i64 n0) := ⟨_, rfl⟩
                  have hn7 : W7.heap[w3.heap.size]? = some (.cells #[.int .i64 k, .int .i64 n0, .int .i64 0, .int .i64 0, .slice none 0 0, .string ⟨#[]⟩] 55 (0, 0)) := by rw [hW7]; exact setBlk hn6 1 _
                  have hc7 : W7.heap[w.heap.size]? = some Z55 := by rw [hW7]; exact (Below.heap_setCell w6 ⟨w3.heap.size, 1, none⟩ _ _ (by show w.heap.size ≠ w3.heap.size; omega)).trans hc6
                  have hbl7 : Below w.heap.size w W7 := by rw [hW7]; exact hbl6.setCell (p := ⟨w3.heap.size, 1, none⟩) (by show w.heap.size ≤ w3.heap.size; omega) _
                  have hQ7 : Kd.Q (Kd.int .i64) 3 W7 w5.heap.size (fun k => w5.heap.size ≤ k) (.slice (some ad6) (n0 :: ns').length c6) (n0 :: ns') := by
                    rw [hW7]
                    exact Kd.Q_far (p := ⟨w3.heap.size, 1, none⟩) (Kd.Q_mono (Kd.Q_bound (Kd.Q_of_R hR6)) (fun k h => h.2.1)) (fun k h => by show k ≠ w3.heap.size; omega) _
                  have HN7 := Lib.hid hn7
                  have HC7 := Lib.hid hc7
                  have HBL7 := Lib.hid hbl7
                  have HW7 := Lib.hid hW7
                  have HQ7 := Lib.hid hQ7
                  obtain ⟨A8, hA8⟩ : ∃ A8 : Option Addr, A8 = (if c6 = 1 then some ad6 else some ⟨ad6.block, ad6.off + 1, none⟩) := ⟨_, rfl⟩
                  have hQ8 : Kd.Q (Kd.int .i64) 3 W7 w5.heap.size (fun k => w5.heap.size ≤ k) (.slice A8 ns'.length (c6 - 1)) ns' := by
                    have h1 := Kd.Q_drop hQ7 (k := 1) (by simp)
                    have e1 : (if c6 = 1 then some ad6 else (some ad6).map (·.add (1 * (Kd.int .i64).sz))) = A8 := by
                      rw [hA8]
                      split
                      · rfl
                      · show some (ad6.add (1 * 1)) = _
                        simp [Addr.add]
                    rw [e1] at h1
                    exact h1
                  have HQ8 := Lib.hid hQ8
                  have hl0 : (n0 :: ns').length = ns'.length + 1 := rfl
                  clear hbe6 hn6 hc6 hbl6 hn7 hc7 hbl7 hW7 hQ7 hQ8 hR6 hC6 hcn HWH p0
                  go_upto_region 19 with fail
                  rw [← HW7.out]
                  clear f16 hp16 hcn'
                  cases ns' with
                  | nil =>
                    by_cases hc61 : c6 = 1
                    all_goals
                      first | subst hc61 | skip
                      clear hA8
                      go_wp2_with fail
                      refine (fill_none_c w3.heap.size _ _ W7).mono ?_
                      rintro e w8 ⟨rfl, rfl⟩
                      obtain ⟨q0, q1, q2, q3, q4, q5⟩ := z55_cells HC7.out
                      obtain ⟨z0, z1, z2, z3, z4, z5⟩ := z55_frozen HC7.out
                      have p0 := cell_of_heap HN7.out 0 rfl
                      have p1 := cell_of_heap HN7.out 1 rfl
                      have p2 := cell_of_heap HN7.out 2 rfl
                      have p3 := cell_of_heap HN7.out 3 rfl
                      have p4 := cell_of_heap HN7.out 4 rfl
                      have p5 := cell_of_heap HN7.out 5 rfl
                      go_wp2_with fail
                      refine bodyPost_ret (v := .tuple #[.agg #[.int .i64 k, .int .i64 n0, .int .i64 0, .int .i64 0, .slice none 0 0, .string ⟨#[]⟩], .int .i64 0]) ?_ rfl ?_
                      · exact results_cell_row2 (P := Tryd.prog) (fn := Tryd.f60) (p := 2) (t := 3) (ty := 55) rfl _ _ w.heap.size 55 #[.int .i64 k, .int .i64 n0, .int .i64 0, .int .i64 0, .slice none 0 0, .string ⟨#[]⟩] (0, 0) _ rfl (put6_blk HC7.out _ _ _ _ _ _) Tryd.underlying55 rfl (by kernel_rfl)
                      · unfold readQ
                        rw [HSP.out]
                        exact ⟨_, rfl, Kd.Q_nil _ _ _ _ _, put6_below HBL7.out (Nat.le_refl _) _ _ _ _ _ _⟩
                  | cons n1 ns2 =>
                    have hc61 : ¬ c6 = 1 := by have : ns2.length + 1 + 1 ≤ c6 := hle6; omega
                    rw [if_neg hc61] at hA8
                    subst hA8
                    obtain ⟨_, hle8, hC8⟩ := Kd.Q_reads' HQ8.out
                    obtain ⟨ad8, hA8e, hcn8⟩ := Kd.at_int hC8 0 (by omega) (by simp)
                    have hcn8' : W7.cell? ad8 = some (.int .i64 n1) := by simpa [Addr.add, rd] using hcn8
                    have hA8e := Option.some.inj hA8e
                    subst hA8e
                    have hfl := fill_c w3.heap.size _ (n1 :: ns2).length (c6 - 1) n1 W7 _ _ _ _ _ _ HN7.out (by simp) hle8 hcn8'
                    have HFL := Lib.hid hfl
                    obtain ⟨A9, hA9⟩ : ∃ A9 : Option Addr, A9 = (if c6 - 1 = 1 then some ⟨ad6.block, ad6.off + 1, none⟩ else some ⟨ad6.block, ad6.off + 1 + 1, none⟩) := ⟨_, rfl⟩
                    have hQ9 : Kd.Q (Kd.int .i64) 3 W7 w5.heap.size (fun k => w5.heap.size ≤ k) (.slice A9 ns2.length (c6 - 1 - 1)) ns2 := by
                      have h1 := Kd.Q_drop HQ8.out (k := 1) (by simp)
                      have e1 : (if c6 - 1 = 1 then some (⟨ad6.block, ad6.off + 1, none⟩ : Addr) else (some (⟨ad6.block, ad6.off + 1, none⟩ : Addr)).map (·.add (1 * (Kd.int .i64).sz))) = A9 := by
                        rw [hA9]
                        split
                        · rfl
                        · show some (Addr.add ⟨ad6.block, ad6.off + 1, none⟩ (1 * 1)) = _
                          simp [Addr.add]
                      rw [e1] at h1
                      exact h1
                    have HQ9 := Lib.hid hQ9
                    have HA9 := Lib.hid hA9
                    clear hfl hC8 hcn8 hcn8' hQ9 hA9
                    go_wp2_with fail
                    refine HFL.out.mono ?_
                    rintro e w8 ⟨rfl, hw8⟩
                    rw [show (n1 :: ns2).length - 1 = ns2.length from rfl, ← HA9.out] at hw8
                    have hn8 : w8.heap[w3.heap.size]? = some (.cells #[.int .i64 k, .int .i64 n0, .int .i64 n1, .int .i64 0, .slice A9 ns2.length (c6 - 1 - 1), .string ⟨#[]⟩] 55 (0, 0)) := by rw [hw8]; exact setBlk (setBlk HN7.out 2 _) 4 _
                    have hne : w.heap.size ≠ w3.heap.size := by omega
                    have hc8 : w8.heap[w.heap.size]? = some Z55 := by rw [hw8]; exact (Below.heap_setCell _ ⟨w3.heap.size, 4, none⟩ _ _ hne).trans ((Below.heap_setCell _ ⟨w3.heap.size, 2, none⟩ _ _ hne).trans HC7.out)
                    have hbl8 : Below w.heap.size w w8 := by rw [hw8]; exact ((HBL7.out.setCell (p := ⟨w3.heap.size, 2, none⟩) (Nat.le_of_lt hw4) _).setCell (p := ⟨w3.heap.size, 4, none⟩) (Nat.le_of_lt hw4) _).drew
                    have hQ8 : Kd.Q (Kd.int .i64) 3 w8 w5.heap.size (fun k => w5.heap.size ≤ k) (.slice A9 ns2.length (c6 - 1 - 1)) ns2 := by
                      rw [hw8]
                      exact Kd.Q_drew (Kd.Q_far (p := ⟨w3.heap.size, 4, none⟩) (Kd.Q_far (p := ⟨w3.heap.size, 2, none⟩) HQ9.out (fun k h => by show k ≠ w3.heap.size; omega) _) (fun k h => by show k ≠ w3.heap.size; omega) _)
                    have HN8 := Lib.hid hn8
                    have HC8 := Lib.hid hc8
                    have HBL8 := Lib.hid hbl8
                    have HQ10 := Lib.hid hQ8
                    clear hw8 hn8 hc8 hbl8 hQ8
                    obtain ⟨q0, q1, q2, q3, q4, q5⟩ := z55_cells HC8.out
                    obtain ⟨z0, z1, z2, z3, z4, z5⟩ := z55_frozen HC8.out
                    have p0 := cell_of_heap HN8.out 0 rfl
                    have p1 := cell_of_heap HN8.out 1 rfl
                    have p2 := cell_of_heap HN8.out 2 rfl
                    have p3 := cell_of_heap HN8.out 3 rfl
                    have p4 := cell_of_heap HN8.out 4 rfl
                    have p5 := cell_of_heap HN8.out 5 rfl
                    go_wp2_with fail
                    refine bodyPost_ret (v := .tuple #[.agg #[.int .i64 k, .int .i64 n0, .int .i64 n1, .int .i64 0, .slice A9 ns2.length (c6 - 1 - 1), .string ⟨#[]⟩], .int .i64 0]) ?_ rfl ?_
                    · exact results_cell_row2 (P := Tryd.prog) (fn := Tryd.f60) (p := 2) (t := 3) (ty := 55) rfl _ _ w.heap.size 55 #[.int .i64 k, .int .i64 n0, .int .i64 n1, .int .i64 0, .slice A9 ns2.length (c6 - 1 - 1), .string ⟨#[]⟩] (0, 0) _ rfl (put6_blk HC8.out _ _ _ _ _ _) Tryd.underlying55 rfl (by kernel_rfl)
                    · unfold readQ
                      rw [HSP.out]
                      exact ⟨_, rfl, Q_from (Q_put6 HQ10.out (fun k h => by have : w.heap.size < w5.heap.size := (by omega); omega) _ _ _ _ _ _) (by omega), put6_below HBL8.out (Nat.le_refl _) _ _ _ _ _ _⟩
  · have g1 : (ew != 0) = true := bne_iff_ne.2 he
    have hspec : readV s = .error ew := by unfold readV; rw [← HEW.out, if_pos he]
    have HSP := Lib.hid hspec
    clear hspec he
    obtain ⟨q0, q1, q2, q3, q4, q5⟩ := z55_cells HC1.out
    obtain ⟨z0, z1, z2, z3, z4, z5⟩ := z55_frozen HC1.out
    go_wp2_with fail
    refine bodyPost_ret (v := .tuple #[.agg #[.int .i64 0, .int .i64 0, .int .i64 0, .int .i64 0, .slice none 0 0, .string ⟨#[]⟩], .int .i64 ew]) ?_ rfl ?_
    · exact results_cell_row2 (P := Tryd.prog) (fn := Tryd.f60) (p := 2) (t := 3) (ty := 55) rfl _ _ w.heap.size 55 #[.int .i64 0, .int .i64 0, .int .i64 0, .int .i64 0, .slice none 0 0, .string ⟨#[]⟩] (0, 0) _ rfl (put6_blk HC1.out _ _ _ _ _ _) Tryd.underlying55 rfl (by kernel_rfl)
    · unfold readQ
      rw [HSP.out]
      exact ⟨rfl, put6_below HBE1.out (Nat.le_refl _) _ _ _ _ _ _⟩
end Go.Proofs.YtdgifgdadminbaaDoor
