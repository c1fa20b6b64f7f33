/- What layer ticket takes of the verb texts of this session (carve.py). Written by this session. -/
import Derived.Test.YtdgifgdadminbaaDoorXl
import Derived.Test.YtdgifgdadminbaaDoorRd
import Derived.Test.YtdgifgdadminbaaDoorDw
import Derived.Lib.Join
set_option linter.unusedSimpArgs false
set_option linter.unusedVariables false
set_option maxRecDepth 100000
namespace Go.Proofs.YtdgifgdadminbaaDoor
open Go.RowKit Go.Proofs.YtdgifgdadminbaaDoorW.PrintWords Sp
open PFileParses (wrap_id ba_len bt_nat toList_data info3 info2 info9)

theorem setBlk {w : World} {b : Nat} {cs : Array Value} {t : TypeId} (h : w.heap[b]? = some (.cells cs t (0, 0))) (k : Nat) (v : Value) : (w.setCell ⟨b, k, none⟩ v).heap[b]? = some (.cells (cs.setIfInBounds k v) t (0, 0)) := by
  simp [World.setCell, Array.getElem?_modify, h]

def put6 (b : Nat) (v0 v1 v2 v3 v4 v5 : Value) (w : World) : World := (((((w.setCell ⟨b, 0, none⟩ v0).setCell ⟨b, 1, none⟩ v1).setCell ⟨b, 2, none⟩ v2).setCell ⟨b, 3, none⟩ v3).setCell ⟨b, 4, none⟩ v4).setCell ⟨b, 5, none⟩ v5

theorem put6_below {b B : Nat} {w0 w : World} (h : Below B w0 w) (hB : B ≤ b) (v0 v1 v2 v3 v4 v5 : Value) : Below B w0 (put6 b v0 v1 v2 v3 v4 v5 w) :=
  (((((h.setCell (p := ⟨b, 0, none⟩) hB _).setCell (p := ⟨b, 1, none⟩) hB _).setCell (p := ⟨b, 2, none⟩) hB _).setCell (p := ⟨b, 3, none⟩) hB _).setCell (p := ⟨b, 4, none⟩) hB _).setCell (p := ⟨b, 5, none⟩) hB _

theorem results_cell_row2 {P : Program} {fn : Func} {p t : Tmp} {ty : TypeId} (h : fn.results = #[.cell p ty, .tmp t]) (tmps : Array Value) (w : World) (g : Nat) (t0 : TypeId) (cs : Array Value) (fr : Nat × Nat) (d : TypeDesc)
    (hp : tmps.getD p undef = .pointer (some ⟨g, 0, none⟩)) (hg : w.heap[g]? = some (.cells cs t0 fr))
    (hu : P.underlying ty = some d) (hd : (match d with | .struct _ | .array _ _ => true | _ => false) = true) (hi : (P.info? ty).map (·.size) = some cs.size) :
    (results fn tmps).run P w = .ok (.tuple #[.agg cs, tmps.getD t undef]) w := by
  have hp' : tmps[p]?.getD undef = .pointer (some ⟨g, 0, none⟩) := by simpa using hp
  simp [results, h, hp', asAddr, run_loadVar_row w g t0 ty cs fr d hg hu hd hi]

theorem wordsV_thin (s : ByteArray) : ∀ x ∈ (wordsS s).1, x.size ≤ s.size := by
  intro x hx
  unfold wordsS at hx
  split at hx
  · simp at hx
  · split at hx
    · obtain ⟨l, hl, rfl⟩ := List.mem_map.1 hx
      have := cutAt_len 32 _ l hl
      rw [mk_size]
      rwa [ba_len] at this
    · simp at hx

theorem results_tmp3 {P : Program} {fn : Func} {p t u : Tmp} (h : fn.results = #[.tmp p, .tmp t, .tmp u]) (tmps : Array Value) (w : World) :
    (results fn tmps).run P w = .ok (.tuple #[tmps.getD p undef, tmps.getD t undef, tmps.getD u undef]) w := by
  simp [results, h]

def bodyL (ls : List ByteArray) : List UInt8 := joinL (ls.map fun x => x.data.toList)

theorem linesV_thin {s : ByteArray} (h : (linesS s).2 = 0) : (linesS s).1.length ≤ 1048577 ∧ (∀ x ∈ (linesS s).1, x.size ≤ 1048576) ∧ (bodyL (linesS s).1).length ≤ 1048576 := by
  obtain ⟨h1, h2⟩ := linesS_inv (s := s) (ls := (linesS s).1) (by rw [← h])
  have hb : ∀ ls : List ByteArray, ls.length ≤ bulk ls ∧ (∀ x ∈ ls, x.size ≤ bulk ls) ∧ (bodyL ls).length = bulk ls := by
    intro ls
    induction ls with
    | nil => exact ⟨Nat.le_refl _, fun x hx => by simp at hx, rfl⟩
    | cons a r ih =>
      have e : bulk (a :: r) = (a.size + 1) + bulk r := by simp [bulk]
      refine ⟨by rw [e, List.length_cons]; have := ih.1; omega, fun x hx => ?_, ?_⟩
      · rw [e]
        rcases List.mem_cons.1 hx with rfl | hx
        · omega
        · have := ih.2.1 x hx; omega
      · unfold bodyL
        rw [List.map_cons, joinL_cons, List.length_append, List.length_cons, ba_len, e]
        have := ih.2.2
        unfold bodyL at this
        omega
  have := hb (linesS s).1
  exact ⟨by have := this.1; omega, fun x hx => by have := this.2.1 x hx; omega, by have := this.2.2; omega⟩

theorem itoa_c (n : Int) (w : World) (h : I64 n) (hE : Env w) :
    Calls Tryd.prog 48 #[.int .i64 n] w fun e w' => e = .returned (.string (mk (Lib.itoa n))) ∧ Below w.heap.size w w' := by
  refine (Tryd.strconv_Itoa n h.1 h.2 w hE.tab).mono ?_
  rintro e w' ⟨rfl, k, os, rfl⟩
  exact ⟨rfl, Lib.below_grow _ _ (Nat.le_refl _) _ _⟩

theorem itoaV_small (n : Int) (h0 : 0 ≤ n) (h : n < 10) : Lib.itoa n = [UInt8.ofNat (48 + n.toNat)] := by
  unfold Lib.itoa
  rw [if_neg (by omega), Lib.decDigits, dif_pos (by omega)]

def Near (n : Int) : Prop := -1099511627776 ≤ n ∧ n ≤ 1099511627776

theorem itoa_neg {n : Int} (h : n < 0) : Lib.itoa n = 45 :: Lib.decDigits n.natAbs := by
  unfold Lib.itoa
  rw [if_pos h]

theorem near_wd {n : Int} : Wd (Lib.itoa n) := by
  by_cases h : n < 0
  · rw [itoa_neg h]
    refine ⟨by simp, fun b hb => ?_⟩
    rcases List.mem_cons.1 hb with rfl | hb
    · decide
    · exact isD_W ((dec_spec _).1 b hb)
  · unfold Lib.itoa
    rw [if_neg h]
    exact ⟨(dec_spec _).2.2.1, fun b hb => isD_W ((dec_spec _).1 b hb)⟩

theorem readS_near {n : Int} (h : Near n) : readS (mk (Lib.itoa n)) = (n, 0) := by
  by_cases h0 : n < 0
  · unfold readS
    rw [data_mk, itoa_neg h0]
    obtain ⟨h1, h2, h3, h4⟩ := dec_spec n.natAbs
    unfold readL
    have hh : ((45 :: Lib.decDigits n.natAbs).head? == some (45 : UInt8)) = true := rfl
    rw [hh]
    have h8 := h.1
    have hl := nDigits_le 12 n.natAbs (by omega)
    have hp := List.length_pos_iff.2 h3
    rw [← Lib.decDigits_length] at hl
    simp only [if_true, List.tail_cons]
    rw [if_pos]
    · rw [h2, if_neg (by omega)]
      congr 1
      omega
    · simp only [Bool.and_eq_true, decide_eq_true_eq]
      exact ⟨⟨List.all_eq_true.2 h1, by omega⟩, by omega⟩
  · have hk : Ok n := ⟨by omega, h.2⟩
    unfold readS
    rw [data_mk, itoa_ok hk, readL_dec (by have := hk.2; omega)]
    congr 1
    omega

theorem ok_i64 {n : Int} (h : Ok n) : I64 n := by
  have h1 := h.1; have h2 := h.2
  exact ⟨by omega, by omega⟩

theorem near_i64 {n : Int} (h : Near n) : I64 n := by
  have h1 := h.1; have h2 := h.2
  exact ⟨by omega, by omega⟩
end Go.Proofs.YtdgifgdadminbaaDoor
