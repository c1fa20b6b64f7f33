/- Several texts of this session in one (Tt, Tu, Tv). Written by this session, by tools of this session and by the kit's print. -/
import Derived.Test.YtdgifgdadminbaaDoorVt
import Derived.LoopN
import Derived.Shelf.Slices.Turned
import Derived.Shelf.Slices.Clone
import Derived.Shelf.Slices.CompactI
import Derived.Shelf.Sort.Plain
import Derived.Test.YtdgifgdadminbaaDoorProg
import Derived.Test.YtdgifgdadminbaaDoorWEqStruct
import Derived.Test.YtdgifgdadminbaaDoorYe
import Derived.Test.YtdgifgdadminbaaDoorYo
import Derived.FnData
/-! ### Tt -/
/-! ### T1 -/
set_option linter.unusedSimpArgs false
set_option linter.unusedVariables false
namespace Go.Proofs.YtdgifgdadminbaaDoor
open Go.RowKit Go.Proofs.YtdgifgdadminbaaDoorW.PrintWords Sp
open PFileParses (wrap_id ba_len bt_nat toList_data)

/-- A ticket's line. -/
structure Ln where
  f0 : Int
  f1 : Int
  f2 : Int
  f3 : Int
  f4 : Int
  f5 : Bool
def lnZ : Ln := ⟨0, 0, 0, 0, 0, false⟩
instance : Inhabited Ln := ⟨lnZ⟩
def bUn : List UInt8 := [117, 110, 115, 101, 114, 118, 101, 100]
def sUn : ByteArray := ⟨#[117, 110, 115, 101, 114, 118, 101, 100]⟩
def textT (l : Ln) : List UInt8 := if l.f5 = true then lineB (Lib.itoa l.f0) [Lib.itoa l.f1, Lib.itoa l.f2, Lib.itoa l.f3, Lib.itoa l.f4] else lineB (Lib.itoa l.f0) [bUn]
def printT (ls : List Ln) : List UInt8 := ls.flatMap fun l => textT l ++ [10]
def wAt (ws : List ByteArray) (i : Nat) : ByteArray := ws.getD i ByteArray.empty
def servedS (ws : List ByteArray) : Except Int Ln :=
  if (wholeS (wAt ws 0)).2 ≠ 0 then .error (wholeS (wAt ws 0)).2 else
  if (wholeS (wAt ws 1)).2 ≠ 0 then .error (wholeS (wAt ws 1)).2 else
  if (readS (wAt ws 2)).2 ≠ 0 then .error (readS (wAt ws 2)).2 else
  if (readS (wAt ws 3)).2 ≠ 0 then .error (readS (wAt ws 3)).2 else
  if (readS (wAt ws 4)).2 ≠ 0 then .error (readS (wAt ws 4)).2 else
  .ok ⟨(wholeS (wAt ws 0)).1, (wholeS (wAt ws 1)).1, (readS (wAt ws 2)).1, (readS (wAt ws 3)).1, (readS (wAt ws 4)).1, true⟩
def readT (s : ByteArray) : Except Int Ln :=
  if (wordsS s).2 ≠ 0 then .error (wordsS s).2 else
  if (wordsS s).1.length = 5 then servedS (wordsS s).1 else
  if (wordsS s).1.length ≠ 2 ∨ wAt (wordsS s).1 1 ≠ sUn then .error 21 else
  if (wholeS (wAt (wordsS s).1 0)).2 ≠ 0 then .error (wholeS (wAt (wordsS s).1 0)).2 else
  .ok ⟨(wholeS (wAt (wordsS s).1 0)).1, 0, 0, 0, 0, false⟩
def lastT (acc : List Ln) : Ln := acc.getD (acc.length - 1) lnZ
def parseTA : List ByteArray → List Ln → Except (Int × Int) (List Ln)
  | [], acc => .ok acc
  | l :: r, acc =>
    match readT l with
    | .error e => .error ((acc.length : Int) + 1, e)
    | .ok c => if 0 < acc.length ∧ c.f0 ≤ (lastT acc).f0 then .error ((acc.length : Int) + 1, 5) else parseTA r (acc ++ [c])
def parseT (s : ByteArray) : Except (Int × Int) (List Ln) := if (linesS s).2 ≠ 0 then .error (0, (linesS s).2) else parseTA (linesS s).1 []

/-- A line that can be read back. -/
structure Fine (l : Ln) : Prop where
  id : Ok l.f0
  car : Ok l.f1
  t2 : Near l.f2
  t3 : Near l.f3
  t4 : Near l.f4
  un : l.f5 = false → l.f1 = 0 ∧ l.f2 = 0 ∧ l.f3 = 0 ∧ l.f4 = 0
theorem un_wd : Wd bUn := ⟨by decide, by decide⟩
theorem un_mk : mk bUn = sUn := rfl
theorem textT_words (l : Ln) : wordsS (mk (textT l)) = (((Lib.itoa l.f0) :: (if l.f5 = true then [Lib.itoa l.f1, Lib.itoa l.f2, Lib.itoa l.f3, Lib.itoa l.f4] else [bUn])).map mk, 0) := by
  unfold textT
  cases l.f5 with
  | true =>
    rw [if_pos rfl, if_pos rfl]
    refine wordsS_line _ _ near_wd (fun w hw => ?_)
    simp only [List.mem_cons, List.not_mem_nil, or_false] at hw
    rcases hw with rfl | rfl | rfl | rfl <;> exact near_wd
  | false =>
    rw [if_neg (by decide), if_neg (by decide)]
    exact wordsS_line _ _ near_wd (fun w hw => by rw [List.mem_singleton.1 hw]; exact un_wd)
theorem read_text {l : Ln} (h : Fine l) : readT (mk (textT l)) = .ok l := by
  unfold readT
  rw [textT_words]
  cases l with
  | mk f0 f1 f2 f3 f4 f5 =>
  cases f5 with
  | true =>
    have h0 := wholeS_itoa h.id
    have h1 := wholeS_itoa h.car
    have h2 := readS_near h.t2
    have h3 := readS_near h.t3
    have h4 := readS_near h.t4
    dsimp only at h0 h1 h2 h3 h4 ⊢
    rw [if_neg (by simp), if_pos rfl]
    unfold servedS
    simp only [if_true, List.map_cons, List.map_nil, wAt, List.getD_cons_zero, List.getD_cons_succ, h0, h1, h2, h3, h4]
    simp
  | false =>
    have h0 := wholeS_itoa h.id
    obtain ⟨u1, u2, u3, u4⟩ := h.un rfl
    dsimp only at h0 u1 u2 u3 u4 ⊢
    subst u1 u2 u3 u4
    rw [if_neg (by simp), if_neg (by simp)]
    simp only [Bool.false_eq_true, if_false, List.map_cons, List.map_nil, wAt, List.getD_cons_zero, List.getD_cons_succ, h0, un_mk]
    simp
theorem lastT_snoc (acc : List Ln) (c : Ln) : lastT (acc ++ [c]) = c := by
  unfold lastT
  rw [List.length_append, List.length_singleton, Nat.add_sub_cancel, List.getD_eq_getElem?_getD, List.getElem?_append_right (Nat.le_refl _), Nat.sub_self]
  rfl
/-- The numbers go up. -/
def Up (ls : List Ln) : Prop := ls.Pairwise fun a b => a.f0 < b.f0
theorem up_last {acc : List Ln} {c : Ln} {r : List Ln} (h : Up (acc ++ c :: r)) (hp : 0 < acc.length) : (lastT acc).f0 < c.f0 := by
  have h1 := (List.pairwise_append.1 h).2.2
  refine h1 (lastT acc) ?_ c (by simp)
  unfold lastT
  rw [List.getD_eq_getElem?_getD, List.getElem?_eq_getElem (by omega : acc.length - 1 < acc.length)]
  exact List.getElem_mem _
theorem parseTA_text : ∀ (r acc : List Ln), (∀ l ∈ r, Fine l) → Up (acc ++ r) → parseTA (r.map fun l => mk (textT l)) acc = .ok (acc ++ r)
  | [], acc, _, _ => by rw [List.map_nil, parseTA, List.append_nil]
  | c :: r, acc, hf, hu => by
    rw [List.map_cons, parseTA, read_text (hf c (by simp))]
    dsimp only
    rw [if_neg (fun e => by have := up_last hu e.1; have := e.2; omega), parseTA_text r (acc ++ [c]) (fun l hl => hf l (by simp [hl])) (by rw [List.append_assoc]; exact hu), List.append_assoc]
    rfl
theorem textT_free (l : Ln) : (10 : UInt8) ∉ textT l := by
  unfold textT
  split
  · refine lineB_free10 _ _ near_wd (fun w hw => ?_)
    simp only [List.mem_cons, List.not_mem_nil, or_false] at hw
    rcases hw with rfl | rfl | rfl | rfl <;> exact near_wd
  · exact lineB_free10 _ _ near_wd (fun w hw => by rw [List.mem_singleton.1 hw]; exact un_wd)
theorem printT_join (ls : List Ln) : printT ls = joinL (ls.map textT) := by
  unfold printT joinL
  rw [List.flatMap_map]
theorem textT_len {l : Ln} (h0 : I64 l.f0) (h1 : I64 l.f1) (h2 : I64 l.f2) (h3 : I64 l.f3) (h4 : I64 l.f4) : (textT l).length ≤ 104 := by
  have k0 := itoa_len h0
  have k1 := itoa_len h1
  have k2 := itoa_len h2
  have k3 := itoa_len h3
  have k4 := itoa_len h4
  unfold textT
  split
  · rw [lineB_length]
    simp only [List.map_cons, List.map_nil, List.sum_cons, List.sum_nil]
    omega
  · rw [lineB_length]
    simp only [List.map_cons, List.map_nil, List.sum_cons, List.sum_nil, bUn, List.length_cons, List.length_nil]
    omega
theorem Fine.len {l : Ln} (h : Fine l) : (textT l).length ≤ 104 := textT_len (ok_i64 h.id) (ok_i64 h.car) (near_i64 h.t2) (near_i64 h.t3) (near_i64 h.t4)
theorem printT_len : ∀ ls : List Ln, (∀ l ∈ ls, Fine l) → (printT ls).length ≤ 105 * ls.length
  | [], _ => Nat.le_refl _
  | l :: ls, h => by
    have h1 := (h l (by simp)).len
    have h2 := printT_len ls (fun d hd => h d (by simp [hd]))
    unfold printT at h2 ⊢
    rw [List.flatMap_cons, List.length_append, List.length_append, List.length_singleton, List.length_cons]
    omega
theorem parse_printT {ls : List Ln} (hf : ∀ l ∈ ls, Fine l) (hu : Up ls) (hn : ls.length ≤ 5000) : parseT (mk (printT ls)) = .ok ls := by
  have hl := printT_len ls hf
  have hj : linesS (mk (printT ls)) = ((ls.map textT).map mk, 0) := by
    rw [printT_join]
    refine linesS_join _ (fun l hm => ?_) (by rw [← printT_join]; omega)
    obtain ⟨x, _, rfl⟩ := List.mem_map.1 hm
    exact textT_free x
  unfold parseT
  rw [hj, if_neg (by simp)]
  dsimp only
  rw [List.map_map]
  have := parseTA_text ls [] hf hu
  exact this
theorem readT_err {s : ByteArray} {e : Int} (h : readT s = .error e) : e ≠ 0 := by
  unfold readT at h
  by_cases h1 : (wordsS s).2 = 0
  · rw [if_neg (fun g => g h1)] at h
    by_cases h2 : (wordsS s).1.length = 5
    · rw [if_pos h2] at h
      unfold servedS at h
      by_cases k0 : (wholeS (wAt (wordsS s).1 0)).2 = 0
      · rw [if_neg (fun g => g k0)] at h
        by_cases k1 : (wholeS (wAt (wordsS s).1 1)).2 = 0
        · rw [if_neg (fun g => g k1)] at h
          by_cases k2 : (readS (wAt (wordsS s).1 2)).2 = 0
          · rw [if_neg (fun g => g k2)] at h
            by_cases k3 : (readS (wAt (wordsS s).1 3)).2 = 0
            · rw [if_neg (fun g => g k3)] at h
              by_cases k4 : (readS (wAt (wordsS s).1 4)).2 = 0
              · rw [if_neg (fun g => g k4)] at h; cases h
              · rw [if_pos k4] at h; cases h; exact k4
            · rw [if_pos k3] at h; cases h; exact k3
          · rw [if_pos k2] at h; cases h; exact k2
        · rw [if_pos k1] at h; cases h; exact k1
      · rw [if_pos k0] at h; cases h; exact k0
    · rw [if_neg h2] at h
      by_cases h3 : (wordsS s).1.length ≠ 2 ∨ wAt (wordsS s).1 1 ≠ sUn
      · rw [if_pos h3] at h; cases h; decide
      · rw [if_neg h3] at h
        by_cases k0 : (wholeS (wAt (wordsS s).1 0)).2 = 0
        · rw [if_neg (fun g => g k0)] at h; cases h
        · rw [if_pos k0] at h; cases h; exact k0
  · rw [if_pos h1] at h; cases h; exact h1

/-! ### alive's texts -/
def tA : ByteArray := ⟨#[49, 32, 48, 32, 48, 32, 54, 32, 53, 10, 50, 32, 117, 110, 115, 101, 114, 118, 101, 100, 10]⟩
def tB : ByteArray := ⟨#[50, 32, 117, 110, 115, 101, 114, 118, 101, 100, 10, 49, 32, 117, 110, 115, 101, 114, 118, 101, 100, 10]⟩
theorem tA_parse : parseT tA = .ok [⟨1, 0, 0, 6, 5, true⟩, ⟨2, 0, 0, 0, 0, false⟩] := by kernel_rfl
theorem tB_parse : parseT tB = .error (2, 5) := by kernel_rfl
end Go.Proofs.YtdgifgdadminbaaDoor

/-! ### T2 -/
set_option linter.unusedSimpArgs false
set_option linter.unusedVariables false
set_option maxRecDepth 100000
namespace Go.Proofs.YtdgifgdadminbaaDoor
open Go.RowKit Go.Proofs.YtdgifgdadminbaaDoorW.PrintWords Sp
open PFileParses (wrap_id ba_len bt_nat toList_data info3 info2 info9)

def Z60 : Obj := .cells #[.int .i64 0, .int .i64 0, .int .i64 0, .int .i64 0, .int .i64 0, .bool false] 60 (0, 0)
def B60 (l : Ln) : Obj := .cells #[.int .i64 l.f0, .int .i64 l.f1, .int .i64 l.f2, .int .i64 l.f3, .int .i64 l.f4, .bool l.f5] 60 (0, 0)
theorem z60_cells {w : World} {b : Nat} (h : w.heap[b]? = some Z60) : w.cell? ⟨b, 0, none⟩ = some (.int .i64 0) ∧ w.cell? ⟨b, 1, none⟩ = some (.int .i64 0) ∧ w.cell? ⟨b, 2, none⟩ = some (.int .i64 0) ∧ w.cell? ⟨b, 3, none⟩ = some (.int .i64 0) ∧ w.cell? ⟨b, 4, none⟩ = some (.int .i64 0) ∧ w.cell? ⟨b, 5, none⟩ = some (.bool false) :=
  ⟨cell_of_heap h 0 rfl, cell_of_heap h 1 rfl, cell_of_heap h 2 rfl, cell_of_heap h 3 rfl, cell_of_heap h 4 rfl, cell_of_heap h 5 rfl⟩
theorem z60_frozen {w : World} {b : Nat} (h : w.heap[b]? = some Z60) : w.frozen? ⟨b, 0, none⟩ = false ∧ w.frozen? ⟨b, 1, none⟩ = false ∧ w.frozen? ⟨b, 2, none⟩ = false ∧ w.frozen? ⟨b, 3, none⟩ = false ∧ w.frozen? ⟨b, 4, none⟩ = false ∧ w.frozen? ⟨b, 5, none⟩ = false :=
  ⟨frozen_of_heap h 0, frozen_of_heap h 1, frozen_of_heap h 2, frozen_of_heap h 3, frozen_of_heap h 4, frozen_of_heap h 5⟩
theorem b60_cells {w : World} {b : Nat} {l : Ln} (h : w.heap[b]? = some (B60 l)) : w.cell? ⟨b, 0, none⟩ = some (.int .i64 l.f0) ∧ w.cell? ⟨b, 1, none⟩ = some (.int .i64 l.f1) ∧ w.cell? ⟨b, 2, none⟩ = some (.int .i64 l.f2) ∧ w.cell? ⟨b, 3, none⟩ = some (.int .i64 l.f3) ∧ w.cell? ⟨b, 4, none⟩ = some (.int .i64 l.f4) ∧ w.cell? ⟨b, 5, none⟩ = some (.bool l.f5) :=
  ⟨cell_of_heap h 0 rfl, cell_of_heap h 1 rfl, cell_of_heap h 2 rfl, cell_of_heap h 3 rfl, cell_of_heap h 4 rfl, cell_of_heap h 5 rfl⟩
theorem b60_frozen {w : World} {b : Nat} {l : Ln} (h : w.heap[b]? = some (B60 l)) : w.frozen? ⟨b, 0, none⟩ = false ∧ w.frozen? ⟨b, 1, none⟩ = false ∧ w.frozen? ⟨b, 2, none⟩ = false ∧ w.frozen? ⟨b, 3, none⟩ = false ∧ w.frozen? ⟨b, 4, none⟩ = false ∧ w.frozen? ⟨b, 5, none⟩ = false :=
  ⟨frozen_of_heap h 0, frozen_of_heap h 1, frozen_of_heap h 2, frozen_of_heap h 3, frozen_of_heap h 4, frozen_of_heap h 5⟩
theorem put6_blk60 {b : Nat} {w : World} (h : w.heap[b]? = some Z60) (v0 v1 v2 v3 v4 v5 : Value) : (put6 b v0 v1 v2 v3 v4 v5 w).heap[b]? = some (.cells #[v0, v1, v2, v3, v4, v5] 60 (0, 0)) :=
  setBlk (setBlk (setBlk (setBlk (setBlk (setBlk h 0 _) 1 _) 2 _) 3 _) 4 _) 5 _
def lnQ (r : Except Int Ln) (w : World) (e : Ending) (w' : World) : Prop := match r with
  | .error er => e = .returned (.tuple #[.agg #[.int .i64 0, .int .i64 0, .int .i64 0, .int .i64 0, .int .i64 0, .bool false], .int .i64 er]) ∧ Below w.heap.size w w'
  | .ok l => e = .returned (.tuple #[.agg #[.int .i64 l.f0, .int .i64 l.f1, .int .i64 l.f2, .int .i64 l.f3, .int .i64 l.f4, .bool l.f5], .int .i64 0]) ∧ Below w.heap.size w w'
/-- The result's variable, not yet written, and the line that is being read. -/
structure Two (w : World) (g : Nat) (l : Ln) (W : World) : Prop where
  res : W.heap[w.heap.size]? = some Z60
  loc : W.heap[g]? = some (B60 l)
  bel : Below w.heap.size w W
theorem lt_of_some {w : World} {g : Nat} {o : Obj} (h : w.heap[g]? = some o) : g < w.heap.size := by
  rcases Nat.lt_or_ge g w.heap.size with h1 | h1
  · exact h1
  · rw [Array.getElem?_eq_none h1] at h; cases h
theorem Two.below {w W W' : World} {g : Nat} {l : Ln} (h : Two w g l W) (hb : Below W.heap.size W W') : Two w g l W' :=
  ⟨(hb.block _ (lt_of_some h.res)).trans h.res, (hb.block _ (lt_of_some h.loc)).trans h.loc, h.bel.trans (hb.mono h.bel.size)⟩
theorem Two.set {w W : World} {g : Nat} {l l' : Ln} (h : Two w g l W) (hg : w.heap.size < g) (k : Nat) (v : Value)
    (hl : (#[.int .i64 l.f0, .int .i64 l.f1, .int .i64 l.f2, .int .i64 l.f3, .int .i64 l.f4, .bool l.f5] : Array Value).setIfInBounds k v = #[.int .i64 l'.f0, .int .i64 l'.f1, .int .i64 l'.f2, .int .i64 l'.f3, .int .i64 l'.f4, .bool l'.f5]) : Two w g l' (W.setCell ⟨g, k, none⟩ v) := by
  refine ⟨(Below.heap_setCell W ⟨g, k, none⟩ _ _ (by show w.heap.size ≠ g; omega)).trans h.res, ?_, h.bel.setCell (p := ⟨g, k, none⟩) (Nat.le_of_lt hg) _⟩
  have := setBlk h.loc k v
  rw [hl] at this
  exact this
theorem two_start (w : World) : Two w (w.heap.size + 1) lnZ ((w.alloc Z60).alloc Z60) := by
  have hb : Below (w.alloc Z60).heap.size (w.alloc Z60) ((w.alloc Z60).alloc Z60) := (Below.refl _ _).alloc (Nat.le_refl _) _
  refine ⟨(hb.block _ (by simp)).trans (heap_alloc_new w Z60), ?_, ((Below.refl _ _).alloc (Nat.le_refl _) _).alloc (by simp) _⟩
  have h := heap_alloc_new (w.alloc Z60) Z60
  rw [show (w.alloc Z60).heap.size = w.heap.size + 1 by simp] at h
  exact h

/-- The three addresses beside them. -/
structure Tri (w : World) (g p : Nat) (l : Ln) (W : World) : Prop where
  two : Two w g l W
  ptr : W.heap[p]? = some (.cells #[.pointer (some ⟨g, 2, none⟩), .pointer (some ⟨g, 3, none⟩), .pointer (some ⟨g, 4, none⟩)] 188 (0, 0))
  lt : g < p
theorem Tri.below {w W W' : World} {g p : Nat} {l : Ln} (h : Tri w g p l W) (hb : Below W.heap.size W W') : Tri w g p l W' :=
  ⟨h.two.below hb, (hb.block _ (lt_of_some h.ptr)).trans h.ptr, h.lt⟩
theorem Tri.set {w W : World} {g p : Nat} {l l' : Ln} (h : Tri w g p l W) (hg : w.heap.size < g) (k : Nat) (v : Value)
    (hl : (#[.int .i64 l.f0, .int .i64 l.f1, .int .i64 l.f2, .int .i64 l.f3, .int .i64 l.f4, .bool l.f5] : Array Value).setIfInBounds k v = #[.int .i64 l'.f0, .int .i64 l'.f1, .int .i64 l'.f2, .int .i64 l'.f3, .int .i64 l'.f4, .bool l'.f5]) : Tri w g p l' (W.setCell ⟨g, k, none⟩ v) :=
  ⟨h.two.set hg k v hl, (Below.heap_setCell W ⟨g, k, none⟩ _ _ (by show p ≠ g; have := h.lt; omega)).trans h.ptr, h.lt⟩
theorem tri_start {w W : World} {g : Nat} {l : Ln} (h : Two w g l W) : Tri w g W.heap.size l (W.alloc (.cells #[.pointer (some ⟨g, 2, none⟩), .pointer (some ⟨g, 3, none⟩), .pointer (some ⟨g, 4, none⟩)] 188)) :=
  ⟨h.below ((Below.refl _ _).alloc (Nat.le_refl _) _), heap_alloc_new W _, lt_of_some h.loc⟩
theorem sv0 {x0 x1 x2 x3 x4 : ByteArray} (h : (wholeS x0).2 ≠ 0) : servedS [x0, x1, x2, x3, x4] = .error (wholeS x0).2 := by
  unfold servedS; simp only [wAt, List.getD_cons_zero, List.getD_cons_succ]; rw [if_pos h]
theorem sv1 {x0 x1 x2 x3 x4 : ByteArray} (h0 : (wholeS x0).2 = 0) (h : (wholeS x1).2 ≠ 0) : servedS [x0, x1, x2, x3, x4] = .error (wholeS x1).2 := by
  unfold servedS; simp only [wAt, List.getD_cons_zero, List.getD_cons_succ]; rw [if_neg (fun g => g h0), if_pos h]
theorem sv2 {x0 x1 x2 x3 x4 : ByteArray} (h0 : (wholeS x0).2 = 0) (h1 : (wholeS x1).2 = 0) (h : (readS x2).2 ≠ 0) : servedS [x0, x1, x2, x3, x4] = .error (readS x2).2 := by
  unfold servedS; simp only [wAt, List.getD_cons_zero, List.getD_cons_succ]; rw [if_neg (fun g => g h0), if_neg (fun g => g h1), if_pos h]
theorem sv3 {x0 x1 x2 x3 x4 : ByteArray} (h0 : (wholeS x0).2 = 0) (h1 : (wholeS x1).2 = 0) (h2 : (readS x2).2 = 0) (h : (readS x3).2 ≠ 0) : servedS [x0, x1, x2, x3, x4] = .error (readS x3).2 := by
  unfold servedS; simp only [wAt, List.getD_cons_zero, List.getD_cons_succ]; rw [if_neg (fun g => g h0), if_neg (fun g => g h1), if_neg (fun g => g h2), if_pos h]
theorem sv4 {x0 x1 x2 x3 x4 : ByteArray} (h0 : (wholeS x0).2 = 0) (h1 : (wholeS x1).2 = 0) (h2 : (readS x2).2 = 0) (h3 : (readS x3).2 = 0) (h : (readS x4).2 ≠ 0) : servedS [x0, x1, x2, x3, x4] = .error (readS x4).2 := by
  unfold servedS; simp only [wAt, List.getD_cons_zero, List.getD_cons_succ]; rw [if_neg (fun g => g h0), if_neg (fun g => g h1), if_neg (fun g => g h2), if_neg (fun g => g h3), if_pos h]
theorem sv5 {x0 x1 x2 x3 x4 : ByteArray} (h0 : (wholeS x0).2 = 0) (h1 : (wholeS x1).2 = 0) (h2 : (readS x2).2 = 0) (h3 : (readS x3).2 = 0) (h4 : (readS x4).2 = 0) : servedS [x0, x1, x2, x3, x4] = .ok ⟨(wholeS x0).1, (wholeS x1).1, (readS x2).1, (readS x3).1, (readS x4).1, true⟩ := by
  unfold servedS; simp only [wAt, List.getD_cons_zero, List.getD_cons_succ]; rw [if_neg (fun g => g h0), if_neg (fun g => g h1), if_neg (fun g => g h2), if_neg (fun g => g h3), if_neg (fun g => g h4)]

set_option maxHeartbeats 8000000 in
theorem served_c (x0 x1 x2 x3 x4 : ByteArray) (A : Option Addr) (cap : Nat) (w : World) (hE : Env w) (hC : Kd.string.C w A 5 [x0, x1, x2, x3, x4]) (hs : ∀ x ∈ [x0, x1, x2, x3, x4], x.size < 4294967281) :
    Calls Tryd.prog 103 #[.slice A 5 cap] w fun e w' => lnQ (servedS [x0, x1, x2, x3, x4]) w e w' := by
  have h3 := hE.size
  obtain ⟨ad, rfl, h0⟩ := Kd.at_string hC 0 (by omega) (by decide)
  have hat : ∀ (j : Nat) (x : ByteArray), [x0, x1, x2, x3, x4][j + 1]? = some x → w.cell? ⟨ad.block, ad.off + (j + 1), none⟩ = some (.string x) := by
    intro j x hx
    obtain ⟨i, hij⟩ : ∃ i, i = j + 1 := ⟨_, rfl⟩
    rw [← hij] at hx ⊢
    have hi : i < 5 := (List.getElem?_eq_some_iff.1 hx).1
    obtain ⟨ad', he, hc⟩ := Kd.at_string hC i (by omega) (by omega)
    obtain rfl := Option.some.inj he
    rw [Int.toNat_natCast] at hc
    have hrd : rdOf ByteArray.empty [x0, x1, x2, x3, x4] (i : Int) = x := by
      unfold rdOf
      rw [Int.toNat_natCast, List.getD_eq_getElem?_getD, hx]
      rfl
    rw [hrd] at hc
    exact (show ad.add i = ⟨ad.block, ad.off + i, none⟩ by rw [hij]; simp [Addr.add]) ▸ hc
  have h0' : w.cell? ad = some (.string x0) := by simpa [Addr.add, rdOf] using h0
  have hT := two_start w
  obtain ⟨W, hW⟩ : ∃ W, W = (w.alloc Z60).alloc Z60 := ⟨_, rfl⟩
  rw [← hW] at hT
  have HW := Lib.hid hW
  have HT := Lib.hid hT
  have HE := Lib.hid hE
  have HAT := Lib.hid hat
  have H0 := Lib.hid h0'
  have HS := Lib.hid hs
  clear hW hT hE hat h0' hs hC h0
  go_enter Tryd.func103, Tryd.ntmps103
  go_upto_region 3 with fail
  rw [show (w.alloc (.cells #[.int .i64 0, .int .i64 0, .int .i64 0, .int .i64 0, .int .i64 0, .bool false] 60)).alloc (.cells #[.int .i64 0, .int .i64 0, .int .i64 0, .int .i64 0, .int .i64 0, .bool false] 60) = W from HW.out.symm]
  have hz0 := HT.out.bel.size
  have c0 := cell_below H0.out HT.out.bel
  obtain ⟨n0, hn0⟩ : ∃ n, n = (wholeS x0).1 := ⟨_, rfl⟩
  obtain ⟨e0, he0⟩ : ∃ e, e = (wholeS x0).2 := ⟨_, rfl⟩
  have hr0 := whole_walk x0 W (HE.out.below HT.out.bel h3) (HS.out x0 (by simp))
  rw [← hn0, ← he0] at hr0
  have HR0 := Lib.hid hr0
  have HN0 := Lib.hid hn0
  have HX0 := Lib.hid he0
  clear hr0 hn0 he0
  go_wp2_with fail
  refine HR0.out.mono ?_
  rintro e w0 ⟨rfl, hd⟩
  have hbb := drawn_below (Below.refl W.heap.size W) hd
  have HD0 := Lib.hid (HT.out.below hbb)
  clear hd hbb c0
  obtain ⟨l0, l1, l2, l3, l4, l5⟩ := b60_cells HD0.out.loc
  obtain ⟨f0, f1, f2, f3, f4, f5⟩ := b60_frozen HD0.out.loc
  have hT0 : Two w (w.heap.size + 1) ⟨n0, 0, 0, 0, 0, false⟩ (w0.setCell ⟨w.heap.size + 1, 0, none⟩ (.int .i64 n0)) := HD0.out.set (by omega) 0 _ rfl
  obtain ⟨W0, hW0⟩ : ∃ W', W' = w0.setCell ⟨w.heap.size + 1, 0, none⟩ (.int .i64 n0) := ⟨_, rfl⟩
  rw [← hW0] at hT0
  have HT0 := Lib.hid hT0
  have HV0 := Lib.hid hW0
  clear hT0 hW0
  go_upto_region 4 with fail
  rw [← HV0.out]
  clear l0 l1 l2 l3 l4 l5 f0 f1 f2 f3 f4 f5
  by_cases k0 : e0 = 0
  case neg =>
    have g1 : (e0 != 0) = true := bne_iff_ne.2 k0
    have hsp : servedS [x0, x1, x2, x3, x4] = .error e0 := by rw [HX0.out]; exact sv0 (fun g => k0 (HX0.out.trans g))
    have HSP := Lib.hid hsp
    clear hsp k0
    obtain ⟨q0, q1, q2, q3, q4, q5⟩ := z60_cells HT0.out.res
    obtain ⟨z0, z1, z2, z3, z4, z5⟩ := z60_frozen HT0.out.res
    go_wp2_with fail
    refine bodyPost_ret (v := .tuple #[.agg #[.int .i64 0, .int .i64 0, .int .i64 0, .int .i64 0, .int .i64 0, .bool false], .int .i64 e0]) ?_ rfl ?_
    · exact results_cell_row2 (P := Tryd.prog) (fn := Tryd.f103) (p := 2) (t := 3) (ty := 60) rfl _ _ w.heap.size 60 #[.int .i64 0, .int .i64 0, .int .i64 0, .int .i64 0, .int .i64 0, .bool false] (0, 0) _ rfl (put6_blk60 HT0.out.res _ _ _ _ _ _) Tryd.underlying60 rfl (by kernel_rfl)
    · unfold lnQ
      rw [HSP.out]
      exact ⟨rfl, put6_below HT0.out.bel (Nat.le_refl _) _ _ _ _ _ _⟩
  case pos =>
    have g1 : (e0 != 0) = false := by rw [k0]; rfl
    have hz1 := HT0.out.bel.size
    have c1 := cell_below (HAT.out 0 x1 rfl) HT0.out.bel
    obtain ⟨n1, hn1⟩ : ∃ n, n = (wholeS x1).1 := ⟨_, rfl⟩
    obtain ⟨e1, he1⟩ : ∃ e, e = (wholeS x1).2 := ⟨_, rfl⟩
    have hr1 := whole_walk x1 W0 (HE.out.below HT0.out.bel h3) (HS.out x1 (by simp))
    rw [← hn1, ← he1] at hr1
    have HR1 := Lib.hid hr1
    have HN1 := Lib.hid hn1
    have HX1 := Lib.hid he1
    clear hr1 hn1 he1
    go_wp2_with fail
    refine HR1.out.mono ?_
    rintro e w1 ⟨rfl, hd⟩
    have hbb := drawn_below (Below.refl W0.heap.size W0) hd
    have HD1 := Lib.hid (HT0.out.below hbb)
    clear hd hbb c1
    obtain ⟨l0, l1, l2, l3, l4, l5⟩ := b60_cells HD1.out.loc
    obtain ⟨f0, f1, f2, f3, f4, f5⟩ := b60_frozen HD1.out.loc
    have hT1 : Two w (w.heap.size + 1) ⟨n0, n1, 0, 0, 0, false⟩ (w1.setCell ⟨w.heap.size + 1, 1, none⟩ (.int .i64 n1)) := HD1.out.set (by omega) 1 _ rfl
    obtain ⟨W1, hW1⟩ : ∃ W', W' = w1.setCell ⟨w.heap.size + 1, 1, none⟩ (.int .i64 n1) := ⟨_, rfl⟩
    rw [← hW1] at hT1
    have HT1 := Lib.hid hT1
    have HV1 := Lib.hid hW1
    clear hT1 hW1
    go_upto_region 7 with fail
    rw [← HV1.out]
    clear l0 l1 l2 l3 l4 l5 f0 f1 f2 f3 f4 f5
    by_cases k1 : e1 = 0
    case neg =>
      have g1 : (e1 != 0) = true := bne_iff_ne.2 k1
      have hsp : servedS [x0, x1, x2, x3, x4] = .error e1 := by rw [HX1.out]; exact sv1 (HX0.out.symm.trans k0) (fun g => k1 (HX1.out.trans g))
      have HSP := Lib.hid hsp
      clear hsp k1
      obtain ⟨q0, q1, q2, q3, q4, q5⟩ := z60_cells HT1.out.res
      obtain ⟨z0, z1, z2, z3, z4, z5⟩ := z60_frozen HT1.out.res
      go_wp2_with fail
      refine bodyPost_ret (v := .tuple #[.agg #[.int .i64 0, .int .i64 0, .int .i64 0, .int .i64 0, .int .i64 0, .bool false], .int .i64 e1]) ?_ rfl ?_
      · exact results_cell_row2 (P := Tryd.prog) (fn := Tryd.f103) (p := 2) (t := 3) (ty := 60) rfl _ _ w.heap.size 60 #[.int .i64 0, .int .i64 0, .int .i64 0, .int .i64 0, .int .i64 0, .bool false] (0, 0) _ rfl (put6_blk60 HT1.out.res _ _ _ _ _ _) Tryd.underlying60 rfl (by kernel_rfl)
      · unfold lnQ
        rw [HSP.out]
        exact ⟨rfl, put6_below HT1.out.bel (Nat.le_refl _) _ _ _ _ _ _⟩
    case pos =>
      have g1 : (e1 != 0) = false := by rw [k1]; rfl
      go_wp2_with fail
      have hI0 := tri_start HT1.out
      obtain ⟨I0, hI0e⟩ : ∃ W', W' = W1.alloc (.cells #[.pointer (some ⟨w.heap.size + 1, 2, none⟩), .pointer (some ⟨w.heap.size + 1, 3, none⟩), .pointer (some ⟨w.heap.size + 1, 4, none⟩)] 188) := ⟨_, rfl⟩
      rw [← hI0e] at hI0 ⊢
      have HI0 := Lib.hid hI0
      clear hI0 hI0e
      refine wp_loop_rounds 4 ?_
      rw [rounds_succ]
      have hz2 := HI0.out.two.bel.size
      have pt2 : I0.cell? ⟨W1.heap.size, 0, none⟩ = some (.pointer (some ⟨w.heap.size + 1, 2, none⟩)) := cell_of_heap HI0.out.ptr 0 rfl
      have c2 : I0.cell? ⟨ad.block, ad.off + 2, none⟩ = some (.string x2) := cell_below (HAT.out (0 + 1) x2 rfl) HI0.out.two.bel
      obtain ⟨n2, hn2⟩ : ∃ n, n = (readS x2).1 := ⟨_, rfl⟩
      obtain ⟨e2, he2⟩ : ∃ e, e = (readS x2).2 := ⟨_, rfl⟩
      have hr2 := read_walk x2 I0 (HE.out.below HI0.out.two.bel h3) (HS.out x2 (by simp))
      unfold readAns at hr2
      rw [← hn2, ← he2] at hr2
      have HR2 := Lib.hid hr2
      have HN2 := Lib.hid hn2
      have HX2 := Lib.hid he2
      clear hr2 hn2 he2
      go_wp2_with fail
      refine HR2.out.mono ?_
      rintro e v2 ⟨rfl, hd⟩
      have hbb := drawn_below (Below.refl I0.heap.size I0) hd
      have HD2 := Lib.hid (HI0.out.below hbb)
      clear hd hbb c2 pt2
      obtain ⟨l0, l1, l2, l3, l4, l5⟩ := b60_cells HD2.out.two.loc
      obtain ⟨f0, f1, f2, f3, f4, f5⟩ := b60_frozen HD2.out.two.loc
      have hT2 : Tri w (w.heap.size + 1) W1.heap.size ⟨n0, n1, n2, 0, 0, false⟩ (v2.setCell ⟨w.heap.size + 1, 2, none⟩ (.int .i64 n2)) := HD2.out.set (by omega) 2 _ rfl
      obtain ⟨I1, hV2⟩ : ∃ W', W' = v2.setCell ⟨w.heap.size + 1, 2, none⟩ (.int .i64 n2) := ⟨_, rfl⟩
      rw [← hV2] at hT2
      have HI1 := Lib.hid hT2
      have HV2 := Lib.hid hV2
      clear hT2 hV2
      go_upto_region 13 with fail
      rw [← HV2.out]
      clear l0 l1 l2 l3 l4 l5 f0 f1 f2 f3 f4 f5
      by_cases k2 : e2 = 0
      case neg =>
        have g1 : (e2 != 0) = true := bne_iff_ne.2 k2
        have hsp : servedS [x0, x1, x2, x3, x4] = .error e2 := by rw [HX2.out]; exact sv2 (HX0.out.symm.trans k0) (HX1.out.symm.trans k1) (fun g => k2 (HX2.out.trans g))
        have HSP := Lib.hid hsp
        clear hsp k2
        obtain ⟨q0, q1, q2, q3, q4, q5⟩ := z60_cells HI1.out.two.res
        obtain ⟨z0, z1, z2, z3, z4, z5⟩ := z60_frozen HI1.out.two.res
        go_wp2_with fail
        refine bodyPost_ret (v := .tuple #[.agg #[.int .i64 0, .int .i64 0, .int .i64 0, .int .i64 0, .int .i64 0, .bool false], .int .i64 e2]) ?_ rfl ?_
        · exact results_cell_row2 (P := Tryd.prog) (fn := Tryd.f103) (p := 2) (t := 3) (ty := 60) rfl _ _ w.heap.size 60 #[.int .i64 0, .int .i64 0, .int .i64 0, .int .i64 0, .int .i64 0, .bool false] (0, 0) _ rfl (put6_blk60 HI1.out.two.res _ _ _ _ _ _) Tryd.underlying60 rfl (by kernel_rfl)
        · unfold lnQ
          rw [HSP.out]
          exact ⟨rfl, put6_below HI1.out.two.bel (Nat.le_refl _) _ _ _ _ _ _⟩
      case pos =>
        have g1 : (e2 != 0) = false := by rw [k2]; rfl
        go_wp2_with fail
        clear g1
        rw [rounds_succ]
        have hz3 := HI1.out.two.bel.size
        have pt3 : I1.cell? ⟨W1.heap.size, 1, none⟩ = some (.pointer (some ⟨w.heap.size + 1, 3, none⟩)) := cell_of_heap HI1.out.ptr 1 rfl
        have c3 : I1.cell? ⟨ad.block, ad.off + 3, none⟩ = some (.string x3) := cell_below (HAT.out (1 + 1) x3 rfl) HI1.out.two.bel
        obtain ⟨n3, hn3⟩ : ∃ n, n = (readS x3).1 := ⟨_, rfl⟩
        obtain ⟨e3, he3⟩ : ∃ e, e = (readS x3).2 := ⟨_, rfl⟩
        have hr3 := read_walk x3 I1 (HE.out.below HI1.out.two.bel h3) (HS.out x3 (by simp))
        unfold readAns at hr3
        rw [← hn3, ← he3] at hr3
        have HR3 := Lib.hid hr3
        have HN3 := Lib.hid hn3
        have HX3 := Lib.hid he3
        clear hr3 hn3 he3
        go_wp2_with fail
        refine HR3.out.mono ?_
        rintro e v3 ⟨rfl, hd⟩
        have hbb := drawn_below (Below.refl I1.heap.size I1) hd
        have HD3 := Lib.hid (HI1.out.below hbb)
        clear hd hbb c3 pt3
        obtain ⟨l0, l1, l2, l3, l4, l5⟩ := b60_cells HD3.out.two.loc
        obtain ⟨f0, f1, f2, f3, f4, f5⟩ := b60_frozen HD3.out.two.loc
        have hT3 : Tri w (w.heap.size + 1) W1.heap.size ⟨n0, n1, n2, n3, 0, false⟩ (v3.setCell ⟨w.heap.size + 1, 3, none⟩ (.int .i64 n3)) := HD3.out.set (by omega) 3 _ rfl
        obtain ⟨I2, hV3⟩ : ∃ W', W' = v3.setCell ⟨w.heap.size + 1, 3, none⟩ (.int .i64 n3) := ⟨_, rfl⟩
        rw [← hV3] at hT3
        have HI2 := Lib.hid hT3
        have HV3 := Lib.hid hV3
        clear hT3 hV3
        go_upto_region 13 with fail
        rw [← HV3.out]
        clear l0 l1 l2 l3 l4 l5 f0 f1 f2 f3 f4 f5
        by_cases k3 : e3 = 0
        case neg =>
          have g1 : (e3 != 0) = true := bne_iff_ne.2 k3
          have hsp : servedS [x0, x1, x2, x3, x4] = .error e3 := by rw [HX3.out]; exact sv3 (HX0.out.symm.trans k0) (HX1.out.symm.trans k1) (HX2.out.symm.trans k2) (fun g => k3 (HX3.out.trans g))
          have HSP := Lib.hid hsp
          clear hsp k3
          obtain ⟨q0, q1, q2, q3, q4, q5⟩ := z60_cells HI2.out.two.res
          obtain ⟨z0, z1, z2, z3, z4, z5⟩ := z60_frozen HI2.out.two.res
          go_wp2_with fail
          refine bodyPost_ret (v := .tuple #[.agg #[.int .i64 0, .int .i64 0, .int .i64 0, .int .i64 0, .int .i64 0, .bool false], .int .i64 e3]) ?_ rfl ?_
          · exact results_cell_row2 (P := Tryd.prog) (fn := Tryd.f103) (p := 2) (t := 3) (ty := 60) rfl _ _ w.heap.size 60 #[.int .i64 0, .int .i64 0, .int .i64 0, .int .i64 0, .int .i64 0, .bool false] (0, 0) _ rfl (put6_blk60 HI2.out.two.res _ _ _ _ _ _) Tryd.underlying60 rfl (by kernel_rfl)
          · unfold lnQ
            rw [HSP.out]
            exact ⟨rfl, put6_below HI2.out.two.bel (Nat.le_refl _) _ _ _ _ _ _⟩
        case pos =>
          have g1 : (e3 != 0) = false := by rw [k3]; rfl
          go_wp2_with fail
          clear g1
          rw [rounds_succ]
          have hz4 := HI2.out.two.bel.size
          have pt4 : I2.cell? ⟨W1.heap.size, 2, none⟩ = some (.pointer (some ⟨w.heap.size + 1, 4, none⟩)) := cell_of_heap HI2.out.ptr 2 rfl
          have c4 : I2.cell? ⟨ad.block, ad.off + 4, none⟩ = some (.string x4) := cell_below (HAT.out (2 + 1) x4 rfl) HI2.out.two.bel
          obtain ⟨n4, hn4⟩ : ∃ n, n = (readS x4).1 := ⟨_, rfl⟩
          obtain ⟨e4, he4⟩ : ∃ e, e = (readS x4).2 := ⟨_, rfl⟩
          have hr4 := read_walk x4 I2 (HE.out.below HI2.out.two.bel h3) (HS.out x4 (by simp))
          unfold readAns at hr4
          rw [← hn4, ← he4] at hr4
          have HR4 := Lib.hid hr4
          have HN4 := Lib.hid hn4
          have HX4 := Lib.hid he4
          clear hr4 hn4 he4
          go_wp2_with fail
          refine HR4.out.mono ?_
          rintro e v4 ⟨rfl, hd⟩
          have hbb := drawn_below (Below.refl I2.heap.size I2) hd
          have HD4 := Lib.hid (HI2.out.below hbb)
          clear hd hbb c4 pt4
          obtain ⟨l0, l1, l2, l3, l4, l5⟩ := b60_cells HD4.out.two.loc
          obtain ⟨f0, f1, f2, f3, f4, f5⟩ := b60_frozen HD4.out.two.loc
          have hT4 : Tri w (w.heap.size + 1) W1.heap.size ⟨n0, n1, n2, n3, n4, false⟩ (v4.setCell ⟨w.heap.size + 1, 4, none⟩ (.int .i64 n4)) := HD4.out.set (by omega) 4 _ rfl
          obtain ⟨I3, hV4⟩ : ∃ W', W' = v4.setCell ⟨w.heap.size + 1, 4, none⟩ (.int .i64 n4) := ⟨_, rfl⟩
          rw [← hV4] at hT4
          have HI3 := Lib.hid hT4
          have HV4 := Lib.hid hV4
          clear hT4 hV4
          go_upto_region 13 with fail
          rw [← HV4.out]
          clear l0 l1 l2 l3 l4 l5 f0 f1 f2 f3 f4 f5
          by_cases k4 : e4 = 0
          case neg =>
            have g1 : (e4 != 0) = true := bne_iff_ne.2 k4
            have hsp : servedS [x0, x1, x2, x3, x4] = .error e4 := by rw [HX4.out]; exact sv4 (HX0.out.symm.trans k0) (HX1.out.symm.trans k1) (HX2.out.symm.trans k2) (HX3.out.symm.trans k3) (fun g => k4 (HX4.out.trans g))
            have HSP := Lib.hid hsp
            clear hsp k4
            obtain ⟨q0, q1, q2, q3, q4, q5⟩ := z60_cells HI3.out.two.res
            obtain ⟨z0, z1, z2, z3, z4, z5⟩ := z60_frozen HI3.out.two.res
            go_wp2_with fail
            refine bodyPost_ret (v := .tuple #[.agg #[.int .i64 0, .int .i64 0, .int .i64 0, .int .i64 0, .int .i64 0, .bool false], .int .i64 e4]) ?_ rfl ?_
            · exact results_cell_row2 (P := Tryd.prog) (fn := Tryd.f103) (p := 2) (t := 3) (ty := 60) rfl _ _ w.heap.size 60 #[.int .i64 0, .int .i64 0, .int .i64 0, .int .i64 0, .int .i64 0, .bool false] (0, 0) _ rfl (put6_blk60 HI3.out.two.res _ _ _ _ _ _) Tryd.underlying60 rfl (by kernel_rfl)
            · unfold lnQ
              rw [HSP.out]
              exact ⟨rfl, put6_below HI3.out.two.bel (Nat.le_refl _) _ _ _ _ _ _⟩
          case pos =>
            have g1 : (e4 != 0) = false := by rw [k4]; rfl
            go_wp2_with fail
            clear g1
            rw [rounds_succ]
            obtain ⟨l0, l1, l2, l3, l4, l5⟩ := b60_cells HI3.out.two.loc
            obtain ⟨f0, f1, f2, f3, f4, f5⟩ := b60_frozen HI3.out.two.loc
            have hz5 := HI3.out.two.bel.size
            have hT5 : Tri w (w.heap.size + 1) W1.heap.size ⟨n0, n1, n2, n3, n4, true⟩ (I3.setCell ⟨w.heap.size + 1, 5, none⟩ (.bool true)) := HI3.out.set (by omega) 5 _ rfl
            obtain ⟨I4, hV5⟩ : ∃ W', W' = I3.setCell ⟨w.heap.size + 1, 5, none⟩ (.bool true) := ⟨_, rfl⟩
            rw [← hV5] at hT5
            have HI4 := Lib.hid hT5
            have HV5 := Lib.hid hV5
            have hsp : servedS [x0, x1, x2, x3, x4] = .ok ⟨n0, n1, n2, n3, n4, true⟩ := by rw [HN0.out, HN1.out, HN2.out, HN3.out, HN4.out]; exact sv5 (HX0.out.symm.trans k0) (HX1.out.symm.trans k1) (HX2.out.symm.trans k2) (HX3.out.symm.trans k3) (HX4.out.symm.trans k4)
            have HSP := Lib.hid hsp
            clear hT5 hV5 hsp k0 k1 k2 k3 k4
            go_upto_region 17 with fail
            rw [← HV5.out]
            clear l0 l1 l2 l3 l4 l5 f0 f1 f2 f3 f4 f5
            obtain ⟨l0, l1, l2, l3, l4, l5⟩ := b60_cells HI4.out.two.loc
            obtain ⟨q0, q1, q2, q3, q4, q5⟩ := z60_cells HI4.out.two.res
            obtain ⟨z0, z1, z2, z3, z4, z5⟩ := z60_frozen HI4.out.two.res
            go_wp2_with fail
            refine bodyPost_ret (v := .tuple #[.agg #[.int .i64 n0, .int .i64 n1, .int .i64 n2, .int .i64 n3, .int .i64 n4, .bool true], .int .i64 0]) ?_ rfl ?_
            · exact results_cell_row2 (P := Tryd.prog) (fn := Tryd.f103) (p := 2) (t := 3) (ty := 60) rfl _ _ w.heap.size 60 #[.int .i64 n0, .int .i64 n1, .int .i64 n2, .int .i64 n3, .int .i64 n4, .bool true] (0, 0) _ rfl (put6_blk60 HI4.out.two.res _ _ _ _ _ _) Tryd.underlying60 rfl (by kernel_rfl)
            · unfold lnQ
              rw [HSP.out]
              exact ⟨rfl, put6_below HI4.out.two.bel (Nat.le_refl _) _ _ _ _ _ _⟩
end Go.Proofs.YtdgifgdadminbaaDoor

/-! ### T3 -/
set_option linter.unusedSimpArgs false
set_option linter.unusedVariables false
set_option maxRecDepth 100000
namespace Go.Proofs.YtdgifgdadminbaaDoor
open Go.RowKit Go.Proofs.YtdgifgdadminbaaDoorW.PrintWords Sp
open PFileParses (wrap_id ba_len bt_nat toList_data info3 info2 info9)

theorem pick_zero {v : Int} (h : (if v < -1099511627776 ∨ 1099511627776 < v then ((0, 23) : Int × Int) else (v, 0)).2 ≠ 0) : (if v < -1099511627776 ∨ 1099511627776 < v then ((0, 23) : Int × Int) else (v, 0)).1 = 0 := by
  split <;> rename_i h1
  · rfl
  · rw [if_neg h1] at h
    exact absurd rfl h
theorem readL_zero (l : List UInt8) (h : (readL l).2 ≠ 0) : (readL l).1 = 0 := by
  unfold readL at h ⊢
  dsimp only at h ⊢
  by_cases h1 : ((if (l.head? == some 45) = true then l.tail else l).all isD && decide (1 ≤ (if (l.head? == some 45) = true then l.tail else l).length) && decide ((if (l.head? == some 45) = true then l.tail else l).length ≤ 13)) = true
  · rw [if_pos h1] at h ⊢
    exact pick_zero h
  · rw [if_neg h1]
theorem wholeS_zero (s : ByteArray) (h : (wholeS s).2 ≠ 0) : (wholeS s).1 = 0 := by
  unfold wholeS wholeL at h ⊢
  split <;> rename_i h1
  · rfl
  · rw [if_neg h1] at h
    exact readL_zero _ h
/-- The result's variable, not yet written. -/
structure Res (w W : World) : Prop where
  res : W.heap[w.heap.size]? = some Z60
  bel : Below w.heap.size w W
theorem two_res {w w1 w2 : World} (h : w1.heap[w.heap.size]? = some Z60) (hb : Below w.heap.size w w1) (hb2 : Below w1.heap.size w1 w2) : Res w w2 :=
  ⟨(hb2.block _ (lt_of_some h)).trans h, hb.trans (hb2.mono hb.size)⟩
theorem rt_word {s : ByteArray} (h : (wordsS s).2 ≠ 0) : readT s = .error (wordsS s).2 := by unfold readT; rw [if_pos h]
theorem rt_five {s : ByteArray} (h : (wordsS s).2 = 0) (h5 : (wordsS s).1.length = 5) : readT s = servedS (wordsS s).1 := by unfold readT; rw [if_neg (fun g => g h), if_pos h5]
theorem rt_form {s : ByteArray} (h : (wordsS s).2 = 0) (h5 : (wordsS s).1.length ≠ 5) (h2 : (wordsS s).1.length ≠ 2 ∨ wAt (wordsS s).1 1 ≠ sUn) : readT s = .error 21 := by unfold readT; rw [if_neg (fun g => g h), if_neg h5, if_pos h2]
theorem rt_bad {s : ByteArray} (h : (wordsS s).2 = 0) {x : ByteArray} (hw : (wordsS s).1 = [x, sUn]) (h2 : (wholeS x).2 ≠ 0) : readT s = .error (wholeS x).2 := by
  unfold readT
  rw [if_neg (fun g => g h), hw, if_neg (by simp), if_neg (by simp [wAt])]
  exact if_pos h2
theorem rt_un {s : ByteArray} (h : (wordsS s).2 = 0) {x : ByteArray} (hw : (wordsS s).1 = [x, sUn]) (h2 : (wholeS x).2 = 0) : readT s = .ok ⟨(wholeS x).1, 0, 0, 0, 0, false⟩ := by
  unfold readT
  rw [if_neg (fun g => g h), hw, if_neg (by simp), if_neg (by simp [wAt])]
  exact if_neg (fun g => g h2)

set_option maxHeartbeats 8000000 in
theorem readT_c (s : ByteArray) (w : World) (hE : Env w) (hs : s.size < 4294967281) :
    Calls Tryd.prog 64 #[.string s] w fun e w' => lnQ (readT s) w e w' := by
  obtain ⟨W, hW⟩ : ∃ W, W = w.alloc Z60 := ⟨_, rfl⟩
  have hbW : Below w.heap.size w W := by rw [hW]; exact (Below.refl _ _).alloc (Nat.le_refl _) _
  have hb0 : W.heap[w.heap.size]? = some Z60 := by rw [hW]; exact heap_alloc_new w Z60
  have hWs : w.heap.size < W.heap.size := lt_of_some hb0
  have h3 := hE.size
  have hEW := hE.below hbW hE.size
  obtain ⟨ws, hws⟩ : ∃ ws, ws = (wordsS s).1 := ⟨_, rfl⟩
  obtain ⟨ew, hew⟩ : ∃ ew, ew = (wordsS s).2 := ⟨_, rfl⟩
  have hthin := wordsV_thin s
  have hwd := words_walk s W hEW hs
  rw [← hws] at hthin
  rw [← hws, ← hew] at hwd
  have HW := Lib.hid hW
  have HbW := Lib.hid hbW
  have HB0 := Lib.hid hb0
  have HE := Lib.hid hE
  have HWS := Lib.hid hws
  have HEW := Lib.hid hew
  have HWD := Lib.hid hwd
  have HTH : Hid (∀ x ∈ ws, x.size < 4294967281) := Lib.hid (fun x hx => by have := hthin x hx; omega)
  clear hW hbW hb0 hEW hwd hws hew hE hthin
  go_enter Tryd.func64, Tryd.ntmps64
  go_upto_region 1 with fail
  rw [show w.alloc (.cells #[.int .i64 0, .int .i64 0, .int .i64 0, .int .i64 0, .int .i64 0, .bool false] 60) = W from HW.out.symm]
  go_wp2_with fail
  refine HWD.out.mono ?_
  rintro e w1 ⟨v1, rfl, hR1, hbe1⟩
  have hz1 := hbe1.size
  have HC1 := Lib.hid ((hbe1.block _ (by omega)).trans HB0.out)
  have HBE1 := Lib.hid (HbW.out.trans (hbe1.mono (by omega)))
  have HR1 := Lib.hid hR1
  clear hR1 hbe1 HWD
  by_cases he : ew = 0
  · subst he
    obtain ⟨A, cl, rfl, hle, hC⟩ := Kd.R_reads HR1.out
    have HCC := Lib.hid hC
    clear hC
    by_cases h5 : ws.length = 5
    · have hsp := rt_five HEW.out.symm (by rw [← HWS.out]; exact h5)
      rw [← HWS.out] at hsp
      obtain ⟨x0, x1, x2, x3, x4, rfl⟩ : ∃ x0 x1 x2 x3 x4, ws = [x0, x1, x2, x3, x4] := by
        match ws, h5 with
        | [x0, x1, x2, x3, x4], _ => exact ⟨x0, x1, x2, x3, x4, rfl⟩
      have hsv := served_c x0 x1 x2 x3 x4 A cl w1 (HE.out.below HBE1.out h3) HCC.out HTH.out
      unfold lnQ at hsv
      have HSP := Lib.hid hsp
      clear hsp h5
      cases hk : servedS [x0, x1, x2, x3, x4] with
      | error er =>
        rw [hk] at hsv
        have HSV := Lib.hid hsv
        have HSK := Lib.hid (HSP.out.trans hk)
        clear hsv hk
        go_wp2_with fail
        refine HSV.out.mono ?_
        rintro e w2 ⟨rfl, hb2⟩
        have HT := Lib.hid (two_res HC1.out HBE1.out hb2)
        clear hb2
        obtain ⟨q0, q1, q2, q3, q4, q5⟩ := z60_cells HT.out.res
        obtain ⟨z0, z1, z2, z3, z4, z5⟩ := z60_frozen HT.out.res
        go_wp2_with fail
        refine bodyPost_ret (v := .tuple #[.agg #[.int .i64 0, .int .i64 0, .int .i64 0, .int .i64 0, .int .i64 0, .bool false], .int .i64 er]) ?_ rfl ?_
        · exact results_cell_row2 (P := Tryd.prog) (fn := Tryd.f64) (p := 2) (t := 3) (ty := 60) rfl _ _ w.heap.size 60 #[.int .i64 0, .int .i64 0, .int .i64 0, .int .i64 0, .int .i64 0, .bool false] (0, 0) _ rfl (put6_blk60 HT.out.res _ _ _ _ _ _) Tryd.underlying60 rfl (by kernel_rfl)
        · unfold lnQ
          rw [HSK.out]
          exact ⟨rfl, put6_below HT.out.bel (Nat.le_refl _) _ _ _ _ _ _⟩
      | ok l =>
        rw [hk] at hsv
        have HSV := Lib.hid hsv
        have HSK := Lib.hid (HSP.out.trans hk)
        clear hsv hk
        go_wp2_with fail
        refine HSV.out.mono ?_
        rintro e w2 ⟨rfl, hb2⟩
        have HT := Lib.hid (two_res HC1.out HBE1.out hb2)
        clear hb2
        obtain ⟨q0, q1, q2, q3, q4, q5⟩ := z60_cells HT.out.res
        obtain ⟨z0, z1, z2, z3, z4, z5⟩ := z60_frozen HT.out.res
        go_wp2_with fail
        refine bodyPost_ret (v := .tuple #[.agg #[.int .i64 l.f0, .int .i64 l.f1, .int .i64 l.f2, .int .i64 l.f3, .int .i64 l.f4, .bool l.f5], .int .i64 0]) ?_ rfl ?_
        · exact results_cell_row2 (P := Tryd.prog) (fn := Tryd.f64) (p := 2) (t := 3) (ty := 60) rfl _ _ w.heap.size 60 #[.int .i64 l.f0, .int .i64 l.f1, .int .i64 l.f2, .int .i64 l.f3, .int .i64 l.f4, .bool l.f5] (0, 0) _ rfl (put6_blk60 HT.out.res _ _ _ _ _ _) Tryd.underlying60 rfl (by kernel_rfl)
        · unfold lnQ
          rw [HSK.out]
          exact ⟨rfl, put6_below HT.out.bel (Nat.le_refl _) _ _ _ _ _ _⟩
    · have g5 : ((ws.length : Int) == 5) = false := beq_eq_false_iff_ne.2 (by omega)
      by_cases h2 : ws.length = 2
      · obtain ⟨x0, x1, rfl⟩ : ∃ x0 x1, ws = [x0, x1] := by
          match ws, h2 with
          | [x0, x1], _ => exact ⟨x0, x1, rfl⟩
        obtain ⟨ad, rfl, hc0⟩ := Kd.at_string HCC.out 0 (by omega) (by simp)
        obtain ⟨ad', hae, hc1⟩ := Kd.at_string HCC.out 1 (by omega) (by simp)
        obtain rfl := Option.some.inj hae
        have c0 : w1.cell? ad = some (.string x0) := by simpa [Addr.add, rdOf] using hc0
        have c1 : w1.cell? ⟨ad.block, ad.off + 1, none⟩ = some (.string x1) := by simpa [Addr.add, rdOf] using hc1
        clear hc0 hc1 hae
        by_cases hu : x1 = sUn
        · have gu : (x1.toList == [117, 110, 115, 101, 114, 118, 101, 100]) = true := by rw [hu, toList_data]; decide
          rw [hu] at HWS
          clear hu
          obtain ⟨n0, hn0⟩ : ∃ n, n = (wholeS x0).1 := ⟨_, rfl⟩
          obtain ⟨e0, he0⟩ : ∃ e, e = (wholeS x0).2 := ⟨_, rfl⟩
          have hr0 := whole_walk x0 w1 (HE.out.below HBE1.out h3) (HTH.out x0 (by simp))
          rw [← hn0, ← he0] at hr0
          have hq : readT s = if e0 = 0 then .ok ⟨n0, 0, 0, 0, 0, false⟩ else .error e0 := by
            by_cases hz : (wholeS x0).2 = 0
            · rw [rt_un HEW.out.symm HWS.out.symm hz, if_pos (he0.trans hz), hn0]
            · rw [rt_bad HEW.out.symm HWS.out.symm hz, if_neg (fun g => hz (he0.symm.trans g)), he0]
          have hzz : e0 ≠ 0 → n0 = 0 := fun g => by rw [hn0]; exact wholeS_zero x0 (fun k => g (he0.trans k))
          have HR0 := Lib.hid hr0
          have HQ := Lib.hid hq
          have HZZ := Lib.hid hzz
          clear hr0 hq hzz hn0 he0
          go_wp2_with fail
          refine HR0.out.mono ?_
          rintro e w2 ⟨rfl, hd⟩
          have hb2 := drawn_below (Below.refl w1.heap.size w1) hd
          have HT := Lib.hid (two_res HC1.out HBE1.out hb2)
          clear hb2 hd c0 c1
          obtain ⟨q0, q1, q2, q3, q4, q5⟩ := z60_cells HT.out.res
          obtain ⟨z0, z1, z2, z3, z4, z5⟩ := z60_frozen HT.out.res
          go_wp2_with fail
          refine bodyPost_ret (v := .tuple #[.agg #[.int .i64 n0, .int .i64 0, .int .i64 0, .int .i64 0, .int .i64 0, .bool false], .int .i64 e0]) ?_ rfl ?_
          · exact results_cell_row2 (P := Tryd.prog) (fn := Tryd.f64) (p := 2) (t := 3) (ty := 60) rfl _ _ w.heap.size 60 #[.int .i64 n0, .int .i64 0, .int .i64 0, .int .i64 0, .int .i64 0, .bool false] (0, 0) _ rfl (put6_blk60 HT.out.res _ _ _ _ _ _) Tryd.underlying60 rfl (by kernel_rfl)
          · unfold lnQ
            rw [HQ.out]
            have hbb := put6_below HT.out.bel (Nat.le_refl _) (.int .i64 n0) (.int .i64 0) (.int .i64 0) (.int .i64 0) (.int .i64 0) (.bool false)
            by_cases h0 : e0 = 0
            · rw [if_pos h0, h0]
              exact ⟨rfl, hbb⟩
            · rw [if_neg h0]
              have hn := HZZ.out h0
              refine ⟨by rw [hn], hbb⟩
        · have gu : (x1.toList == [117, 110, 115, 101, 114, 118, 101, 100]) = false := beq_eq_false_iff_ne.2 (fun g => hu (ByteArray.ext (Array.ext' (by rw [← toList_data, g]; rfl))))
          have hsp := rt_form HEW.out.symm (by rw [← HWS.out]; simp) (.inr (by rw [← HWS.out]; exact hu))
          have HSK := Lib.hid hsp
          have HT := Lib.hid (two_res HC1.out HBE1.out (Below.refl _ _))
          clear hsp
          obtain ⟨q0, q1, q2, q3, q4, q5⟩ := z60_cells HT.out.res
          obtain ⟨z0, z1, z2, z3, z4, z5⟩ := z60_frozen HT.out.res
          go_wp2_with fail
          refine bodyPost_ret (v := .tuple #[.agg #[.int .i64 0, .int .i64 0, .int .i64 0, .int .i64 0, .int .i64 0, .bool false], .int .i64 21]) ?_ rfl ?_
          · exact results_cell_row2 (P := Tryd.prog) (fn := Tryd.f64) (p := 2) (t := 3) (ty := 60) rfl _ _ w.heap.size 60 #[.int .i64 0, .int .i64 0, .int .i64 0, .int .i64 0, .int .i64 0, .bool false] (0, 0) _ rfl (put6_blk60 HT.out.res _ _ _ _ _ _) Tryd.underlying60 rfl (by kernel_rfl)
          · unfold lnQ
            rw [HSK.out]
            exact ⟨rfl, put6_below HT.out.bel (Nat.le_refl _) _ _ _ _ _ _⟩
      · have g2 : ((ws.length : Int) != 2) = true := bne_iff_ne.2 (by omega)
        have hsp := rt_form HEW.out.symm (by rw [← HWS.out]; exact h5) (.inl (by rw [← HWS.out]; exact h2))
        have HSK := Lib.hid hsp
        have HT := Lib.hid (two_res HC1.out HBE1.out (Below.refl _ _))
        clear hsp h5 h2
        obtain ⟨q0, q1, q2, q3, q4, q5⟩ := z60_cells HT.out.res
        obtain ⟨z0, z1, z2, z3, z4, z5⟩ := z60_frozen HT.out.res
        go_wp2_with fail
        refine bodyPost_ret (v := .tuple #[.agg #[.int .i64 0, .int .i64 0, .int .i64 0, .int .i64 0, .int .i64 0, .bool false], .int .i64 21]) ?_ rfl ?_
        · exact results_cell_row2 (P := Tryd.prog) (fn := Tryd.f64) (p := 2) (t := 3) (ty := 60) rfl _ _ w.heap.size 60 #[.int .i64 0, .int .i64 0, .int .i64 0, .int .i64 0, .int .i64 0, .bool false] (0, 0) _ rfl (put6_blk60 HT.out.res _ _ _ _ _ _) Tryd.underlying60 rfl (by kernel_rfl)
        · unfold lnQ
          rw [HSK.out]
          exact ⟨rfl, put6_below HT.out.bel (Nat.le_refl _) _ _ _ _ _ _⟩
  · have g1 : (ew != 0) = true := bne_iff_ne.2 he
    have hsp := rt_word (s := s) (by rw [← HEW.out]; exact he)
    rw [← HEW.out] at hsp
    have HSK := Lib.hid hsp
    have HT := Lib.hid (two_res HC1.out HBE1.out (Below.refl _ _))
    clear hsp he
    obtain ⟨q0, q1, q2, q3, q4, q5⟩ := z60_cells HT.out.res
    obtain ⟨z0, z1, z2, z3, z4, z5⟩ := z60_frozen HT.out.res
    go_wp2_with fail
    refine bodyPost_ret (v := .tuple #[.agg #[.int .i64 0, .int .i64 0, .int .i64 0, .int .i64 0, .int .i64 0, .bool false], .int .i64 ew]) ?_ rfl ?_
    · exact results_cell_row2 (P := Tryd.prog) (fn := Tryd.f64) (p := 2) (t := 3) (ty := 60) rfl _ _ w.heap.size 60 #[.int .i64 0, .int .i64 0, .int .i64 0, .int .i64 0, .int .i64 0, .bool false] (0, 0) _ rfl (put6_blk60 HT.out.res _ _ _ _ _ _) Tryd.underlying60 rfl (by kernel_rfl)
    · unfold lnQ
      rw [HSK.out]
      exact ⟨rfl, put6_below HT.out.bel (Nat.le_refl _) _ _ _ _ _ _⟩
end Go.Proofs.YtdgifgdadminbaaDoor

/-! ### T4 -/
set_option linter.unusedSimpArgs false
set_option linter.unusedVariables false
set_option maxRecDepth 100000
namespace Go.Proofs.YtdgifgdadminbaaDoor
open Go.RowKit Go.Proofs.YtdgifgdadminbaaDoorW.PrintWords Sp
open PFileParses (wrap_id ba_len bt_nat toList_data info3 info2 info9)

def kln : Kd Ln := Kd.iso (Kd.pair (Kd.int .i64) (Kd.pair (Kd.int .i64) (Kd.pair (Kd.int .i64) (Kd.pair (Kd.int .i64) (Kd.pair (Kd.int .i64) Kd.bool))))) (fun x : Ln => (x.f0, x.f1, x.f2, x.f3, x.f4, x.f5))
theorem kln_mkM (w : World) (base : Nat) (ok : Nat → Prop) (x : Ln) : kln.M w base ok x [.int .i64 x.f0, .int .i64 x.f1, .int .i64 x.f2, .int .i64 x.f3, .int .i64 x.f4, .bool x.f5] := ⟨[.int .i64 x.f0], [.int .i64 x.f1, .int .i64 x.f2, .int .i64 x.f3, .int .i64 x.f4, .bool x.f5], rfl, rfl, ⟨[.int .i64 x.f1], [.int .i64 x.f2, .int .i64 x.f3, .int .i64 x.f4, .bool x.f5], rfl, rfl, ⟨[.int .i64 x.f2], [.int .i64 x.f3, .int .i64 x.f4, .bool x.f5], rfl, rfl, ⟨[.int .i64 x.f3], [.int .i64 x.f4, .bool x.f5], rfl, rfl, ⟨[.int .i64 x.f4], [.bool x.f5], rfl, rfl, rfl⟩⟩⟩⟩⟩
theorem kln_mk (w : World) (x : Ln) : kln.K w x [.int .i64 x.f0, .int .i64 x.f1, .int .i64 x.f2, .int .i64 x.f3, .int .i64 x.f4, .bool x.f5] := ⟨[.int .i64 x.f0], [.int .i64 x.f1, .int .i64 x.f2, .int .i64 x.f3, .int .i64 x.f4, .bool x.f5], rfl, rfl, ⟨[.int .i64 x.f1], [.int .i64 x.f2, .int .i64 x.f3, .int .i64 x.f4, .bool x.f5], rfl, rfl, ⟨[.int .i64 x.f2], [.int .i64 x.f3, .int .i64 x.f4, .bool x.f5], rfl, rfl, ⟨[.int .i64 x.f3], [.int .i64 x.f4, .bool x.f5], rfl, rfl, ⟨[.int .i64 x.f4], [.bool x.f5], rfl, rfl, rfl⟩⟩⟩⟩⟩
theorem kln_open {w : World} {x : Ln} {cs : List Value} (h : kln.K w x cs) : cs = [.int .i64 x.f0, .int .i64 x.f1, .int .i64 x.f2, .int .i64 x.f3, .int .i64 x.f4, .bool x.f5] := by
  obtain ⟨_, _, rfl, rfl, ⟨_, _, rfl, rfl, ⟨_, _, rfl, rfl, ⟨_, _, rfl, rfl, ⟨_, _, rfl, rfl, rfl⟩⟩⟩⟩⟩ := h
  rfl
def rdLn (xs : List Ln) (i : Nat) : Ln := xs.getD i lnZ
theorem at_ln {w : World} {A : Option Addr} {n : Nat} {xs : List Ln} (h : Kd.C kln w A n xs) (i : Nat) (h1 : i < n) : ∃ ad, A = some ad ∧ w.cell? (ad.add (i * 6)) = some (.int .i64 (rdLn xs i).f0) ∧ w.cell? ⟨(ad.add (i * 6)).block, (ad.add (i * 6)).off + 1, none⟩ = some (.int .i64 (rdLn xs i).f1) ∧ w.cell? ⟨(ad.add (i * 6)).block, (ad.add (i * 6)).off + 2, none⟩ = some (.int .i64 (rdLn xs i).f2) ∧ w.cell? ⟨(ad.add (i * 6)).block, (ad.add (i * 6)).off + 3, none⟩ = some (.int .i64 (rdLn xs i).f3) ∧ w.cell? ⟨(ad.add (i * 6)).block, (ad.add (i * 6)).off + 4, none⟩ = some (.int .i64 (rdLn xs i).f4) ∧ w.cell? ⟨(ad.add (i * 6)).block, (ad.add (i * 6)).off + 5, none⟩ = some (.bool (rdLn xs i).f5) := by
  obtain ⟨ad, c, e, _, hK, hc0⟩ := Kd.C_get h lnZ (i : Int) (by omega) (by omega)
  have hc : ∀ j u, c[j]? = some u → w.cell? (ad.add (i * 6 + j)) = some u := hc0
  obtain rfl := kln_open hK
  exact ⟨ad, e, hc 0 _ rfl, by rw [← add_field _ _ 1 (by omega)]; exact hc 1 _ rfl, by rw [← add_field _ _ 2 (by omega)]; exact hc 2 _ rfl, by rw [← add_field _ _ 3 (by omega)]; exact hc 3 _ rfl, by rw [← add_field _ _ 4 (by omega)]; exact hc 4 _ rfl, by rw [← add_field _ _ 5 (by omega)]; exact hc 5 _ rfl⟩
theorem info60 : (Tryd.prog.info? 60).map (fun i => (i.zero, i.size, i.bytes)) = some (some (.agg #[.int .i64 0, .int .i64 0, .int .i64 0, .int .i64 0, .int .i64 0, .bool false]), 6, 48) := by kernel_rfl
def parseTQ (s : ByteArray) (w : World) (e : Ending) (w' : World) : Prop := match parseT s with
  | .error x => e = .returned (.tuple #[.slice none 0 0, .int .i64 x.1, .int .i64 x.2]) ∧ Below w.heap.size w w'
  | .ok ls => ∃ v, e = .returned (.tuple #[v, .int .i64 0, .int .i64 0]) ∧ Kd.R kln 60 w' w.heap.size (fun _ => True) v ls ∧ Below w.heap.size w w'

set_option maxHeartbeats 8000000 in
theorem parseT_c (s : ByteArray) (w : World) (hE : Env w) (hs : s.size < 4294967281) :
    Calls Tryd.prog 29 #[.string s] w fun e w' => parseTQ s w e w' := by
  have h3 := hE.size
  have hli := lines_walk s w hE hs
  obtain ⟨ls, hls⟩ : ∃ ls, ls = (linesS s).1 := ⟨_, rfl⟩
  obtain ⟨el, hel⟩ : ∃ el, el = (linesS s).2 := ⟨_, rfl⟩
  rw [← hls, ← hel] at hli
  have HLS := Lib.hid hls
  have HEL := Lib.hid hel
  have HLI := Lib.hid hli
  have HE := Lib.hid hE
  clear hls hel hli hE
  go_enter Tryd.func29, Tryd.ntmps29
  go_wp2_with fail
  refine HLI.out.mono ?_
  rintro e w1 ⟨v1, rfl, hR1, hbe1⟩
  have hz1 := hbe1.size
  have HBE1 := Lib.hid hbe1
  have HR1 := Lib.hid hR1
  clear hR1 hbe1 HLI
  by_cases he : el = 0
  · subst he
    obtain ⟨hmany, hthin, hbody⟩ := linesV_thin (s := s) HEL.out.symm
    rw [← HLS.out] at hmany hthin hbody
    obtain ⟨A, cl, rfl, hle, hC⟩ := Kd.R_reads HR1.out
    have hps : parseT s = parseTA ls [] := by unfold parseT; rw [← HEL.out, ← HLS.out, if_neg (by decide)]
    have HPS := Lib.hid hps
    have HCL := Lib.hid hC
    have HTH := Lib.hid hthin
    clear hps hC hthin hbody
    go_wp2_with fail
    go_loopw [7, 22] (fun out i wr => ∃ (I : Nat) (acc : List Ln), I ≤ ls.length ∧ i = .int .i64 I ∧ acc.length = I ∧ parseT s = parseTA (ls.drop I) acc ∧ Kd.R kln 60 wr w1.heap.size (fun _ => True) out acc ∧ Below w1.heap.size w1 wr) (fun _ i _ => ls.length - (intOf i).toNat)
    case atStart => exact ⟨0, [], Nat.zero_le _, rfl, rfl, by rw [HPS.out, List.drop_zero], Kd.R_nil _ _ _ _ _, Below.refl _ _⟩
    case round =>
      obtain ⟨I, acc, hI, rfl, hacc, hpa, hO, hB⟩ := hrel
      have hzr := hB.size
      have HPA := Lib.hid hpa
      have HO := Lib.hid hO
      have HB := Lib.hid hB
      have HBE := Lib.hid (HBE1.out.trans (hB.mono hz1))
      have HCR := Lib.hid (Kd.C_below HCL.out hB)
      clear hpa hO hB
      by_cases hlt : I < ls.length
      · obtain ⟨ad, hAe, hc⟩ := Kd.at_string HCR.out I (by omega) (by omega)
        subst hAe
        rw [Int.toNat_natCast] at hc
        have hrd : rdOf ByteArray.empty ls (I : Int) = ls[I]'hlt := by
          unfold rdOf
          rw [Int.toNat_natCast, List.getD_eq_getElem?_getD, List.getElem?_eq_getElem hlt]
          rfl
        rw [hrd] at hc
        have hxk := HTH.out (ls[I]'hlt) (List.getElem_mem hlt)
        have hdr := List.drop_eq_getElem_cons hlt
        obtain ⟨l, hl⟩ : ∃ l, l = ls[I]'hlt := ⟨_, rfl⟩
        rw [← hl] at hc hxk hdr
        have hpa : parseT s = parseTA (l :: ls.drop (I + 1)) acc := by rw [HPA.out, hdr]
        have HPB := Lib.hid hpa
        have hrl := readT_c l wr (HE.out.below HBE.out h3) (by omega)
        unfold lnQ at hrl
        have HI1 : wrap64 ((I : Int) + 1) = (I : Int) + 1 := wrap_id (by omega) (by omega)
        have HW1 := Lib.hid HI1
        clear hrd hl hdr hpa HPA HI1
        cases hrv : readT l with
        | error er =>
          rw [hrv] at hrl
          dsimp only at hrl
          have hspec : parseT s = .error ((I : Int) + 1, er) := by rw [HPB.out, parseTA, hrv, ← hacc]
          have HSP := Lib.hid hspec
          have HRL := Lib.hid hrl
          have hner : er ≠ 0 := readT_err hrv
          have g1 : (er != 0) = true := bne_iff_ne.2 hner
          clear hspec hrl hrv hner
          go_wp2_with fail
          refine HRL.out.mono ?_
          rintro e w2 ⟨rfl, hb2⟩
          have hz2 := hb2.size
          have HB2 := Lib.hid (HBE.out.trans (hb2.mono (by omega)))
          clear hb2
          go_wp2_with fail
          refine bodyPost_ret (v := .tuple #[.slice none 0 0, .int .i64 ((I : Int) + 1), .int .i64 er]) ?_ rfl ?_
          · exact results_tmp3 (P := Tryd.prog) (fn := Tryd.f29) (p := 2) (t := 3) (u := 4) rfl _ _
          · unfold parseTQ
            rw [HSP.out]
            exact ⟨rfl, HB2.out.alloc (by omega) _⟩
        | ok c =>
          rw [hrv] at hrl
          dsimp only at hrl
          have HRV := Lib.hid hrv
          have HRL := Lib.hid hrl
          clear hrv hrl
          go_wp2_with fail
          refine HRL.out.mono ?_
          rintro e w2 ⟨rfl, hb2⟩
          have hz2 := hb2.size
          go_upto_region 9 with fail
          obtain ⟨W3, hW3⟩ : ∃ W, W = w2.alloc (.cells #[.int .i64 c.f0, .int .i64 c.f1, .int .i64 c.f2, .int .i64 c.f3, .int .i64 c.f4, .bool c.f5] 60) := ⟨_, rfl⟩
          rw [← hW3]
          have hbW3 : Below w2.heap.size w2 W3 := by rw [hW3]; exact (Below.refl _ _).alloc (Nat.le_refl _) _
          have hn3 : W3.heap[w2.heap.size]? = some (B60 c) := by rw [hW3]; exact heap_alloc_new w2 _
          have hz3 : w2.heap.size < W3.heap.size := lt_of_some hn3
          have hbc := hb2.trans (hbW3.mono hz2)
          have HB23 := Lib.hid hbc
          have HN3 := Lib.hid hn3
          have HO3 := Lib.hid (Kd.R_below HO.out hbc)
          clear hW3 hbW3 hb2 hbc HRL hc
          obtain ⟨p0, p1, p2, p3, p4, p5⟩ := b60_cells hn3
          clear hn3
          go_upto_region 11 with fail
          go_cut [38] (fun b wx => Drawn0 W3 wx ∧ ((b = .bool true ∧ parseT s = .error ((I : Int) + 1, 5)) ∨ (b = .bool false ∧ parseT s = parseTA (ls.drop (I + 1)) (acc ++ [c]))))
          case first =>
            by_cases hI0 : I = 0
            · have g2 : decide ((0 : Int) < (I : Int)) = false := decide_eq_false (by omega)
              have hspec : parseT s = parseTA (ls.drop (I + 1)) (acc ++ [c]) := by
                rw [HPB.out, parseTA, HRV.out]
                dsimp only
                rw [if_neg (by omega)]
              have HSP := Lib.hid hspec
              clear hspec
              repeat (go_quiet (fail); try go_wp2)
              go_meet
              case rel => exact ⟨⟨⟨_, rfl⟩⟩, .inr ⟨rfl, HSP.out⟩⟩
            · obtain ⟨J, rfl⟩ : ∃ J, I = J + 1 := ⟨I - 1, by omega⟩
              obtain ⟨g, cap, hv, hg0, hg1, _⟩ := Kd.R_form HO3.out (by omega)
              obtain ⟨ad2, hae2, hq0, _⟩ := at_ln (Kd.R_reads' (hv ▸ HO3.out)).2.2 J (by omega)
              obtain rfl := Option.some.inj hae2
              have hlast : rdLn acc J = lastT acc := by unfold lastT rdLn; rw [hacc]; rfl
              rw [hlast, show (⟨g, 0, none⟩ : Addr).add (J * 6) = ⟨g, J * 6, none⟩ by simp [Addr.add]; omega] at hq0
              rw [hacc] at hv
              subst hv
              have g2 : decide ((0 : Int) < (J : Int) + 1) = true := decide_eq_true (by omega)
              clear hI0 hae2 hlast
              by_cases hle2 : c.f0 ≤ (lastT acc).f0
              · have g3 : decide (c.f0 ≤ (lastT acc).f0) = true := decide_eq_true hle2
                have hspec : parseT s = .error (((J + 1 : Nat) : Int) + 1, 5) := by
                  rw [HPB.out, parseTA, HRV.out]
                  dsimp only
                  rw [if_pos ⟨by omega, hle2⟩, hacc]
                have HSP := Lib.hid hspec
                clear hspec hle2
                repeat (go_quiet (fail); try go_wp2)
                go_meet
                case rel => exact ⟨⟨⟨_, rfl⟩⟩, .inl ⟨rfl, HSP.out⟩⟩
              · have g3 : decide (c.f0 ≤ (lastT acc).f0) = false := decide_eq_false hle2
                have hspec : parseT s = parseTA (ls.drop (J + 1 + 1)) (acc ++ [c]) := by
                  rw [HPB.out, parseTA, HRV.out]
                  dsimp only
                  rw [if_neg (fun k => hle2 k.2)]
                have HSP := Lib.hid hspec
                clear hspec hle2
                repeat (go_quiet (fail); try go_wp2)
                go_meet
                case rel => exact ⟨⟨⟨_, rfl⟩⟩, .inr ⟨rfl, HSP.out⟩⟩
          case rest =>
            obtain ⟨hdr3, ⟨rfl, hsp⟩ | ⟨rfl, hsp⟩⟩ := hcut
            all_goals have hb3c := drawn_below (Below.refl W3.heap.size W3) hdr3
            · have HSP := Lib.hid hsp
              have HBF := Lib.hid (HBE.out.trans ((HB23.out.trans (hb3c.mono (by omega))).mono (by omega)))
              clear hsp
              go_wp2_with fail
              refine bodyPost_ret (v := .tuple #[.slice none 0 0, .int .i64 ((I : Int) + 1), .int .i64 5]) ?_ rfl ?_
              · exact results_tmp3 (P := Tryd.prog) (fn := Tryd.f29) (p := 2) (t := 3) (u := 4) rfl _ _
              · unfold parseTQ
                rw [HSP.out]
                exact ⟨rfl, HBF.out⟩
            · have HSP := Lib.hid hsp
              have hOc := R_drawn HO3.out hdr3
              have hB1 : Below w1.heap.size w1 wc := HB.out.trans ((HB23.out.trans (hb3c.mono (by omega))).mono hzr)
              have hzc := hb3c.size
              have hnc := (hb3c.block _ hz3).trans HN3.out
              obtain ⟨p0, p1, p2, p3, p4, p5⟩ := b60_cells hnc
              have HOC := Lib.hid hOc
              have HB1 := Lib.hid hB1
              have HM := Lib.hid (kln_mkM wc w1.heap.size (fun _ => False) c)
              have HK : Hid (∀ k, False → True ∧ some k ≠ u7.ownBlock) := Lib.hid (fun k h => h.elim)
              have hl48 : (acc.length + 1) * 48 ≤ 140737488355328 := by omega
              clear hsp hdr3 hOc hB1 hnc hb3c
              go_wp2_with (first | ((with_reducible refine gate_builtin (b := .append) (xs := #[.tmp 54, .tmp 56]) rfl ?_); at_builtin; refine Kd.R_append kln (w0 := w1) w1.heap.size rfl (.tmp 54) (.tmp 56) 58 60 (.agg #[.int .i64 0, .int .i64 0, .int .i64 0, .int .i64 0, .int .i64 0, .bool false]) 48 rfl Tryd.underlying58 info60 rfl (by decide) (by decide) u7 acc c [.int .i64 c.f0, .int .i64 c.f1, .int .i64 c.f2, .int .i64 c.f3, .int .i64 c.f4, .bool c.f5] (fun _ => True) (fun _ => False) rfl rfl HM.out HK.out (fun _ _ => trivial) HOC.out HB1.out (by omega) hl48 ?_; intro v1 w13 ho hb hg hat; have n0_ := Lib.hid hb; have n1_ := Lib.hid ho; clear ho hb hg hat))
              go_roundw
              case rel => exact ⟨I + 1, acc ++ [c], by omega, by go_num, by simp [hacc], HSP.out, n1_.out, n0_.out⟩
              case measure => (simp [intOf]; omega)
      · have hIe : I = ls.length := by omega
        subst hIe
        have hspec : parseT s = .ok acc := by rw [HPA.out, List.drop_length, parseTA]
        have HSP := Lib.hid hspec
        clear hspec
        go_wp2_with fail
        refine bodyPost_ret (v := .tuple #[u7, .int .i64 0, .int .i64 0]) ?_ rfl ?_
        · exact results_tmp3 (P := Tryd.prog) (fn := Tryd.f29) (p := 2) (t := 3) (u := 4) rfl _ _
        · unfold parseTQ
          rw [HSP.out]
          exact ⟨_, rfl, Kd.R_lower HO.out hz1, HBE.out⟩
  · have g1 : (el != 0) = true := bne_iff_ne.2 he
    have hspec : parseT s = .error (0, el) := by unfold parseT; rw [← HEL.out, if_pos he]
    have HSP := Lib.hid hspec
    clear hspec he
    go_wp2_with fail
    refine bodyPost_ret (v := .tuple #[.slice none 0 0, .int .i64 0, .int .i64 el]) ?_ rfl ?_
    · exact results_tmp3 (P := Tryd.prog) (fn := Tryd.f29) (p := 2) (t := 3) (u := 4) rfl _ _
    · unfold parseTQ
      rw [HSP.out]
      exact ⟨rfl, HBE1.out⟩
end Go.Proofs.YtdgifgdadminbaaDoor

/-! ### T5 -/
set_option linter.unusedSimpArgs false
set_option linter.unusedVariables false
set_option maxRecDepth 100000
namespace Go.Proofs.YtdgifgdadminbaaDoor
open Go.RowKit Go.Proofs.YtdgifgdadminbaaDoorW.PrintWords Sp
open PFileParses (wrap_id ba_len bt_nat toList_data info3 info2 info9)

theorem keepT {W0 w w' : World} {p q : Addr} {v1 v2 : Value} (h : w.cell? p = some v1 ∧ w.cell? q = some v2 ∧ Below W0.heap.size W0 w) (hb : Below w.heap.size w w') : w'.cell? p = some v1 ∧ w'.cell? q = some v2 ∧ Below W0.heap.size W0 w' :=
  ⟨cell_below h.1 hb, cell_below h.2.1 hb, h.2.2.trans (hb.mono h.2.2.size)⟩
/-- Numbers that are of their kind. -/
structure FitT (l : Ln) : Prop where
  f0 : I64 l.f0
  f1 : I64 l.f1
  f2 : I64 l.f2
  f3 : I64 l.f3
  f4 : I64 l.f4
theorem txt_un {l : Ln} (h : l.f5 = false) {t : ByteArray} (ht : t.data.toList = Lib.itoa l.f0) : t ++ ⟨#[32]⟩ ++ ⟨#[117, 110, 115, 101, 114, 118, 101, 100]⟩ = mk (textT l) := by
  refine ByteArray.ext (Array.ext' ?_)
  unfold textT
  rw [if_neg (by rw [h]; decide), cat_list, cat_list, ht, data_mk]
  simp [lineB, bUn]
theorem txt_all {l : Ln} (h : l.f5 = true) {s t2 t3 t4 : ByteArray} (hs : s.data.toList = lineB (Lib.itoa l.f0) [Lib.itoa l.f1]) (h2 : t2.data.toList = Lib.itoa l.f2) (h3 : t3.data.toList = Lib.itoa l.f3) (h4 : t4.data.toList = Lib.itoa l.f4) :
    s ++ (⟨#[32]⟩ ++ t2) ++ (⟨#[32]⟩ ++ t3) ++ (⟨#[32]⟩ ++ t4) = mk (textT l) := by
  refine ByteArray.ext (Array.ext' ?_)
  unfold textT
  rw [if_pos h, cat_list, cat_list, cat_list, cat_list, cat_list, cat_list, hs, h2, h3, h4, data_mk]
  simp [lineB]

set_option maxHeartbeats 16000000 in
theorem text_c (l : Ln) (w : World) (hE : Env w) (hF : FitT l) :
    Calls Tryd.prog 65 #[.agg #[.int .i64 l.f0, .int .i64 l.f1, .int .i64 l.f2, .int .i64 l.f3, .int .i64 l.f4, .bool l.f5]] w fun e w' => e = .returned (.string (mk (textT l))) ∧ Below w.heap.size w w' := by
  have h3 := hE.size
  obtain ⟨W, hW⟩ : ∃ W, W = w.alloc (B60 l) := ⟨_, rfl⟩
  have hbW : Below w.heap.size w W := by rw [hW]; exact (Below.refl _ _).alloc (Nat.le_refl _) _
  have hn : W.heap[w.heap.size]? = some (B60 l) := by rw [hW]; exact heap_alloc_new w _
  have hEW := (hE.below hbW h3)
  obtain ⟨a0, a1, a2, a3, a4, a5⟩ := b60_cells hn
  have hl0 := itoa_len hF.f0
  have hl1 := itoa_len hF.f1
  obtain ⟨t0, ht0⟩ : ∃ t, t = mk (Lib.itoa l.f0) := ⟨_, rfl⟩
  obtain ⟨t1, ht1⟩ : ∃ t, t = mk (Lib.itoa l.f1) := ⟨_, rfl⟩
  have hz0 : t0.size ≤ 20 := by rw [ht0, mk_size]; exact hl0
  have hz1 : t1.size ≤ 20 := by rw [ht1, mk_size]; exact hl1
  have hW3 : 3 ≤ W.heap.size := by have := hbW.size; omega
  have hI0 := fun w' (hb : Below W.heap.size W w') => itoa_c l.f0 w' hF.f0 (hEW.below hb hW3)
  have hI1 := fun w' (hb : Below W.heap.size W w') => itoa_c l.f1 w' hF.f1 (hEW.below hb hW3)
  rw [← ht0] at hI0
  rw [← ht1] at hI1
  have HW := Lib.hid hW
  have HBW := Lib.hid hbW
  have HN := Lib.hid hn
  have HE := Lib.hid hEW
  have HF := Lib.hid hF
  have HT0 := Lib.hid ht0
  have HT1 := Lib.hid ht1
  have HI0 := Lib.hid hI0
  have HI1 := Lib.hid hI1
  clear hW hbW hn hEW hF ht0 ht1 hI0 hI1 hE hl0 hl1
  go_enter Tryd.func65, Tryd.ntmps65
  go_upto_region 1 with fail
  rw [show w.alloc (.cells #[.int .i64 l.f0, .int .i64 l.f1, .int .i64 l.f2, .int .i64 l.f3, .int .i64 l.f4, .bool l.f5] 60) = W from HW.out.symm]
  cases h5 : l.f5 with
  | false =>
    rw [h5] at a5
    have H5 := Lib.hid h5
    clear h5
    go_wp2_with fail
    refine (HI0.out _ (Below.refl _ _)).mono ?_
    rintro e w1 ⟨rfl, hb1⟩
    have HB1 := Lib.hid (HBW.out.trans (hb1.mono HBW.out.size))
    clear hb1
    have k1 : (ByteArray.mk #[32]).size = 1 := rfl
    have q1 := fun (W' : World) => run_string_add_sum (P := Tryd.prog) (w := W') t0 (ByteArray.mk #[32]) (by omega)
    have q2 := fun (W' : World) => run_string_add_sum (P := Tryd.prog) (w := W') (t0 ++ ByteArray.mk #[32]) (ByteArray.mk #[117, 110, 115, 101, 114, 118, 101, 100]) (by rw [cat_size, show (ByteArray.mk #[117, 110, 115, 101, 114, 118, 101, 100]).size = 8 from rfl]; omega)
    go_wp2_with fail
    go_ret
    exact ⟨by rw [txt_un H5.out (by rw [HT0.out, data_mk])]; rfl, HB1.out⟩
  | true =>
    rw [h5] at a5
    have H5 := Lib.hid h5
    have HS0 := Lib.hid (And.intro a0 (And.intro a1 (Below.refl W.heap.size W)))
    clear h5
    have k1 : (ByteArray.mk #[32]).size = 1 := rfl
    have q1 := fun (W' : World) => run_string_add_sum (P := Tryd.prog) (w := W') t0 (ByteArray.mk #[32]) (by omega)
    have q2 := fun (W' : World) => run_string_add_sum (P := Tryd.prog) (w := W') (t0 ++ ByteArray.mk #[32]) t1 (by rw [cat_size]; omega)
    clear k1
    have htx : (t0 ++ ByteArray.mk #[32] ++ t1).data.toList = lineB (Lib.itoa l.f0) [Lib.itoa l.f1] := by
      rw [cat_list, cat_list, HT0.out, HT1.out, data_mk, data_mk]
      simp [lineB]
    have HTX := Lib.hid htx
    clear htx
    go_upto_region 3 with fail
    go_cut [3] (fun out wx => ∃ s0 : ByteArray, out = .string s0 ∧ s0.data.toList = lineB (Lib.itoa l.f0) [Lib.itoa l.f1] ∧ Below W.heap.size W wx)
    case first =>
      go_region_held3 (fun w' => w'.cell? ⟨w.heap.size, 0, none⟩ = some (.int .i64 l.f0) ∧ w'.cell? ⟨w.heap.size, 1, none⟩ = some (.int .i64 l.f1) ∧ Below W.heap.size W w')
        (first | assumption | exact keepT HS0.out (drewB _) | exact keepT (by assumption) (by assumption))
        (first | (go_at_call 48; refine (HI0.out _ ?_).mono ?_; (exact And.right (And.right (by assumption))); rintro e w' ⟨rfl, hbX⟩) | (go_at_call 48; refine (HI1.out _ ?_).mono ?_; (exact And.right (And.right (by assumption))); rintro e w' ⟨rfl, hbX⟩))
      all_goals
        have hbb := And.right (And.right (by assumption : w'.cell? ⟨w.heap.size, 0, none⟩ = some (.int .i64 l.f0) ∧ w'.cell? ⟨w.heap.size, 1, none⟩ = some (.int .i64 l.f1) ∧ Below W.heap.size W w'))
        have HBB := Lib.hid hbb
        clear hbb
        go_wp2_with fail
        go_meet
        case rel => exact ⟨_, rfl, HTX.out, HBB.out⟩
    case rest =>
      clear q1 q2
      obtain ⟨s0, rfl, hs0, hbc⟩ := hcut
      have HS00 := Lib.hid hs0
      have hnc := (hbc.block _ (lt_of_some HN.out)).trans HN.out
      have hzc := hbc.size
      have hs0z : s0.size ≤ 41 := by
        have : s0.size = s0.data.toList.length := (ba_len s0).symm
        rw [this, hs0, lineB_length]
        have h0 := itoa_len HF.out.f0
        have h1 := itoa_len HF.out.f1
        simp only [List.map_cons, List.map_nil, List.sum_cons, List.sum_nil]
        omega
      have HBC := Lib.hid hbc
      clear a0 a1 a2 a3 a4 a5 hs0 hbc
      obtain ⟨a0, a1, a2, a3, a4, a5⟩ := b60_cells hnc
      clear hnc
      go_wp2_with fail
      have hp : (wc.alloc (.cells #[.int .i64 l.f2, .int .i64 l.f3, .int .i64 l.f4] 2)).heap[wc.heap.size]? = some (.cells #[.int .i64 l.f2, .int .i64 l.f3, .int .i64 l.f4] 2 (0, 0)) := heap_alloc_new wc _
      have hbp : Below W.heap.size W (wc.alloc (.cells #[.int .i64 l.f2, .int .i64 l.f3, .int .i64 l.f4] 2)) := HBC.out.alloc (by omega) _
      obtain ⟨V0, hV0⟩ : ∃ V, V = wc.alloc (.cells #[.int .i64 l.f2, .int .i64 l.f3, .int .i64 l.f4] 2) := ⟨_, rfl⟩
      rw [← hV0] at hp hbp ⊢
      clear hV0 a0 a1 a2 a3 a4 a5
      refine wp_loop_rounds 4 ?_
      rw [rounds_succ]
      have pt := cell_of_heap hp 0 rfl
      have pc : V0.cell? ⟨wc.heap.size, 0, none⟩ = some (.int .i64 l.f2) := pt
      have hil := itoa_len HF.out.f2
      obtain ⟨t2, ht2⟩ : ∃ t, t = mk (Lib.itoa l.f2) := ⟨_, rfl⟩
      have hz2 : t2.size ≤ 20 := by rw [ht2, mk_size]; exact hil
      have hf := format_c l.f2 V0 HF.out.f2 (HE.out.below hbp hW3)
      rw [← ht2] at hf
      have HT2 := Lib.hid ht2
      have HFC := Lib.hid hf
      have HP0 := Lib.hid hp
      have HBP0 := Lib.hid hbp
      clear pt hil ht2 hf hp hbp
      go_wp2_with fail
      refine HFC.out.mono ?_
      rintro e V1 ⟨rfl, hb⟩
      have hp := (hb.block _ (lt_of_some HP0.out)).trans HP0.out
      have hbp := HBP0.out.trans (hb.mono HBP0.out.size)
      have q1 := fun (W' : World) => run_string_add_sum (P := Tryd.prog) (w := W') (ByteArray.mk #[32]) t2 (by rw [show (ByteArray.mk #[32]).size = 1 from rfl]; omega)
      have q2 := fun (W' : World) => run_string_add_sum (P := Tryd.prog) (w := W') s0 (ByteArray.mk #[32] ++ t2) (by simp only [cat_size]; rw [show (ByteArray.mk #[32]).size = 1 from rfl]; omega)
      have HHP := Lib.hid hp
      have HHB := Lib.hid hbp
      clear hp hbp HFC pc hb
      go_wp2_with fail
      have hp := HHP.out
      have hbp := HHB.out
      clear HHP HHB q1 q2
      rw [rounds_succ]
      have pt := cell_of_heap hp 1 rfl
      have pc : V1.cell? ⟨wc.heap.size, 1, none⟩ = some (.int .i64 l.f3) := pt
      have hil := itoa_len HF.out.f3
      obtain ⟨t3, ht3⟩ : ∃ t, t = mk (Lib.itoa l.f3) := ⟨_, rfl⟩
      have hz3 : t3.size ≤ 20 := by rw [ht3, mk_size]; exact hil
      have hf := format_c l.f3 V1 HF.out.f3 (HE.out.below hbp hW3)
      rw [← ht3] at hf
      have HT3 := Lib.hid ht3
      have HFC := Lib.hid hf
      have HP1 := Lib.hid hp
      have HBP1 := Lib.hid hbp
      clear pt hil ht3 hf hp hbp
      go_wp2_with fail
      refine HFC.out.mono ?_
      rintro e V2 ⟨rfl, hb⟩
      have hp := (hb.block _ (lt_of_some HP1.out)).trans HP1.out
      have hbp := HBP1.out.trans (hb.mono HBP1.out.size)
      have q1 := fun (W' : World) => run_string_add_sum (P := Tryd.prog) (w := W') (ByteArray.mk #[32]) t3 (by rw [show (ByteArray.mk #[32]).size = 1 from rfl]; omega)
      have q2 := fun (W' : World) => run_string_add_sum (P := Tryd.prog) (w := W') (s0 ++ (ByteArray.mk #[32] ++ t2)) (ByteArray.mk #[32] ++ t3) (by simp only [cat_size]; rw [show (ByteArray.mk #[32]).size = 1 from rfl]; omega)
      have HHP := Lib.hid hp
      have HHB := Lib.hid hbp
      clear hp hbp HFC pc hb
      go_wp2_with fail
      have hp := HHP.out
      have hbp := HHB.out
      clear HHP HHB q1 q2
      rw [rounds_succ]
      have pt := cell_of_heap hp 2 rfl
      have pc : V2.cell? ⟨wc.heap.size, 2, none⟩ = some (.int .i64 l.f4) := pt
      have hil := itoa_len HF.out.f4
      obtain ⟨t4, ht4⟩ : ∃ t, t = mk (Lib.itoa l.f4) := ⟨_, rfl⟩
      have hz4 : t4.size ≤ 20 := by rw [ht4, mk_size]; exact hil
      have hf := format_c l.f4 V2 HF.out.f4 (HE.out.below hbp hW3)
      rw [← ht4] at hf
      have HT4 := Lib.hid ht4
      have HFC := Lib.hid hf
      have HP2 := Lib.hid hp
      have HBP2 := Lib.hid hbp
      clear pt hil ht4 hf hp hbp
      go_wp2_with fail
      refine HFC.out.mono ?_
      rintro e V3 ⟨rfl, hb⟩
      have hp := (hb.block _ (lt_of_some HP2.out)).trans HP2.out
      have hbp := HBP2.out.trans (hb.mono HBP2.out.size)
      have q1 := fun (W' : World) => run_string_add_sum (P := Tryd.prog) (w := W') (ByteArray.mk #[32]) t4 (by rw [show (ByteArray.mk #[32]).size = 1 from rfl]; omega)
      have q2 := fun (W' : World) => run_string_add_sum (P := Tryd.prog) (w := W') (s0 ++ (ByteArray.mk #[32] ++ t2) ++ (ByteArray.mk #[32] ++ t3)) (ByteArray.mk #[32] ++ t4) (by simp only [cat_size]; rw [show (ByteArray.mk #[32]).size = 1 from rfl]; omega)
      have HHP := Lib.hid hp
      have HHB := Lib.hid hbp
      clear hp hbp HFC pc hb
      go_wp2_with fail
      have hp := HHP.out
      have hbp := HHB.out
      clear HHP HHB q1 q2
      rw [rounds_succ]
      have htx := txt_all H5.out HS00.out (t2 := t2) (t3 := t3) (t4 := t4) (by rw [HT2.out, data_mk]) (by rw [HT3.out, data_mk]) (by rw [HT4.out, data_mk])
      have HTX2 := Lib.hid htx
      have HBL := Lib.hid (HBW.out.trans (hbp.mono HBW.out.size))
      clear htx hp hbp
      go_wp2_with fail
      go_ret
      exact ⟨by rw [← HTX2.out]; rfl, HBL.out⟩

theorem FitT.len {l : Ln} (h : FitT l) : (textT l).length ≤ 104 := textT_len h.f0 h.f1 h.f2 h.f3 h.f4
theorem printT_fit : ∀ ls : List Ln, (∀ l ∈ ls, FitT l) → (printT ls).length ≤ 105 * ls.length
  | [], _ => Nat.le_refl _
  | l :: ls, h => by
    have h1 := (h l (by simp)).len
    have h2 := printT_fit ls (fun d hd => h d (by simp [hd]))
    unfold printT at h2 ⊢
    rw [List.flatMap_cons, List.length_append, List.length_append, List.length_singleton, List.length_cons]
    omega
theorem printT_snoc (ls : List Ln) (c : Ln) : printT (ls ++ [c]) = printT ls ++ (textT c ++ [10]) := by
  unfold printT
  rw [List.flatMap_append, List.flatMap_singleton]

set_option maxHeartbeats 8000000 in
theorem printT_c (ls : List Ln) (A : Option Addr) (cap : Nat) (w : World) (hE : Env w) (hC : Kd.C kln w A ls.length ls) (hF : ∀ l ∈ ls, FitT l) (hl : ls.length ≤ 1000000) :
    Calls Tryd.prog 30 #[.slice A ls.length cap] w fun e w' => e = .returned (.string (mk (printT ls))) ∧ Below w.heap.size w w' := by
  have h3 := hE.size
  have HE := Lib.hid hE
  have HC := Lib.hid hC
  have HF := Lib.hid hF
  clear hE hC hF
  go_enter Tryd.func30, Tryd.ntmps30
  go_upto_region 2 with fail
  obtain ⟨W, hW⟩ : ∃ W, W = w.alloc (.cells #[.pointer none, .slice none 0 0] 91) := ⟨_, rfl⟩
  rw [← hW]
  have hbW : Below w.heap.size w W := by rw [hW]; exact (Below.refl _ _).alloc (Nat.le_refl _) _
  have hbd : Bld w.heap.size w.heap.size [] W := by
    rw [hW]
    exact .inl ⟨Nat.le_refl _, _, heap_alloc_new w _, World.ownsRow_nil _ _ _ _, by simp [Value.ownBlock]⟩
  have HBW := Lib.hid hbW
  have HBD := Lib.hid hbd
  clear hW hbW hbd
  go_wp2_with fail
  go_loopw [8] (fun i wr => ∃ k : Nat, k ≤ ls.length ∧ i = .int .i64 k ∧ Bld w.heap.size w.heap.size (printT (ls.take k)) wr ∧ Below w.heap.size w wr) (fun i _ => ls.length - (intOf i).toNat)
  case atStart => exact ⟨0, Nat.zero_le _, rfl, HBD.out, HBW.out⟩
  case round =>
    obtain ⟨k, hk, rfl, hbd, hbe⟩ := hrel
    have HBr := Lib.hid hbd
    have HB := Lib.hid hbe
    have hzr := hbe.size
    clear hbd hbe
    by_cases hlt : k < ls.length
    · obtain ⟨ad, hAe, q0, q1, q2, q3, q4, q5⟩ := at_ln (Kd.C_below HC.out HB.out) k hlt
      subst hAe
      have hrd : rdLn ls k = ls[k]'hlt := by
        unfold rdLn
        rw [List.getD_eq_getElem?_getD, List.getElem?_eq_getElem hlt]
        rfl
      rw [hrd] at q0 q1 q2 q3 q4 q5
      have hFk := HF.out (ls[k]'hlt) (List.getElem_mem hlt)
      have htk : ls.take (k + 1) = ls.take k ++ [ls[k]'hlt] := List.take_succ_eq_append_getElem hlt
      obtain ⟨c, hc⟩ : ∃ c, c = ls[k]'hlt := ⟨_, rfl⟩
      rw [← hc] at q0 q1 q2 q3 q4 q5 hFk htk
      have HFK := Lib.hid hFk
      have HTK := Lib.hid htk
      clear hFk htk hc hrd
      go_upto_region 5 with fail
      obtain ⟨W2, hW2⟩ : ∃ W2, W2 = wr.alloc (.cells #[.int .i64 c.f0, .int .i64 c.f1, .int .i64 c.f2, .int .i64 c.f3, .int .i64 c.f4, .bool c.f5] 60) := ⟨_, rfl⟩
      rw [← hW2]
      have hb2 : Below wr.heap.size wr W2 := by rw [hW2]; exact (Below.refl _ _).alloc (Nat.le_refl _) _
      have hn2 : W2.heap[wr.heap.size]? = some (B60 c) := by rw [hW2]; exact heap_alloc_new wr _
      have hE2 := (HE.out.below HB.out h3).below hb2 (by omega)
      have htx := text_c c W2 hE2 HFK.out
      have HB2 := Lib.hid hb2
      have hz2 := hb2.size
      have HTX := Lib.hid htx
      obtain ⟨a0, a1, a2, a3, a4, a5⟩ := b60_cells hn2
      obtain ⟨tx, htxe⟩ : ∃ t, t = mk (textT c) := ⟨_, rfl⟩
      rw [← htxe] at HTX
      have htz : tx.size ≤ 104 := by rw [htxe, mk_size]; exact HFK.out.len
      have HTE := Lib.hid htxe
      clear hW2 hb2 hn2 hE2 htx q0 q1 q2 q3 q4 q5 htxe
      go_wp2_with fail
      refine HTX.out.mono ?_
      rintro e w3 ⟨rfl, hb3⟩
      have hb23 := HB2.out.trans (hb3.mono (by omega))
      have hz3 := hb23.size
      have hll := printT_fit (ls.take k) (fun d hd => HF.out d (List.mem_of_mem_take hd))
      have htk2 := List.length_take_le k ls
      have hln2 : (tx ++ ⟨#[10]⟩).size ≤ 105 := by rw [cat_size, show (ByteArray.mk #[10]).size = 1 from rfl]; omega
      have hwr1 := write_c w.heap.size w.heap.size (printT (ls.take k)) (tx ++ ⟨#[10]⟩) w3 (HBr.out.below hb23) (by omega) (by omega)
      have hln10 : (tx ++ ⟨#[10]⟩).data.toList = textT c ++ [10] := by rw [cat_list, HTE.out, data_mk]
      rw [hln10, ← printT_snoc, ← HTK.out] at hwr1
      have HB3 := Lib.hid (HB.out.trans (hb23.mono hzr))
      have HW1 := Lib.hid hwr1
      clear hb3 hb23 hwr1 hln10 hll htk2 HTX a0 a1 a2 a3 a4 a5
      go_wp2_with fail
      refine HW1.out.mono ?_
      rintro e w6 ⟨rfl, hbd6, hwr6⟩
      have HBD6 := Lib.hid hbd6
      have HB6 := Lib.hid (HB3.out.trans hwr6.below)
      clear hbd6 hwr6 HW1
      go_wp2_with fail
      go_roundw
      case rel => exact ⟨k + 1, by omega, by go_num, HBD6.out, HB6.out⟩
      case measure => (simp [intOf]; omega)
    · have hke : k = ls.length := by omega
      subst hke
      have hbd := HBr.out
      rw [List.take_length] at hbd
      have HBD2 := Lib.hid hbd
      clear hbd
      go_wp2_with fail
      refine (Tryd.Builder_String_any w.heap.size w.heap.size (printT ls) wr HBD2.out hzr).mono ?_
      rintro e w8 ⟨rfl, hb8⟩
      have HB8 := Lib.hid hb8
      clear hb8
      go_wp2_with fail
      go_ret
      exact ⟨rfl, HB.out.trans HB8.out⟩
end Go.Proofs.YtdgifgdadminbaaDoor

/-! ### T6 -/
set_option linter.unusedSimpArgs false
set_option linter.unusedVariables false
set_option maxRecDepth 100000
namespace Go.Proofs.YtdgifgdadminbaaDoor
open Go.RowKit Go.Proofs.YtdgifgdadminbaaDoorW.PrintWords Sp
open PFileParses (wrap_id ba_len bt_nat toList_data info3 info2 info9)

def lnA (l : Ln) : Value := .agg #[.int .i64 l.f0, .int .i64 l.f1, .int .i64 l.f2, .int .i64 l.f3, .int .i64 l.f4, .bool l.f5]
/-- F is a function with a body. -/
def EntersT (F : Nat) : Prop := ∀ (args : Array Value) (w : World), (callFunc F args).run Tryd.prog w = .ok (.enter F args) w
theorem entersT_of {F : Nat} {fn : Func} {c : Code} (hf : Tryd.prog.funcs[F]? = some fn) (hname : (fn.name == "runtime.NumGoroutine") = false) (hb : fn.body = some c) : EntersT F := fun args w => by
  have hn : ¬ fn.name = "runtime.NumGoroutine" := by simpa using hname
  simp [callFunc, hf, hn, hb, go_sem]
theorem enters_102 : EntersT 102 := entersT_of Tryd.func102 (by kernel_rfl) rfl
theorem is_c (l : Ln) (b : Nat) (id : Int) (w : World) (hb : w.cell? ⟨b, 0, none⟩ = some (.int .i64 id)) :
    Calls Tryd.prog 102 #[.agg #[.int .i64 l.f0, .int .i64 l.f1, .int .i64 l.f2, .int .i64 l.f3, .int .i64 l.f4, .bool l.f5], .pointer (some ⟨b, 0, none⟩)] w fun e w' => e = .returned (.bool (l.f0 == id)) ∧ Below w.heap.size w w' := by
  obtain ⟨W, hW⟩ : ∃ W, W = w.alloc (B60 l) := ⟨_, rfl⟩
  have hbW : Below w.heap.size w W := by rw [hW]; exact (Below.refl _ _).alloc (Nat.le_refl _) _
  have hn : W.heap[w.heap.size]? = some (B60 l) := by rw [hW]; exact heap_alloc_new w _
  obtain ⟨a0, a1, a2, a3, a4, a5⟩ := b60_cells hn
  have hc := cell_below hb hbW
  have HW := Lib.hid hW
  have HBW := Lib.hid hbW
  clear hW hbW hn hb
  go_enter Tryd.func102, Tryd.ntmps102
  go_upto_region 1 with fail
  rw [show w.alloc (.cells #[.int .i64 l.f0, .int .i64 l.f1, .int .i64 l.f2, .int .i64 l.f3, .int .i64 l.f4, .bool l.f5] 60) = W from HW.out.symm]
  go_wp2_with fail
  go_ret
  exact ⟨rfl, HBW.out⟩
def Hits (ls : List Ln) (id i : Int) : Prop := (∃ k : Nat, i = k ∧ k < ls.length ∧ (rdLn ls k).f0 = id ∧ ∀ j, j < k → (rdLn ls j).f0 ≠ id) ∨ (i = -1 ∧ ∀ j, j < ls.length → (rdLn ls j).f0 ≠ id)

set_option maxHeartbeats 2000000 in
theorem indexFunc_101 (ls : List Ln) (A : Option Addr) (c : Nat) (b : Nat) (id : Int) (w : World) (hC : Kd.C kln w A ls.length ls) (hb : w.cell? ⟨b, 0, none⟩ = some (.int .i64 id)) :
    Calls Tryd.prog 101 #[.slice A ls.length c, .func (.func 102) #[] #[.pointer (some ⟨b, 0, none⟩)]] w fun e w' => ∃ i : Int, e = .returned (.int .i64 i) ∧ Hits ls id i ∧ Below w.heap.size w w' := by
  have hsm := hC.2.1
  have HC := Lib.hid hC
  have HB0 := Lib.hid hb
  clear hC hb
  go_enter Tryd.func101, Tryd.ntmps101
  go_wp2_with fail
  go_loopw [5, 8] (fun _ i wr => ∃ k : Nat, k ≤ ls.length ∧ i = .int .i64 k ∧ (∀ j, j < k → (rdLn ls j).f0 ≠ id) ∧ Below w.heap.size w wr) (fun _ i _ => ls.length - (intOf i).toNat)
  case atStart => exact ⟨0, Nat.zero_le _, rfl, fun j hj => absurd hj (Nat.not_lt_zero _), Below.refl _ _⟩
  case round =>
    obtain ⟨k, hk, rfl, hno, hB⟩ := hrel
    have HN := Lib.hid hno
    have HB := Lib.hid hB
    clear hno hB
    by_cases hlt : k < ls.length
    · obtain ⟨ad, hAe, q0, q1, q2, q3, q4, q5⟩ := at_ln (Kd.C_below HC.out HB.out) k hlt
      subst hAe
      obtain ⟨l, hl⟩ : ∃ l, l = rdLn ls k := ⟨_, rfl⟩
      rw [← hl] at q0 q1 q2 q3 q4 q5
      have his := is_c l b id wr (cell_below HB0.out HB.out)
      have HIS := Lib.hid his
      have HL := Lib.hid hl
      clear hl his
      have hf := enters_102
      unfold EntersT at hf
      go_wp2_with fail
      refine HIS.out.mono ?_
      rintro e w2 ⟨rfl, hb2⟩
      have HB2 := Lib.hid (HB.out.trans (hb2.mono HB.out.size))
      clear hb2 hf q0 q1 q2 q3 q4 q5
      by_cases hid : l.f0 = id
      · have g1 : (l.f0 == id) = true := beq_iff_eq.2 hid
        have HID := Lib.hid hid
        clear hid
        go_wp2_with fail
        go_ret
        exact ⟨k, rfl, .inl ⟨k, rfl, hlt, by rw [← HL.out]; exact HID.out, HN.out⟩, HB2.out⟩
      · have g1 : (l.f0 == id) = false := beq_eq_false_iff_ne.2 hid
        have HID := Lib.hid hid
        clear hid
        go_wp2_with fail
        go_roundw
        case rel =>
          refine ⟨k + 1, by omega, by go_num, fun j hj => ?_, HB2.out⟩
          by_cases hjk : j < k
          · exact HN.out j hjk
          · have : j = k := by omega
            rw [this, ← HL.out]
            exact HID.out
        case measure => simp [intOf]; omega
    · go_wp2_with fail
      go_ret
      exact ⟨-1, rfl, .inr ⟨rfl, fun j hj => HN.out j (by omega)⟩, HB.out⟩

set_option maxHeartbeats 2000000 in
theorem find_c (ls : List Ln) (k : Nat) (hk : k < ls.length) (id : Int) (hid : (rdLn ls k).f0 = id) (hno : ∀ j, j < k → (rdLn ls j).f0 ≠ id) (A : Option Addr) (c : Nat) (w : World) (hC : Kd.C kln w A ls.length ls) :
    Calls Tryd.prog 63 #[.slice A ls.length c, .int .i64 id] w fun e w' => e = .returned (.tuple #[lnA (rdLn ls k), .bool true]) ∧ Below w.heap.size w w' := by
  obtain ⟨W, hW⟩ : ∃ W, W = (w.alloc (.cells #[.int .i64 id] 3)).alloc Z60 := ⟨_, rfl⟩
  have hbW : Below w.heap.size w W := by rw [hW]; exact ((Below.refl _ _).alloc (Nat.le_refl _) _).alloc (by simp) _
  have hn0 : W.heap[w.heap.size]? = some (.cells #[.int .i64 id] 3 (0, 0)) := by
    rw [hW]
    exact (((Below.refl (w.alloc (.cells #[.int .i64 id] 3)).heap.size _).alloc (Nat.le_refl _) _).block _ (by simp)).trans (heap_alloc_new w _)
  have hn1 : W.heap[w.heap.size + 1]? = some Z60 := by
    rw [hW]
    have h := heap_alloc_new (w.alloc (.cells #[.int .i64 id] 3)) Z60
    rw [show (w.alloc (.cells #[.int .i64 id] 3)).heap.size = w.heap.size + 1 by simp] at h
    exact h
  have hix := indexFunc_101 ls A c w.heap.size id W (Kd.C_below hC hbW) (cell_of_heap hn0 0 rfl)
  have HW := Lib.hid hW
  have HBW := Lib.hid hbW
  have HN1 := Lib.hid hn1
  have HC := Lib.hid hC
  have HIX := Lib.hid hix
  have HID := Lib.hid hid
  have HNO := Lib.hid hno
  clear hW hbW hn0 hn1 hC hix hid hno
  go_enter Tryd.func63, Tryd.ntmps63
  go_upto_region 1 with fail
  rw [show (w.alloc (.cells #[.int .i64 id] 3)).alloc (.cells #[.int .i64 0, .int .i64 0, .int .i64 0, .int .i64 0, .int .i64 0, .bool false] 60) = W from HW.out.symm]
  go_wp2_with fail
  refine HIX.out.mono ?_
  rintro e w1 ⟨i, rfl, hh, hb1⟩
  have hik : i = k := by
    rcases hh with ⟨m, rfl, hm, h1, h2⟩ | ⟨_, h2⟩
    · rcases Nat.lt_trichotomy m k with h | h | h
      · exact absurd h1 (HNO.out m h)
      · rw [h]
      · exact absurd HID.out (h2 k h)
    · exact absurd HID.out (h2 k hk)
  subst hik
  have hbw1 := HBW.out.trans (hb1.mono HBW.out.size)
  have hnz := (hb1.block _ (lt_of_some HN1.out)).trans HN1.out
  obtain ⟨ad, hAe, q0, q1, q2, q3, q4, q5⟩ := at_ln (Kd.C_below HC.out hbw1) k hk
  subst hAe
  obtain ⟨l, hl⟩ : ∃ l, l = rdLn ls k := ⟨_, rfl⟩
  rw [← hl] at q0 q1 q2 q3 q4 q5
  obtain ⟨p0, p1, p2, p3, p4, p5⟩ := z60_cells hnz
  obtain ⟨z0, z1, z2, z3, z4, z5⟩ := z60_frozen hnz
  have HNZ := Lib.hid hnz
  have HB1 := Lib.hid hbw1
  have HL := Lib.hid hl
  clear hh hb1 hnz hbw1 hl
  go_wp2_with fail
  refine bodyPost_ret (v := .tuple #[lnA l, .bool true]) ?_ rfl ?_
  · exact results_cell_row2 (P := Tryd.prog) (fn := Tryd.f63) (p := 4) (t := 5) (ty := 60) rfl _ _ (w.heap.size + 1) 60 #[.int .i64 l.f0, .int .i64 l.f1, .int .i64 l.f2, .int .i64 l.f3, .int .i64 l.f4, .bool l.f5] (0, 0) _ rfl (put6_blk60 HNZ.out _ _ _ _ _ _) Tryd.underlying60 rfl (by kernel_rfl)
  · exact ⟨by rw [HL.out], put6_below HB1.out (by omega) _ _ _ _ _ _⟩
end Go.Proofs.YtdgifgdadminbaaDoor

/-! ### Tu -/
/-! ### Si -/
namespace Go.Proofs
open Go.Shelf
def Tryd.lays189_ren : Go.Shelf.Ren := ⟨fun | 189 => 97 | 125 => 126 | 257 => 125 | 128 => 154 | 129 => 135 | 294 => 145 | 295 => 146 | 296 => 147 | 297 => 148 | 298 => 149 | 299 => 150 | 216 => 151 | 300 => 152 | 301 => 153 | 328 => 164 | 329 => 165 | 330 => 166 | 331 => 167 | 332 => 168 | 215 => 169 | 343 => 176 | n => n, fun | 28 => 25 | 3 => 3 | 46 => 185 | 0 => 0 | 51 => 196 | 53 => 168 | 4 => 4 | 183 => 204 | 182 => 203 | 131 => 208 | 5 => 5 | 9 => 9 | 218 => 215 | 222 => 219 | 228 => 223 | 229 => 79 | n => n, fun | n => n⟩
theorem Tryd.lays189 : Go.Proofs.Lays.n189 Tryd.prog Tryd.lays189_ren := {
  mixed := by kernel_rfl
  f125 := Tryd.func126.trans (congrArg some (by kernel_rfl))
  f128 := Tryd.func154.trans (congrArg some (by kernel_rfl))
  f129 := Tryd.func135.trans (congrArg some (by kernel_rfl))
  f189 := Tryd.func97.trans (congrArg some (by kernel_rfl))
  f215 := Tryd.func169.trans (congrArg some (by kernel_rfl))
  f216 := Tryd.func151.trans (congrArg some (by kernel_rfl))
  f257 := Tryd.func125.trans (congrArg some (by kernel_rfl))
  f294 := Tryd.func145.trans (congrArg some (by kernel_rfl))
  f295 := Tryd.func146.trans (congrArg some (by kernel_rfl))
  f296 := Tryd.func147.trans (congrArg some (by kernel_rfl))
  f297 := Tryd.func148.trans (congrArg some (by kernel_rfl))
  f298 := Tryd.func149.trans (congrArg some (by kernel_rfl))
  f299 := Tryd.func150.trans (congrArg some (by kernel_rfl))
  f300 := Tryd.func152.trans (congrArg some (by kernel_rfl))
  f301 := Tryd.func153.trans (congrArg some (by kernel_rfl))
  f328 := Tryd.func164.trans (congrArg some (by kernel_rfl))
  f329 := Tryd.func165.trans (congrArg some (by kernel_rfl))
  f330 := Tryd.func166.trans (congrArg some (by kernel_rfl))
  f331 := Tryd.func167.trans (congrArg some (by kernel_rfl))
  f332 := Tryd.func168.trans (congrArg some (by kernel_rfl))
  f343 := Tryd.func176.trans (congrArg some (by kernel_rfl))
  t0 := Tryd.underlying0
  a0 := Tryd.isAgg0
  z0 := Tryd.sizeOf0
  v0 := Tryd.zeroValue0
  t3 := Tryd.underlying3
  a3 := Tryd.isAgg3
  z3 := Tryd.sizeOf3
  v3 := Tryd.zeroValue3
  t4 := Tryd.underlying4
  a4 := Tryd.isAgg4
  z4 := Tryd.sizeOf4
  v4 := Tryd.zeroValue4
  t5 := Tryd.underlying5
  a5 := Tryd.isAgg5
  z5 := Tryd.sizeOf5
  v5 := Tryd.zeroValue5
  t9 := Tryd.underlying9
  a9 := Tryd.isAgg9
  z9 := Tryd.sizeOf9
  v9 := Tryd.zeroValue9
  t28 := Tryd.underlying25
  a28 := Tryd.isAgg25
  z28 := Tryd.sizeOf25
  v28 := Tryd.zeroValue25
  t46 := Tryd.underlying185
  a46 := Tryd.isAgg185
  z46 := Tryd.sizeOf185
  v46 := Tryd.zeroValue185
  t51 := Tryd.underlying196
  a51 := Tryd.isAgg196
  z51 := Tryd.sizeOf196
  v51 := Tryd.zeroValue196
  t53 := Tryd.underlying168
  a53 := Tryd.isAgg168
  z53 := Tryd.sizeOf168
  v53 := Tryd.zeroValue168
  t131 := Tryd.underlying208
  a131 := Tryd.isAgg208
  z131 := Tryd.sizeOf208
  v131 := Tryd.zeroValue208
  t182 := Tryd.underlying203
  a182 := Tryd.isAgg203
  z182 := Tryd.sizeOf203
  v182 := Tryd.zeroValue203
  t183 := Tryd.underlying204
  a183 := Tryd.isAgg204
  z183 := Tryd.sizeOf204
  v183 := Tryd.zeroValue204
  t218 := Tryd.underlying215
  a218 := Tryd.isAgg215
  z218 := Tryd.sizeOf215
  v218 := Tryd.zeroValue215
  t222 := Tryd.underlying219
  a222 := Tryd.isAgg219
  z222 := Tryd.sizeOf219
  v222 := Tryd.zeroValue219
  t228 := Tryd.underlying223
  a228 := Tryd.isAgg223
  z228 := Tryd.sizeOf223
  v228 := Tryd.zeroValue223
  t229 := Tryd.underlying79
  a229 := Tryd.isAgg79
  z229 := Tryd.sizeOf79
  v229 := Tryd.zeroValue79 }
open Go.Sort Go.RowKit in
theorem Tryd.slices_Sort_int (blk off cap : Nat) (zs : List Int) (w : World) (hH : Holds (Value.int .i64) w blk off zs.toArray) (hblk : blk < w.heap.size) (hsz : zs.length < 4611686018427387904) :
    Calls Tryd.prog 97 #[.slice (some ⟨blk, off, none⟩) zs.length cap] w fun e w' =>
      e = .returned (.tuple #[]) ∧ ∃ n os, w' = grow (putRow (Value.int .i64) (Sort.ahead w n) blk off (zs.mergeSort fun x y => decide (x ≤ y)).toArray) os := Any.slices_Sort_int Tryd.lays189 blk off cap zs w hH hblk hsz
def Tryd.lays108_ren : Go.Shelf.Ren := ⟨fun | 108 => 170 | n => n, fun | 28 => 25 | 3 => 3 | 0 => 0 | 4 => 4 | n => n, fun | n => n⟩
theorem Tryd.lays108 : Go.Proofs.Lays.n108 Tryd.prog Tryd.lays108_ren := {
  mixed := by kernel_rfl
  f108 := Tryd.func170.trans (congrArg some (by kernel_rfl))
  t0 := Tryd.underlying0
  a0 := Tryd.isAgg0
  z0 := Tryd.sizeOf0
  v0 := Tryd.zeroValue0
  t3 := Tryd.underlying3
  a3 := Tryd.isAgg3
  z3 := Tryd.sizeOf3
  v3 := Tryd.zeroValue3
  t4 := Tryd.underlying4
  a4 := Tryd.isAgg4
  z4 := Tryd.sizeOf4
  v4 := Tryd.zeroValue4
  t28 := Tryd.underlying25
  a28 := Tryd.isAgg25
  z28 := Tryd.sizeOf25
  v28 := Tryd.zeroValue25 }
open Go.Lib in
/-- slices.Index at []int: "Index returns the index of the first occurrence of v in s, or -1 if not present.": IT RETURNS 'Lib.idxOf (the elements) v'; the world is as it was. 'zs': what the cells behind the slice's address hold (its spare capacity too, if you have it); 'zs.take n': its elements. (LAID: no walk: one application.) -/
theorem Tryd.slices_Index_int (b off n c : Nat) (zs : List Int) (x : Int) (w : World) (hz : n ≤ zs.length) (hbig : n ≤ 9223372036854775807) (hc : ∀ j, j < zs.length → w.cell? ⟨b, off + j, none⟩ = some (.int .i64 (zs.getD j 0))) :
    Calls Tryd.prog 170 #[.slice (some ⟨b, off, none⟩) n c, .int .i64 x] w fun e w' => e = .returned (.int .i64 (Lib.idxOf (zs.take n) x)) ∧ w' = w := Any.slices_Index_int Tryd.lays108 b off n c zs x w hz hbig hc
def Tryd.laysNm215_ren : Go.Shelf.Ren := ⟨fun | 15 => 96 | n => n, fun | 22 => 25 | 3 => 3 | 4 => 4 | n => n, fun | n => n⟩
theorem Tryd.laysNm215 : Go.Proofs.Lays2.n15 Tryd.prog Tryd.laysNm215_ren := {
  mixed := by kernel_rfl
  f15 := Tryd.func96.trans (congrArg some (by kernel_rfl))
  t3 := Tryd.underlying3
  a3 := Tryd.isAgg3
  z3 := Tryd.sizeOf3
  v3 := Tryd.zeroValue3
  t4 := Tryd.underlying4
  a4 := Tryd.isAgg4
  z4 := Tryd.sizeOf4
  v4 := Tryd.zeroValue4
  t22 := Tryd.underlying25
  a22 := Tryd.isAgg25
  z22 := Tryd.sizeOf25
  v22 := Tryd.zeroValue25
  i3 := by kernel_rfl }
open Go.RowKit Go.Lib in
/-- slices.Clone at []int: "Clone returns a copy of the slice. The elements are copied using assignment, so this is a shallow clone. The result may have additional unused capacity. The result preserves the nilness of s.": OF A SLICE THAT IS NOT nil IT RETURNS A SLICE THAT IS NOT nil, OF THE SAME ELEMENTS, IN MEMORY OF THE CALL's OWN: in the how-to's words (6f): 'w'.ownsRow B e 1 v' n cells': v' begins at the head of a row among the blocks from B on (B: the heap's size at the call), not frozen, whose first cells are the elements · 'Below B w w'': below B all is as it was. The capacity is whatever the run-time gives. 'zs': what the cells behind the slice's address hold; 'zs.take n': its elements. (LAID: no walk: one application.) -/
theorem Tryd.slices_Clone_int (b off n c : Nat) (zs : List Int) (w : World) (hz : n ≤ zs.length) (hbig : n * 8 ≤ 140737488355328) (hc : ∀ j, j < zs.length → w.cell? ⟨b, off + j, none⟩ = some (.int .i64 (zs.getD j 0))) :
    Calls Tryd.prog 96 #[.slice (some ⟨b, off, none⟩) n c] w fun e w' => ∃ v', e = .returned v' ∧ w'.ownsRow w.heap.size 3 1 v' n ((zs.take n).map (Value.int .i64)) ∧ v' ≠ .slice none 0 0 ∧ Below w.heap.size w w' := Any.slices_Clone_int Tryd.laysNm215 b off n c zs w hz hbig hc
def Tryd.laysNm220_ren : Go.Shelf.Ren := ⟨fun | 20 => 98 | n => n, fun | 22 => 25 | 3 => 3 | 4 => 4 | 0 => 0 | n => n, fun | n => n⟩
theorem Tryd.laysNm220 : Go.Proofs.Lays2.n20 Tryd.prog Tryd.laysNm220_ren := {
  mixed := by kernel_rfl
  f20 := Tryd.func98.trans (congrArg some (by kernel_rfl))
  t0 := Tryd.underlying0
  a0 := Tryd.isAgg0
  z0 := Tryd.sizeOf0
  v0 := Tryd.zeroValue0
  t3 := Tryd.underlying3
  a3 := Tryd.isAgg3
  z3 := Tryd.sizeOf3
  v3 := Tryd.zeroValue3
  t4 := Tryd.underlying4
  a4 := Tryd.isAgg4
  z4 := Tryd.sizeOf4
  v4 := Tryd.zeroValue4
  t22 := Tryd.underlying25
  a22 := Tryd.isAgg25
  z22 := Tryd.sizeOf25
  v22 := Tryd.zeroValue25
  i3 := by kernel_rfl }
open Go.RowKit Go.Lib Go.Sort in
/-- slices.Compact at []int: "Compact replaces consecutive runs of equal elements with a single copy. This is like the uniq command found on Unix. Compact modifies the contents of the slice s and returns the modified slice, which may have a smaller length. Compact zeroes the elements between the new length and the original length. The result preserves the nilness of s.": IT RETURNS THE SLICE CUT TO 'Lib.compact zs'; ITS CELLS HOLD 'Lib.compact zs', THEN ZERO VALUES up to the old length; all else is as it was, but for the count of draws. IN THE WORDS OF slices.Sort's CONTRACT ('Holds', 'putRow'): so the everyday 'slices.Sort(xs); xs = slices.Compact(xs)' goes from the one contract to the other. It asks 'zs.length ≤ cap' (every slice's: the reslicing 's[:k]' looks at it). Length 0, nil: '.._empty'. (LAID: no walk: one application.) -/
theorem Tryd.slices_Compact_int (blk off cap : Nat) (zs : List Int) (w : World) (hH : Holds (Value.int .i64) w blk off zs.toArray) (hsz : zs.length ≤ 9223372036854775807) (hcap : zs.length ≤ cap) :
    Calls Tryd.prog 98 #[.slice (some ⟨blk, off, none⟩) zs.length cap] w fun e w' => e = .returned (.slice (some ⟨blk, off, none⟩) (Lib.compact zs).length cap) ∧ ∃ q, w' = putRow (Value.int .i64) (Sort.ahead w q) blk off (Lib.compact zs ++ List.replicate (zs.length - (Lib.compact zs).length) 0).toArray := Any.slices_Compact_int Tryd.laysNm220 blk off cap zs w hH hsz hcap
end Go.Proofs

/-! ### T7 -/
set_option linter.unusedSimpArgs false
set_option linter.unusedVariables false
set_option maxRecDepth 100000
namespace Go.Proofs.YtdgifgdadminbaaDoor
open Go.RowKit Go.Proofs.YtdgifgdadminbaaDoorW.PrintWords Sp
open PFileParses (wrap_id ba_len bt_nat toList_data info3 info2 info9)

/-- An instance's four slices. -/
structure Xv where
  A0 : Option Addr
  n0 : Nat
  c0 : Nat
  A1 : Option Addr
  n1 : Nat
  c1 : Nat
  A2 : Option Addr
  n2 : Nat
  c2 : Nat
  A3 : Option Addr
  n3 : Nat
  c3 : Nat
def BX (x : Xv) : Obj := .cells #[.slice x.A0 x.n0 x.c0, .slice x.A1 x.n1 x.c1, .slice x.A2 x.n2 x.c2, .slice x.A3 x.n3 x.c3] 114 (0, 0)
theorem bx_cells {w : World} {b : Nat} {x : Xv} (h : w.heap[b]? = some (BX x)) : w.cell? ⟨b, 0, none⟩ = some (.slice x.A0 x.n0 x.c0) ∧ w.cell? ⟨b, 1, none⟩ = some (.slice x.A1 x.n1 x.c1) ∧ w.cell? ⟨b, 2, none⟩ = some (.slice x.A2 x.n2 x.c2) ∧ w.cell? ⟨b, 3, none⟩ = some (.slice x.A3 x.n3 x.c3) :=
  ⟨cell_of_heap h 0 rfl, cell_of_heap h 1 rfl, cell_of_heap h 2 rfl, cell_of_heap h 3 rfl⟩
theorem bx_box (w : World) (x : Xv) : (w.alloc (BX x)).heap[w.heap.size]? = some (BX x) ∧ Below w.heap.size w (w.alloc (BX x)) := ⟨heap_alloc_new w _, (Below.refl _ _).alloc (Nat.le_refl _) _⟩

theorem count_c (x : Xv) (w : World) :
    Calls Tryd.prog 127 #[.agg #[.slice x.A0 x.n0 x.c0, .slice x.A1 x.n1 x.c1, .slice x.A2 x.n2 x.c2, .slice x.A3 x.n3 x.c3]] w fun e w' => e = .returned (.int .i64 x.n2) ∧ Below w.heap.size w w' := by
  obtain ⟨hn, hbW⟩ := bx_box w x
  obtain ⟨W, hW⟩ : ∃ W, W = w.alloc (BX x) := ⟨_, rfl⟩
  rw [← hW] at hn hbW
  obtain ⟨a0, a1, a2, a3⟩ := bx_cells hn
  have HW := Lib.hid hW
  have HBW := Lib.hid hbW
  clear hW hbW hn
  go_enter Tryd.func127, Tryd.ntmps127
  go_upto_region 1 with fail
  rw [show w.alloc (.cells #[.slice x.A0 x.n0 x.c0, .slice x.A1 x.n1 x.c1, .slice x.A2 x.n2 x.c2, .slice x.A3 x.n3 x.c3] 114) = W from HW.out.symm]
  go_wp2_with fail
  go_ret
  exact ⟨rfl, HBW.out⟩
def pickX (n : Nat) (q : Int) : Int := if q < 1 ∨ (n : Int) < q then 0 else q
def dropX (n : Nat) (q : Int) : Int := if q < 1 ∨ (n : Int) < q then 0 else n + q
theorem pick_c (x : Xv) (q : Int) (w : World) :
    Calls Tryd.prog 99 #[.agg #[.slice x.A0 x.n0 x.c0, .slice x.A1 x.n1 x.c1, .slice x.A2 x.n2 x.c2, .slice x.A3 x.n3 x.c3], .int .i64 q] w fun e w' => e = .returned (.int .i64 (pickX x.n2 q)) ∧ Below w.heap.size w w' := by
  obtain ⟨hn, hbW⟩ := bx_box w x
  obtain ⟨W, hW⟩ : ∃ W, W = w.alloc (BX x) := ⟨_, rfl⟩
  rw [← hW] at hn hbW
  obtain ⟨a0, a1, a2, a3⟩ := bx_cells hn
  have HW := Lib.hid hW
  have HBW := Lib.hid hbW
  clear hW hbW hn
  go_enter Tryd.func99, Tryd.ntmps99
  go_upto_region 1 with fail
  rw [show w.alloc (.cells #[.slice x.A0 x.n0 x.c0, .slice x.A1 x.n1 x.c1, .slice x.A2 x.n2 x.c2, .slice x.A3 x.n3 x.c3] 114) = W from HW.out.symm]
  by_cases h1 : q < 1
  · have g1 : decide (q < 1) = true := decide_eq_true h1
    have hs : pickX x.n2 q = 0 := by unfold pickX; rw [if_pos (.inl h1)]
    have HS := Lib.hid hs
    clear hs h1
    go_wp2_with fail
    go_ret
    exact ⟨by rw [HS.out]; rfl, HBW.out⟩
  · have g1 : decide (q < 1) = false := decide_eq_false h1
    go_wp2_with fail
    refine (count_c x W).mono ?_
    rintro e w1 ⟨rfl, hb1⟩
    have HB1 := Lib.hid (HBW.out.trans (hb1.mono HBW.out.size))
    clear hb1
    by_cases h2 : (x.n2 : Int) < q
    · have g2 : decide ((x.n2 : Int) < q) = true := decide_eq_true h2
      have hs : pickX x.n2 q = 0 := by unfold pickX; rw [if_pos (.inr h2)]
      have HS := Lib.hid hs
      clear hs h2
      go_wp2_with fail
      go_ret
      exact ⟨by rw [HS.out]; rfl, HB1.out⟩
    · have g2 : decide ((x.n2 : Int) < q) = false := decide_eq_false h2
      have hs : pickX x.n2 q = q := by unfold pickX; rw [if_neg (by omega)]
      have HS := Lib.hid hs
      clear hs h1 h2
      go_wp2_with fail
      go_ret
      exact ⟨by rw [HS.out]; rfl, HB1.out⟩
theorem drop_c (x : Xv) (q : Int) (w : World) (hx : x.n2 ≤ 1000000) :
    Calls Tryd.prog 156 #[.agg #[.slice x.A0 x.n0 x.c0, .slice x.A1 x.n1 x.c1, .slice x.A2 x.n2 x.c2, .slice x.A3 x.n3 x.c3], .int .i64 q] w fun e w' => e = .returned (.int .i64 (dropX x.n2 q)) ∧ Below w.heap.size w w' := by
  obtain ⟨hn, hbW⟩ := bx_box w x
  obtain ⟨W, hW⟩ : ∃ W, W = w.alloc (BX x) := ⟨_, rfl⟩
  rw [← hW] at hn hbW
  obtain ⟨a0, a1, a2, a3⟩ := bx_cells hn
  have HW := Lib.hid hW
  have HBW := Lib.hid hbW
  have HN := Lib.hid hn
  clear hW hbW hn
  go_enter Tryd.func156, Tryd.ntmps156
  go_upto_region 1 with fail
  rw [show w.alloc (.cells #[.slice x.A0 x.n0 x.c0, .slice x.A1 x.n1 x.c1, .slice x.A2 x.n2 x.c2, .slice x.A3 x.n3 x.c3] 114) = W from HW.out.symm]
  by_cases h1 : q < 1
  · have g1 : decide (q < 1) = true := decide_eq_true h1
    have hs : dropX x.n2 q = 0 := by unfold dropX; rw [if_pos (.inl h1)]
    have HS := Lib.hid hs
    clear hs h1
    go_wp2_with fail
    go_ret
    exact ⟨by rw [HS.out]; rfl, HBW.out⟩
  · have g1 : decide (q < 1) = false := decide_eq_false h1
    go_wp2_with fail
    refine (count_c x W).mono ?_
    rintro e w1 ⟨rfl, hb1⟩
    have HB1 := Lib.hid (HBW.out.trans (hb1.mono HBW.out.size))
    have hn1 := (hb1.block _ (lt_of_some HN.out)).trans HN.out
    clear hb1
    by_cases h2 : (x.n2 : Int) < q
    · have g2 : decide ((x.n2 : Int) < q) = true := decide_eq_true h2
      have hs : dropX x.n2 q = 0 := by unfold dropX; rw [if_pos (.inr h2)]
      have HS := Lib.hid hs
      clear hs h2
      go_wp2_with fail
      go_ret
      exact ⟨by rw [HS.out]; rfl, HB1.out⟩
    · have g2 : decide ((x.n2 : Int) < q) = false := decide_eq_false h2
      have hs : dropX x.n2 q = x.n2 + q := by unfold dropX; rw [if_neg (by omega)]
      have HS := Lib.hid hs
      have gw : wrap64 ((x.n2 : Int) + q) = x.n2 + q := wrap_id (by omega) (by omega)
      clear hs h1 h2 a0 a1 a2 a3
      obtain ⟨a0, a1, a2, a3⟩ := bx_cells hn1
      clear hn1
      go_wp2_with fail
      refine (count_c x w1).mono ?_
      rintro e w2 ⟨rfl, hb2⟩
      have HB2 := Lib.hid (HB1.out.trans (hb2.mono HB1.out.size))
      clear hb2
      go_wp2_with fail
      go_ret
      exact ⟨by rw [HS.out]; exact congrArg (fun z => Ending.returned (Value.int .i64 z)) gw, HB2.out⟩
/-- A row of numbers. -/
structure Row (w : World) (A : Option Addr) (n : Nat) (l : List Int) : Prop where
  len : l.length = n
  small : n ≤ 1000000
  at_ : ∀ j (h : j < l.length), ∃ ad, A = some ad ∧ w.cell? (ad.add j) = some (.int .i64 (l[j]'h))
theorem Row.below {w w' : World} {A : Option Addr} {n : Nat} {l : List Int} (h : Row w A n l) (hb : Below w.heap.size w w') : Row w' A n l :=
  ⟨h.len, h.small, fun j hj => by
    obtain ⟨ad, e, hc⟩ := h.at_ j hj
    exact ⟨ad, e, cell_below hc hb⟩⟩
theorem Row.cells {w : World} {A : Option Addr} {n : Nat} {l : List Int} (h : Row w A n l) (hp : 0 < n) : ∃ ad, A = some ad ∧ ∀ j (hj : j < l.length), w.cell? (ad.add j) = some (.int .i64 (l[j]'hj)) := by
  obtain ⟨ad, e, _⟩ := h.at_ 0 (by rw [h.len]; exact hp)
  refine ⟨ad, e, fun j hj => ?_⟩
  obtain ⟨ad', e', hc⟩ := h.at_ j hj
  obtain rfl := Option.some.inj (e.symm.trans e')
  exact hc
def whereX (l : List Int) (x : Int) : Int := Lib.idxOf l x
theorem where_c (l : List Int) (b off n cap : Nat) (x : Int) (w : World) (h : Row w (some ⟨b, off, none⟩) n l) (hp : 0 < n) :
    Calls Tryd.prog 155 #[.slice (some ⟨b, off, none⟩) n cap, .int .i64 x] w fun e w' => e = .returned (.int .i64 (whereX l x)) ∧ w' = w := by
  have hl := h.len
  have hi := Tryd.slices_Index_int b off n cap l x w (by omega) (by have := h.small; omega) (fun j hj => by
    obtain ⟨ad, e, hc⟩ := h.cells hp
    obtain rfl := Option.some.inj e
    have := hc j hj
    rw [List.getD_eq_getElem?_getD, List.getElem?_eq_getElem hj]
    rw [show (⟨b, off, none⟩ : Addr).add j = ⟨b, off + j, none⟩ by simp [Addr.add]] at this
    exact this)
  rw [show l.take n = l by rw [← hl, List.take_length]] at hi
  have HI := Lib.hid hi
  clear hi h
  go_enter Tryd.func155, Tryd.ntmps155
  go_wp2_with fail
  refine HI.out.mono ?_
  rintro e w1 ⟨rfl, rfl⟩
  go_wp2_with fail
  go_ret
  exact ⟨rfl, rfl⟩
def pairX (n : Nat) (l : List Int) (q : Int) : Int × Int :=
  if pickX n q = 0 then (-1, -1) else if whereX l (pickX n q) < 0 ∨ whereX l (dropX n q) < 0 then (-1, -1) else (whereX l (pickX n q), whereX l (dropX n q))
theorem keep4 {W0 w w' : World} {p q r s : Addr} {v1 v2 v3 v4 : Value} (h : w.cell? p = some v1 ∧ w.cell? q = some v2 ∧ w.cell? r = some v3 ∧ w.cell? s = some v4 ∧ Below W0.heap.size W0 w) (hb : Below w.heap.size w w') : w'.cell? p = some v1 ∧ w'.cell? q = some v2 ∧ w'.cell? r = some v3 ∧ w'.cell? s = some v4 ∧ Below W0.heap.size W0 w' :=
  ⟨cell_below h.1 hb, cell_below h.2.1 hb, cell_below h.2.2.1 hb, cell_below h.2.2.2.1 hb, h.2.2.2.2.trans (hb.mono h.2.2.2.2.size)⟩
theorem keepB {W0 w w' : World} {x : Xv} {b : Nat} (h : w.heap[b]? = some (BX x) ∧ Below W0.heap.size W0 w) (hb : Below w.heap.size w w') : w'.heap[b]? = some (BX x) ∧ Below W0.heap.size W0 w' :=
  ⟨(hb.block _ (lt_of_some h.1)).trans h.1, h.2.trans (hb.mono h.2.size)⟩
set_option maxHeartbeats 8000000 in
theorem pair_c (x : Xv) (hx : x.n2 ≤ 1000000) (l : List Int) (b off n cap : Nat) (q : Int) (w : World) (h : Row w (some ⟨b, off, none⟩) n l) (hp : 0 < n) :
    Calls Tryd.prog 128 #[.agg #[.slice x.A0 x.n0 x.c0, .slice x.A1 x.n1 x.c1, .slice x.A2 x.n2 x.c2, .slice x.A3 x.n3 x.c3], .slice (some ⟨b, off, none⟩) n cap, .int .i64 q] w fun e w' => e = .returned (.tuple #[.int .i64 (pairX x.n2 l q).1, .int .i64 (pairX x.n2 l q).2]) ∧ Below w.heap.size w w' := by
  obtain ⟨hn, hbW⟩ := bx_box w x
  obtain ⟨W, hW⟩ : ∃ W, W = w.alloc (BX x) := ⟨_, rfl⟩
  rw [← hW] at hn hbW
  obtain ⟨a0, a1, a2, a3⟩ := bx_cells hn
  have HW := Lib.hid hW
  have HBW := Lib.hid hbW
  have HN := Lib.hid hn
  have HR := Lib.hid (h.below hbW)
  clear hW hbW hn h
  go_enter Tryd.func128, Tryd.ntmps128
  go_upto_region 1 with fail
  rw [show w.alloc (.cells #[.slice x.A0 x.n0 x.c0, .slice x.A1 x.n1 x.c1, .slice x.A2 x.n2 x.c2, .slice x.A3 x.n3 x.c3] 114) = W from HW.out.symm]
  go_wp2_with fail
  refine (pick_c x q W).mono ?_
  rintro e w1 ⟨rfl, hb1⟩
  have hk1 := keepB ⟨HN.out, Below.refl W.heap.size W⟩ hb1
  have HK1 := Lib.hid hk1
  obtain ⟨p, hpe⟩ : ∃ p, p = pickX x.n2 q := ⟨_, rfl⟩
  obtain ⟨d, hde⟩ : ∃ d, d = dropX x.n2 q := ⟨_, rfl⟩
  rw [← hpe]
  have HPE := Lib.hid hpe
  have HDE := Lib.hid hde
  clear hb1 a0 a1 a2 a3 hk1 hpe hde
  by_cases h0 : p = 0
  · have g0 : (p == 0) = true := beq_iff_eq.2 h0
    have hs : pairX x.n2 l q = (-1, -1) := by unfold pairX; rw [← HPE.out, if_pos h0]
    have HS := Lib.hid hs
    clear hs h0
    go_wp2_with fail
    go_ret2
    exact ⟨by rw [HS.out]; rfl, HBW.out.trans (HK1.out.2.mono HBW.out.size)⟩
  · have g0 : (p == 0) = false := beq_eq_false_iff_ne.2 h0
    have HZ := Lib.hid h0
    obtain ⟨a0, a1, a2, a3⟩ := bx_cells HK1.out.1
    have hPK : ∀ w', Below W.heap.size W w' → Calls Tryd.prog 99 #[.agg #[.slice x.A0 x.n0 x.c0, .slice x.A1 x.n1 x.c1, .slice x.A2 x.n2 x.c2, .slice x.A3 x.n3 x.c3], .int .i64 q] w' fun e w'' => e = .returned (.int .i64 p) ∧ Below w'.heap.size w' w'' := fun w' _ => by rw [HPE.out]; exact pick_c x q w'
    have hDR : ∀ w', Below W.heap.size W w' → Calls Tryd.prog 156 #[.agg #[.slice x.A0 x.n0 x.c0, .slice x.A1 x.n1 x.c1, .slice x.A2 x.n2 x.c2, .slice x.A3 x.n3 x.c3], .int .i64 q] w' fun e w'' => e = .returned (.int .i64 d) ∧ Below w'.heap.size w' w'' := fun w' _ => by rw [HDE.out]; exact drop_c x q w' hx
    have hWH : ∀ w' z, Below W.heap.size W w' → Calls Tryd.prog 155 #[.slice (some ⟨b, off, none⟩) n cap, .int .i64 z] w' fun e w'' => e = .returned (.int .i64 (whereX l z)) ∧ Below w'.heap.size w' w'' := fun w' z hb => (where_c l b off n cap z w' (HR.out.below hb) hp).mono (fun e w'' ⟨h1, h2⟩ => ⟨h1, by rw [h2]; exact Below.refl _ _⟩)
    have HPK := Lib.hid hPK
    have HDR := Lib.hid hDR
    have HWH := Lib.hid hWH
    clear h0 hPK hDR hWH
    go_upto_region 3 with fail
    go_cut [6, 7] (fun u v wx => u = .int .i64 (whereX l p) ∧ v = .int .i64 (whereX l d) ∧ Below W.heap.size W wx)
    case first =>
      go_region_held3 (fun w' => w'.cell? ⟨w.heap.size, 0, none⟩ = some (.slice x.A0 x.n0 x.c0) ∧ w'.cell? ⟨w.heap.size, 1, none⟩ = some (.slice x.A1 x.n1 x.c1) ∧ w'.cell? ⟨w.heap.size, 2, none⟩ = some (.slice x.A2 x.n2 x.c2) ∧ w'.cell? ⟨w.heap.size, 3, none⟩ = some (.slice x.A3 x.n3 x.c3) ∧ Below W.heap.size W w')
        (first | assumption | exact keep4 ⟨a0, a1, a2, a3, HK1.out.2⟩ (drewB _) | exact keep4 (by assumption) (by assumption))
        (first | (go_at_call 99; refine (HPK.out _ ?_).mono ?_; (exact And.right (And.right (And.right (And.right (by assumption))))); rintro e w' ⟨rfl, hbX⟩) | (go_at_call 156; refine (HDR.out _ ?_).mono ?_; (exact And.right (And.right (And.right (And.right (by assumption))))); rintro e w' ⟨rfl, hbX⟩) | (go_at_call 155; refine (HWH.out _ _ ?_).mono ?_; (exact And.right (And.right (And.right (And.right (by assumption))))); rintro e w' ⟨rfl, hbX⟩))
      all_goals
        have hbb := And.right (And.right (And.right (And.right (by assumption : w'.cell? ⟨w.heap.size, 0, none⟩ = some (.slice x.A0 x.n0 x.c0) ∧ w'.cell? ⟨w.heap.size, 1, none⟩ = some (.slice x.A1 x.n1 x.c1) ∧ w'.cell? ⟨w.heap.size, 2, none⟩ = some (.slice x.A2 x.n2 x.c2) ∧ w'.cell? ⟨w.heap.size, 3, none⟩ = some (.slice x.A3 x.n3 x.c3) ∧ Below W.heap.size W w'))))
        have HBB := Lib.hid hbb
        clear hbb
        go_wp2_with fail
        go_meet
        case rel => exact ⟨rfl, rfl, HBB.out⟩
    case rest =>
      obtain ⟨rfl, rfl, hbc⟩ := hcut
      have HBC := Lib.hid (HBW.out.trans (hbc.mono HBW.out.size))
      obtain ⟨i, hi⟩ : ∃ i, i = whereX l p := ⟨_, rfl⟩
      obtain ⟨j, hj⟩ : ∃ j, j = whereX l d := ⟨_, rfl⟩
      have hs : pairX x.n2 l q = if i < 0 ∨ j < 0 then (-1, -1) else (i, j) := by
        unfold pairX
        rw [← HPE.out, if_neg HZ.out, ← HDE.out, ← hi, ← hj]
      rw [← hi, ← hj]
      have HS := Lib.hid hs
      clear hbc a0 a1 a2 a3 hs hi hj
      by_cases h1 : i < 0
      · have g1 : decide (i < 0) = true := decide_eq_true h1
        have hs : pairX x.n2 l q = (-1, -1) := by rw [HS.out, if_pos (.inl h1)]
        have HS2 := Lib.hid hs
        clear hs h1
        go_wp2_with fail
        go_ret2
        exact ⟨by rw [HS2.out]; rfl, HBC.out⟩
      · have g1 : decide (i < 0) = false := decide_eq_false h1
        by_cases h2 : j < 0
        · have g2 : decide (j < 0) = true := decide_eq_true h2
          have hs : pairX x.n2 l q = (-1, -1) := by rw [HS.out, if_pos (.inr h2)]
          have HS2 := Lib.hid hs
          clear hs h1 h2
          go_wp2_with fail
          go_ret2
          exact ⟨by rw [HS2.out]; rfl, HBC.out⟩
        · have g2 : decide (j < 0) = false := decide_eq_false h2
          have hs : pairX x.n2 l q = (i, j) := by rw [HS.out, if_neg (by omega)]
          have HS2 := Lib.hid hs
          clear hs h1 h2
          go_wp2_with fail
          go_ret2
          exact ⟨by rw [HS2.out]; rfl, HBC.out⟩
end Go.Proofs.YtdgifgdadminbaaDoor

/-! ### T8 -/
set_option linter.unusedSimpArgs false
set_option linter.unusedVariables false
set_option maxRecDepth 100000
namespace Go.Proofs.YtdgifgdadminbaaDoor
open Go.RowKit Go.Proofs.YtdgifgdadminbaaDoorW.PrintWords Sp
open PFileParses (wrap_id ba_len bt_nat toList_data info3 info2 info9)

/-- The example's plan in memory, and the service of its first stop. -/
structure Exm (x : Xv) (r r0 t t0 sb : Nat) (w : World) : Prop where
  rides : x.n2 = 1
  stops : x.n1 = 4
  at1 : x.A1 = some ⟨sb, 0, none⟩
  serv : w.cell? ⟨sb, 8, none⟩ = some (.int .i64 1)
  rr : w.cell? ⟨r, 0, none⟩ = some (.slice (some ⟨r0, 0, none⟩) 4 4)
  row : Row w (some ⟨r0, 0, none⟩) 4 [0, 1, 2, 3]
  tt : w.cell? ⟨t, 0, none⟩ = some (.slice (some ⟨t0, 0, none⟩) 4 4)
  times : Row w (some ⟨t0, 0, none⟩) 4 [0, 0, 6, 12]
theorem Exm.below {x : Xv} {r r0 t t0 sb : Nat} {w w' : World} (h : Exm x r r0 t t0 sb w) (hb : Below w.heap.size w w') : Exm x r r0 t t0 sb w' :=
  ⟨h.rides, h.stops, h.at1, cell_below h.serv hb, cell_below h.rr hb, h.row.below hb, cell_below h.tt hb, h.times.below hb⟩
def BP (r t : Nat) : Obj := .cells #[.slice (some ⟨r, 0, none⟩) 1 1, .slice (some ⟨t, 0, none⟩) 1 1, .slice none 0 0, .int .i64 0] 27 (0, 0)

theorem results_cell_row1 {P : Program} {fn : Func} {p : Tmp} {ty : TypeId} (h : fn.results = #[.cell p ty]) (tmps : Array Value) (w : World) (g : Nat) (t0 : TypeId) (cs : Array Value) (fr : Nat × Nat) (d : TypeDesc)
    (hp : tmps.getD p undef = .pointer (some ⟨g, 0, none⟩)) (hg : w.heap[g]? = some (.cells cs t0 fr))
    (hu : P.underlying ty = some d) (hd : (match d with | .struct _ | .array _ _ => true | _ => false) = true) (hi : (P.info? ty).map (·.size) = some cs.size) :
    (results fn tmps).run P w = .ok (.agg cs) w := by
  have hp' : tmps[p]?.getD undef = .pointer (some ⟨g, 0, none⟩) := by simpa using hp
  simp [results, h, hp', asAddr, run_loadVar_row w g t0 ty cs fr d hg hu hd hi]
/-- What a cell holds. -/
def cellOr (w : World) (a : Addr) : Value := (w.cell? a).getD undef
theorem cellOr_some {w : World} {a : Addr} {v : Value} (h : w.cell? a = some v) : w.cell? a = some (cellOr w a) := by unfold cellOr; rw [h]; rfl
theorem lt_of_cell {w : World} {a : Addr} {v : Value} (h : w.cell? a = some v) : a.block < w.heap.size := by
  rcases Nat.lt_or_ge a.block w.heap.size with h1 | h1
  · exact h1
  · have : w.heap[a.block]? = none := Array.getElem?_eq_none h1
    simp [World.cell?, this] at h
theorem keepS {wc w w' : World} {B : Nat} {p0 p1 p2 p3 q1 q2 s g : Addr} {v0 v1 v2 v3 u1 u2 us : Value} (hB : B ≤ wc.heap.size)
    (h : w.cell? p0 = some v0 ∧ w.cell? p1 = some v1 ∧ w.cell? p2 = some v2 ∧ w.cell? p3 = some v3 ∧ w.cell? q1 = some u1 ∧ w.cell? q2 = some u2 ∧ w.cell? s = some us ∧ w.cell? g = some (cellOr w g) ∧ w.frozen? g = false ∧ Below B wc w) (hb : Below w.heap.size w w') :
    w'.cell? p0 = some v0 ∧ w'.cell? p1 = some v1 ∧ w'.cell? p2 = some v2 ∧ w'.cell? p3 = some v3 ∧ w'.cell? q1 = some u1 ∧ w'.cell? q2 = some u2 ∧ w'.cell? s = some us ∧ w'.cell? g = some (cellOr w' g) ∧ w'.frozen? g = false ∧ Below B wc w' := by
  obtain ⟨h0, h1, h2, h3, h4, h5, h6, h7, h8, h9⟩ := h
  exact ⟨cell_below h0 hb, cell_below h1 hb, cell_below h2 hb, cell_below h3 hb, cell_below h4 hb, cell_below h5 hb, cell_below h6 hb, cellOr_some (cell_below h7 hb), (hb.frozen (lt_of_cell h7)).trans h8, h9.trans (hb.mono (Nat.le_trans hB h9.size))⟩
theorem setS {wc w : World} {B : Nat} {p0 p1 p2 p3 q1 q2 s g : Addr} {v0 v1 v2 v3 u1 u2 us : Value} (v : Value) (hB : B ≤ g.block) (e0 : g.block ≠ p0.block) (e1 : g.block ≠ p1.block) (e2 : g.block ≠ p2.block) (e3 : g.block ≠ p3.block) (e4 : g.block ≠ q1.block) (e5 : g.block ≠ q2.block) (e6 : g.block ≠ s.block)
    (h : w.cell? p0 = some v0 ∧ w.cell? p1 = some v1 ∧ w.cell? p2 = some v2 ∧ w.cell? p3 = some v3 ∧ w.cell? q1 = some u1 ∧ w.cell? q2 = some u2 ∧ w.cell? s = some us ∧ w.cell? g = some (cellOr w g) ∧ w.frozen? g = false ∧ Below B wc w) :
    (w.setCell g v).cell? p0 = some v0 ∧ (w.setCell g v).cell? p1 = some v1 ∧ (w.setCell g v).cell? p2 = some v2 ∧ (w.setCell g v).cell? p3 = some v3 ∧ (w.setCell g v).cell? q1 = some u1 ∧ (w.setCell g v).cell? q2 = some u2 ∧ (w.setCell g v).cell? s = some us ∧ (w.setCell g v).cell? g = some (cellOr (w.setCell g v) g) ∧ (w.setCell g v).frozen? g = false ∧ Below B wc (w.setCell g v) := by
  obtain ⟨h0, h1, h2, h3, h4, h5, h6, h7, h8, h9⟩ := h
  refine ⟨?_, ?_, ?_, ?_, ?_, ?_, ?_, cellOr_some (World.cell?_setCell_same' w g v (by rw [h7]; rfl)), ?_, h9.setCell hB _⟩
  · rw [World.cell?_setCell_far _ _ _ _ e0, h0]
  · rw [World.cell?_setCell_far _ _ _ _ e1, h1]
  · rw [World.cell?_setCell_far _ _ _ _ e2, h2]
  · rw [World.cell?_setCell_far _ _ _ _ e3, h3]
  · rw [World.cell?_setCell_far _ _ _ _ e4, h4]
  · rw [World.cell?_setCell_far _ _ _ _ e5, h5]
  · rw [World.cell?_setCell_far _ _ _ _ e6, h6]
  · rw [World.frozen?_setCell, h8]

set_option maxHeartbeats 8000000 in
theorem one_p (x : Xv) (r r0 t t0 sb : Nat) (w : World) (h : Exm x r r0 t t0 sb w) :
    Calls Tryd.prog 100 #[.agg #[.slice x.A0 x.n0 x.c0, .slice x.A1 x.n1 x.c1, .slice x.A2 x.n2 x.c2, .slice x.A3 x.n3 x.c3], .agg #[.slice (some ⟨r, 0, none⟩) 1 1, .slice (some ⟨t, 0, none⟩) 1 1, .slice none 0 0, .int .i64 0], .int .i64 1] w fun e w' => e = .returned (lnA ⟨1, 0, 0, 6, 5, true⟩) ∧ Below w.heap.size w w' := by
  obtain ⟨A0, n0, c0, A1, n1, c1, A2, n2, c2, A3, n3, c3⟩ := x
  obtain rfl : A1 = some ⟨sb, 0, none⟩ := h.at1
  obtain rfl : n1 = 4 := h.stops
  obtain rfl : n2 = 1 := h.rides
  dsimp only
  obtain ⟨W, hW⟩ : ∃ W, W = ((w.alloc (BX ⟨A0, n0, c0, some ⟨sb, 0, none⟩, 4, c1, A2, 1, c2, A3, n3, c3⟩)).alloc (BP r t)).alloc Z60 := ⟨_, rfl⟩
  have hbW : Below w.heap.size w W := by rw [hW]; exact (((Below.refl _ _).alloc (Nat.le_refl _) _).alloc (by simp) _).alloc (by simp; omega) _
  have hn0 : W.heap[w.heap.size]? = some (BX ⟨A0, n0, c0, some ⟨sb, 0, none⟩, 4, c1, A2, 1, c2, A3, n3, c3⟩) := by
    rw [hW]
    exact ((((Below.refl (w.alloc (BX ⟨A0, n0, c0, some ⟨sb, 0, none⟩, 4, c1, A2, 1, c2, A3, n3, c3⟩)).heap.size _).alloc (Nat.le_refl _) _).alloc (by simp) _).block _ (by simp)).trans (heap_alloc_new w (BX ⟨A0, n0, c0, some ⟨sb, 0, none⟩, 4, c1, A2, 1, c2, A3, n3, c3⟩))
  have hn1 : W.heap[w.heap.size + 1]? = some (BP r t) := by
    rw [hW]
    have h := heap_alloc_new (w.alloc (BX ⟨A0, n0, c0, some ⟨sb, 0, none⟩, 4, c1, A2, 1, c2, A3, n3, c3⟩)) (BP r t)
    rw [show (w.alloc (BX ⟨A0, n0, c0, some ⟨sb, 0, none⟩, 4, c1, A2, 1, c2, A3, n3, c3⟩)).heap.size = w.heap.size + 1 by simp] at h
    exact (((Below.refl ((w.alloc (BX ⟨A0, n0, c0, some ⟨sb, 0, none⟩, 4, c1, A2, 1, c2, A3, n3, c3⟩)).alloc (BP r t)).heap.size _).alloc (Nat.le_refl _) _).block _ (by simp)).trans h
  have hn2 : W.heap[w.heap.size + 2]? = some Z60 := by
    rw [hW]
    have h := heap_alloc_new ((w.alloc (BX ⟨A0, n0, c0, some ⟨sb, 0, none⟩, 4, c1, A2, 1, c2, A3, n3, c3⟩)).alloc (BP r t)) Z60
    rw [show ((w.alloc (BX ⟨A0, n0, c0, some ⟨sb, 0, none⟩, 4, c1, A2, 1, c2, A3, n3, c3⟩)).alloc (BP r t)).heap.size = w.heap.size + 2 by simp] at h
    exact h
  have hEx := h.below hbW
  have HW := Lib.hid hW
  have HBW := Lib.hid hbW
  have HN0 := Lib.hid hn0
  have HN1 := Lib.hid hn1
  have HN2 := Lib.hid hn2
  have HEX := Lib.hid hEx
  obtain ⟨a0, a1, a2, a3⟩ := bx_cells hn0
  dsimp only at a0 a1 a2 a3
  have b0 : W.cell? ⟨w.heap.size + 1, 0, none⟩ = some (.slice (some ⟨r, 0, none⟩) 1 1) := cell_of_heap hn1 0 rfl
  have b1 : W.cell? ⟨w.heap.size + 1, 1, none⟩ = some (.slice (some ⟨t, 0, none⟩) 1 1) := cell_of_heap hn1 1 rfl
  have hrr := hEx.rr
  have hsz := hbW.size
  have hpr := pair_c ⟨A0, n0, c0, some ⟨sb, 0, none⟩, 4, c1, A2, 1, c2, A3, n3, c3⟩ (by show 1 ≤ 1000000; decide) [0, 1, 2, 3] r0 0 4 4 1 W hEx.row (by omega)
  dsimp only at hpr
  rw [show pairX 1 [0, 1, 2, 3] 1 = (1, 2) by rfl] at hpr
  dsimp only at hpr
  have hpk := fun w' => pick_c ⟨A0, n0, c0, some ⟨sb, 0, none⟩, 4, c1, A2, 1, c2, A3, n3, c3⟩ 1 w'
  dsimp only at hpk
  rw [show pickX 1 1 = 1 by rfl] at hpk
  have HPK := Lib.hid hpk
  have HPR := Lib.hid hpr
  clear hW hbW hn0 hn1 hn2 hEx h hpr hpk
  go_enter Tryd.func100, Tryd.ntmps100
  go_upto_region 1 with fail
  rw [show ((w.alloc (.cells #[.slice A0 n0 c0, .slice (some ⟨sb, 0, none⟩) 4 c1, .slice A2 1 c2, .slice A3 n3 c3] 114)).alloc (.cells #[.slice (some ⟨r, 0, none⟩) 1 1, .slice (some ⟨t, 0, none⟩) 1 1, .slice none 0 0, .int .i64 0] 27)).alloc (.cells #[.int .i64 0, .int .i64 0, .int .i64 0, .int .i64 0, .int .i64 0, .bool false] 60) = W from HW.out.symm]
  go_wp2_with fail
  refine wp_loop_rounds 1 ?_
  rw [rounds_succ]
  go_wp2_with fail
  refine HPR.out.mono ?_
  rintro e w1 ⟨rfl, hb1⟩
  have hk0 := (hb1.block _ (lt_of_some HN0.out)).trans HN0.out
  have hk1 := (hb1.block _ (lt_of_some HN1.out)).trans HN1.out
  have hEx1 := HEX.out.below hb1
  have HK0 := Lib.hid hk0
  have HK2 := Lib.hid ((hb1.block _ (lt_of_some HN2.out)).trans HN2.out)
  have HEX1 := Lib.hid hEx1
  have hz1 := hb1.size
  have HB1 := Lib.hid (HBW.out.trans (hb1.mono hsz))
  clear a0 a1 a2 a3 b0 b1 hrr
  obtain ⟨a0, a1, a2, a3⟩ := bx_cells hk0
  dsimp only at a0 a1 a2 a3
  have b0 : w1.cell? ⟨w.heap.size + 1, 0, none⟩ = some (.slice (some ⟨r, 0, none⟩) 1 1) := cell_of_heap hk1 0 rfl
  have b1 : w1.cell? ⟨w.heap.size + 1, 1, none⟩ = some (.slice (some ⟨t, 0, none⟩) 1 1) := cell_of_heap hk1 1 rfl
  have htt := hEx1.tt
  obtain ⟨ad, e1, hc⟩ := hEx1.times.cells (by decide)
  obtain rfl := Option.some.inj e1
  have k1 : w1.cell? ⟨t0, 1, none⟩ = some (.int .i64 0) := hc 1 (by decide)
  have k2 : w1.cell? ⟨t0, 2, none⟩ = some (.int .i64 6) := hc 2 (by decide)
  have ht0 : t0 < w1.heap.size := lt_of_cell k1
  have hs0 : sb < w1.heap.size := lt_of_cell hEx1.serv
  clear hk0 hk1 hEx1 hb1 hc e1 HPR
  go_upto_region 7 with fail
  have hK : ∀ w', Below w1.heap.size w1 w' → w'.cell? ⟨t0, 1, none⟩ = some (.int .i64 0) ∧ w'.cell? ⟨t0, 2, none⟩ = some (.int .i64 6) ∧ Below w1.heap.size w1 w' := fun w' hb => ⟨cell_below k1 hb, cell_below k2 hb, hb⟩
  have HK := Lib.hid hK
  clear hK
  go_cut [12] (fun p wx => p = .pointer (some ⟨w1.heap.size, 0, none⟩) ∧ wx.heap[w1.heap.size]? = some (B60 ⟨1, 0, 0, 6, 0, true⟩) ∧ Below w1.heap.size w1 wx)
  case first =>
    go_region_held3 (fun w' => w'.cell? ⟨t0, 1, none⟩ = some (.int .i64 0) ∧ w'.cell? ⟨t0, 2, none⟩ = some (.int .i64 6) ∧ Below w1.heap.size w1 w')
      (first | assumption | (refine HK.out _ ?_; repeat (first | exact Below.refl _ _ | refine Below.drew ?_ | refine Below.setCell ?_ (by simp) _ | refine Below.alloc ?_ (by simp) _))) (fail)
    all_goals
      go_wp2_with fail
      go_meet
      case rel => exact ⟨rfl, heap_alloc_new w1 _, ((Below.refl _ _).alloc (Nat.le_refl _) _).drew⟩
  case rest =>
    generalize hwd : wc = wd at *
    clear hwd
    obtain ⟨rfl, hn3, hbc⟩ := hcut
    have hEx2 := HEX1.out.below hbc
    have hk0 := (hbc.block _ (lt_of_some HK0.out)).trans HK0.out
    have HK2c := Lib.hid ((hbc.block _ (lt_of_some HK2.out)).trans HK2.out)
    have HK0c := Lib.hid hk0
    have HN3 := Lib.hid hn3
    have HBC := Lib.hid hbc
    have hzc := hbc.size
    have hlt3 := lt_of_some hn3
    have HEX2 := Lib.hid hEx2
    clear a0 a1 a2 a3 b0 b1 htt k1 k2 HK hn3 hbc
    obtain ⟨a0, a1, a2, a3⟩ := bx_cells hk0
    dsimp only at a0 a1 a2 a3
    obtain ⟨p0, p1, p2, p3, p4, p5⟩ := b60_cells HN3.out
    obtain ⟨ad, e1, hc⟩ := hEx2.times.cells (by decide)
    obtain rfl := Option.some.inj e1
    have k1 : wd.cell? ⟨t0, 1, none⟩ = some (.int .i64 0) := hc 1 (by decide)
    have k2 : wd.cell? ⟨t0, 2, none⟩ = some (.int .i64 6) := hc 2 (by decide)
    clear hk0 hc e1 hEx2
    have h4 : ∀ w', Below wd.heap.size wd w' → w'.cell? ⟨w.heap.size, 0, none⟩ = some (.slice A0 n0 c0) ∧ w'.cell? ⟨w.heap.size, 1, none⟩ = some (.slice (some ⟨sb, 0, none⟩) 4 c1) ∧ w'.cell? ⟨w.heap.size, 2, none⟩ = some (.slice A2 1 c2) ∧ w'.cell? ⟨w.heap.size, 3, none⟩ = some (.slice A3 n3 c3) ∧ Below wd.heap.size wd w' := fun w' hb => ⟨cell_below a0 hb, cell_below a1 hb, cell_below a2 hb, cell_below a3 hb, hb⟩
    have H4 := Lib.hid h4
    clear h4 p0 p1 p2 p3 p4 p5
    go_upto_region 8 with fail
    go_cut [71] (fun bb wx => bb = .bool true ∧ Below wd.heap.size wd wx)
    case first =>
      go_region_held3 (fun w' => w'.cell? ⟨w.heap.size, 0, none⟩ = some (.slice A0 n0 c0) ∧ w'.cell? ⟨w.heap.size, 1, none⟩ = some (.slice (some ⟨sb, 0, none⟩) 4 c1) ∧ w'.cell? ⟨w.heap.size, 2, none⟩ = some (.slice A2 1 c2) ∧ w'.cell? ⟨w.heap.size, 3, none⟩ = some (.slice A3 n3 c3) ∧ Below wd.heap.size wd w')
        (first | assumption | exact H4.out _ (drewB _) | exact keep4 (by assumption) (by assumption))
        (first | (go_at_call 99; refine (HPK.out _).mono ?_; rintro e w' ⟨rfl, hbX⟩))
      all_goals
        have hbb := And.right (And.right (And.right (And.right (by assumption : w'.cell? ⟨w.heap.size, 0, none⟩ = some (.slice A0 n0 c0) ∧ w'.cell? ⟨w.heap.size, 1, none⟩ = some (.slice (some ⟨sb, 0, none⟩) 4 c1) ∧ w'.cell? ⟨w.heap.size, 2, none⟩ = some (.slice A2 1 c2) ∧ w'.cell? ⟨w.heap.size, 3, none⟩ = some (.slice A3 n3 c3) ∧ Below wd.heap.size wd w'))))
        have HBB := Lib.hid hbb
        clear hbb
        go_wp2_with fail
        go_meet
        case rel => exact ⟨rfl, HBB.out⟩
    case rest =>
      obtain ⟨rfl, hbd⟩ := hcut
      have hn3 := (hbd.block _ hlt3).trans HN3.out
      have hEx3 := HEX2.out.below hbd
      have hzd := hbd.size
      have HRES := Lib.hid ((hbd.block _ (lt_of_some HK2c.out)).trans HK2c.out)
      have HN3c := Lib.hid hn3
      have HBD := Lib.hid (HB1.out.trans ((HBC.out.trans (hbd.mono hzc)).mono (by omega)))
      clear a0 a1 a2 a3 k1 k2
      obtain ⟨a0, a1, a2, a3⟩ := bx_cells ((hbd.block _ (lt_of_some HK0c.out)).trans HK0c.out)
      dsimp only at a0 a1 a2 a3
      obtain ⟨ad, e1, hc⟩ := hEx3.times.cells (by decide)
      obtain rfl := Option.some.inj e1
      have k1 : wc.cell? ⟨t0, 1, none⟩ = some (.int .i64 0) := hc 1 (by decide)
      have k2 : wc.cell? ⟨t0, 2, none⟩ = some (.int .i64 6) := hc 2 (by decide)
      have hsv := hEx3.serv
      have p4 : wc.cell? ⟨w1.heap.size, 4, none⟩ = some (.int .i64 0) := cell_of_heap hn3 4 rfl
      have f4 := frozen_of_heap hn3 4
      have h5 : wc.cell? ⟨w.heap.size, 0, none⟩ = some (.slice A0 n0 c0) ∧ wc.cell? ⟨w.heap.size, 1, none⟩ = some (.slice (some ⟨sb, 0, none⟩) 4 c1) ∧ wc.cell? ⟨w.heap.size, 2, none⟩ = some (.slice A2 1 c2) ∧ wc.cell? ⟨w.heap.size, 3, none⟩ = some (.slice A3 n3 c3) ∧ wc.cell? ⟨t0, 1, none⟩ = some (.int .i64 0) ∧ wc.cell? ⟨t0, 2, none⟩ = some (.int .i64 6) ∧ wc.cell? ⟨sb, 8, none⟩ = some (.int .i64 1) ∧ wc.cell? ⟨w1.heap.size, 4, none⟩ = some (cellOr wc ⟨w1.heap.size, 4, none⟩) ∧ wc.frozen? ⟨w1.heap.size, 4, none⟩ = false ∧ Below w1.heap.size wc wc := ⟨a0, a1, a2, a3, k1, k2, hsv, cellOr_some p4, f4, Below.refl _ _⟩
      have H5 := Lib.hid h5
      have hwc : w1.heap.size ≤ wc.heap.size := by omega
      have hw1 : w1.heap.size ≠ w.heap.size := by have := lt_of_some HN0.out; omega
      have ht1 : w1.heap.size ≠ t0 := by omega
      have hs1 : w1.heap.size ≠ sb := by omega
      have hlt5 := lt_of_some hn3
      clear h5 hbd hn3 hEx3 hc e1 p4
      have p4 := H5.out.2.2.2.2.2.2.2.1
      go_upto_region 9 with fail
      go_cut [] (fun wx => ∃ wy, wx = World.setCell wy ⟨w1.heap.size, 4, none⟩ (.int .i64 5) ∧ Below wc.heap.size wc wy)
      case first =>
        go_region_held3 (fun w' => w'.cell? ⟨w.heap.size, 0, none⟩ = some (.slice A0 n0 c0) ∧ w'.cell? ⟨w.heap.size, 1, none⟩ = some (.slice (some ⟨sb, 0, none⟩) 4 c1) ∧ w'.cell? ⟨w.heap.size, 2, none⟩ = some (.slice A2 1 c2) ∧ w'.cell? ⟨w.heap.size, 3, none⟩ = some (.slice A3 n3 c3) ∧ w'.cell? ⟨t0, 1, none⟩ = some (.int .i64 0) ∧ w'.cell? ⟨t0, 2, none⟩ = some (.int .i64 6) ∧ w'.cell? ⟨sb, 8, none⟩ = some (.int .i64 1) ∧ w'.cell? ⟨w1.heap.size, 4, none⟩ = some (cellOr w' ⟨w1.heap.size, 4, none⟩) ∧ w'.frozen? ⟨w1.heap.size, 4, none⟩ = false ∧ Below w1.heap.size wc w')
          (first | assumption | exact keepS hwc H5.out (drewB _) | exact keepS hwc (by assumption) (by assumption) | exact setS _ (Nat.le_refl _) hw1 hw1 hw1 hw1 ht1 ht1 hs1 (by assumption))
          (first | (go_at_call 99; refine (HPK.out _).mono ?_; rintro e w' ⟨rfl, hbX⟩))
        all_goals
          have hbb : Below wc.heap.size wc w' := Below.trans (drewB wc) (by assumption)
          have HBB := Lib.hid hbb
          clear hbb
          go_wp2_with fail
          go_meet
          case rel => exact ⟨w', rfl, HBB.out⟩
      case rest =>
        obtain ⟨wy, hwy, hby⟩ := hcut
        have hn9 : (wy.setCell ⟨w1.heap.size, 4, none⟩ (.int .i64 5)).heap[w1.heap.size]? = some (B60 ⟨1, 0, 0, 6, 5, true⟩) := setBlk ((hby.block _ hlt5).trans HN3c.out) 4 _
        have hr9 : (wy.setCell ⟨w1.heap.size, 4, none⟩ (.int .i64 5)).heap[w.heap.size + 2]? = some Z60 := (Below.heap_setCell wy ⟨w1.heap.size, 4, none⟩ _ _ (by show w.heap.size + 2 ≠ w1.heap.size; have := lt_of_some HN2.out; omega)).trans ((hby.block _ (lt_of_some HRES.out)).trans HRES.out)
        have hb9 : Below w.heap.size w (wy.setCell ⟨w1.heap.size, 4, none⟩ (.int .i64 5)) := (HBD.out.trans (hby.mono (by omega))).setCell (p := ⟨w1.heap.size, 4, none⟩) (by show w.heap.size ≤ w1.heap.size; omega) _
        rw [← hwy] at hn9 hr9 hb9
        have HR9 := Lib.hid hr9
        have HB9 := Lib.hid hb9
        clear hwy hby a0 a1 a2 a3 k1 k2 hsv p4 f4 hb9
        obtain ⟨l0, l1, l2, l3, l4, l5⟩ := b60_cells hn9
        obtain ⟨q0, q1, q2, q3, q4, q5⟩ := z60_cells hr9
        obtain ⟨z0, z1, z2, z3, z4, z5⟩ := z60_frozen hr9
        clear hn9 hr9
        dsimp only at l0 l1 l2 l3 l4 l5
        go_wp2_with fail
        refine bodyPost_ret (v := lnA ⟨1, 0, 0, 6, 5, true⟩) ?_ rfl ?_
        · exact results_cell_row1 (P := Tryd.prog) (fn := Tryd.f100) (p := 6) (ty := 60) rfl _ _ (w.heap.size + 2) 60 #[.int .i64 1, .int .i64 0, .int .i64 0, .int .i64 6, .int .i64 5, .bool true] (0, 0) _ rfl (put6_blk60 HR9.out _ _ _ _ _ _) Tryd.underlying60 rfl (by kernel_rfl)
        · exact ⟨rfl, put6_below HB9.out (by omega) _ _ _ _ _ _⟩

/-- The same where the plan is empty. -/
theorem one_none (x : Xv) (w : World) :
    Calls Tryd.prog 100 #[.agg #[.slice x.A0 x.n0 x.c0, .slice x.A1 x.n1 x.c1, .slice x.A2 x.n2 x.c2, .slice x.A3 x.n3 x.c3], .agg #[.slice none 0 0, .slice none 0 0, .slice none 0 0, .int .i64 0], .int .i64 1] w fun e w' => e = .returned (lnA ⟨1, 0, 0, 0, 0, false⟩) ∧ Below w.heap.size w w' := by
  obtain ⟨W, hW⟩ : ∃ W, W = ((w.alloc (BX x)).alloc (.cells #[.slice none 0 0, .slice none 0 0, .slice none 0 0, .int .i64 0] 27)).alloc Z60 := ⟨_, rfl⟩
  have hbW : Below w.heap.size w W := by rw [hW]; exact (((Below.refl _ _).alloc (Nat.le_refl _) _).alloc (by simp) _).alloc (by simp; omega) _
  have hn1 : W.heap[w.heap.size + 1]? = some (.cells #[.slice none 0 0, .slice none 0 0, .slice none 0 0, .int .i64 0] 27 (0, 0)) := by
    rw [hW]
    have h := heap_alloc_new (w.alloc (BX x)) (.cells #[.slice none 0 0, .slice none 0 0, .slice none 0 0, .int .i64 0] 27)
    rw [show (w.alloc (BX x)).heap.size = w.heap.size + 1 by simp] at h
    exact (((Below.refl ((w.alloc (BX x)).alloc (.cells #[.slice none 0 0, .slice none 0 0, .slice none 0 0, .int .i64 0] 27)).heap.size _).alloc (Nat.le_refl _) _).block _ (by simp)).trans h
  have hn2 : W.heap[w.heap.size + 2]? = some Z60 := by
    rw [hW]
    have h := heap_alloc_new ((w.alloc (BX x)).alloc (.cells #[.slice none 0 0, .slice none 0 0, .slice none 0 0, .int .i64 0] 27)) Z60
    rw [show ((w.alloc (BX x)).alloc (.cells #[.slice none 0 0, .slice none 0 0, .slice none 0 0, .int .i64 0] 27)).heap.size = w.heap.size + 2 by simp] at h
    exact h
  have HW := Lib.hid hW
  have HBW := Lib.hid hbW
  have HN2 := Lib.hid hn2
  have b0 : W.cell? ⟨w.heap.size + 1, 0, none⟩ = some (.slice none 0 0) := cell_of_heap hn1 0 rfl
  obtain ⟨q0, q1, q2, q3, q4, q5⟩ := z60_cells hn2
  obtain ⟨z0, z1, z2, z3, z4, z5⟩ := z60_frozen hn2
  clear hW hbW hn1 hn2
  go_enter Tryd.func100, Tryd.ntmps100
  go_upto_region 1 with fail
  rw [show ((w.alloc (.cells #[.slice x.A0 x.n0 x.c0, .slice x.A1 x.n1 x.c1, .slice x.A2 x.n2 x.c2, .slice x.A3 x.n3 x.c3] 114)).alloc (.cells #[.slice none 0 0, .slice none 0 0, .slice none 0 0, .int .i64 0] 27)).alloc (.cells #[.int .i64 0, .int .i64 0, .int .i64 0, .int .i64 0, .int .i64 0, .bool false] 60) = W from HW.out.symm]
  go_wp2_with fail
  refine wp_loop_rounds 1 ?_
  rw [rounds_succ]
  go_wp2_with fail
  refine bodyPost_ret (v := lnA ⟨1, 0, 0, 0, 0, false⟩) ?_ rfl ?_
  · exact results_cell_row1 (P := Tryd.prog) (fn := Tryd.f100) (p := 6) (ty := 60) rfl _ _ (w.heap.size + 2) 60 #[.int .i64 1, .int .i64 0, .int .i64 0, .int .i64 0, .int .i64 0, .bool false] (0, 0) _ rfl (put6_blk60 HN2.out _ _ _ _ _ _) Tryd.underlying60 rfl (by kernel_rfl)
  · exact ⟨rfl, put6_below HBW.out (by omega) _ _ _ _ _ _⟩
end Go.Proofs.YtdgifgdadminbaaDoor

/-! ### T9 -/
set_option linter.unusedSimpArgs false
set_option linter.unusedVariables false
set_option maxRecDepth 100000
namespace Go.Proofs.YtdgifgdadminbaaDoor
open Go.RowKit Go.Proofs.YtdgifgdadminbaaDoorW.PrintWords Sp Go.Sort
open PFileParses (wrap_id ba_len bt_nat toList_data info3 info2 info9)

theorem two_list {zs : List Int} (h : zs = [1, 9] ∨ zs = [1]) : zs.mergeSort (fun x y => decide (x ≤ y)) = zs ∧ Lib.compact zs = zs ∧ zs.length ≤ 2 ∧ 0 < zs.length ∧ (∀ k (hk : k < zs.length), zs[k]'hk = if k = 0 then 1 else 9) := by
  rcases h with rfl | rfl
  · refine ⟨List.mergeSort_of_pairwise (by decide), by decide, by decide, by decide, ?_⟩
    intro k hk
    match k, hk with
    | 0, _ => rfl
    | 1, _ => rfl
  · refine ⟨List.mergeSort_of_pairwise (by decide), by decide, by decide, by decide, ?_⟩
    intro k hk
    match k, hk with
    | 0, _ => rfl
/-- What the round needs. -/
structure OfSt (w : World) (x : Xv) (pv : Array Value) (g : Nat) (zs : List Int) (b : Nat) (wr : World) : Prop where
  box : wr.heap[b]? = some (BX x)
  plan : wr.heap[b + 1]? = some (.cells pv 27 (0, 0))
  row : ∀ j (h : j < zs.length), wr.cell? ⟨g, j, none⟩ = some (.int .i64 (zs[j]'h))
theorem OfSt.below {w : World} {x : Xv} {pv : Array Value} {g : Nat} {zs : List Int} {b : Nat} {wr wr' : World} (h : OfSt w x pv g zs b wr) (hb : Below wr.heap.size wr wr') : OfSt w x pv g zs b wr' :=
  ⟨(hb.block _ (lt_of_some h.box)).trans h.box, (hb.block _ (lt_of_some h.plan)).trans h.plan, fun j hj => cell_below (h.row j hj) hb⟩
theorem holds_mine {w : World} {g : Nat} {cur : Array Value} {t : TypeId} {zs : List Int} (hb : w.heap[g]? = some (.cells cur t (0, 0))) (ht : cur.toList.take zs.length = zs.map (Value.int .i64)) : Holds (Value.int .i64) w g 0 zs.toArray := by
  intro j hj
  have hj' : j < zs.length := by simpa using hj
  refine ⟨?_, frozen_of_heap hb _⟩
  rw [Nat.zero_add]
  refine cell_of_heap hb j ?_
  have h1 : (cur.toList.take zs.length)[j]? = (zs.map (Value.int .i64))[j]? := by rw [ht]
  rw [List.getElem?_take_of_lt hj'] at h1
  simpa [hj'] using h1
theorem row_of_holds {w : World} {g : Nat} {zs : List Int} (h : Holds (Value.int .i64) w g 0 zs.toArray) : ∀ j (hj : j < zs.length), w.cell? ⟨g, j, none⟩ = some (.int .i64 (zs[j]'hj)) := by
  intro j hj
  have := (h j (by simpa using hj)).1
  rw [Nat.zero_add] at this
  rw [this]
  simp [hj]

set_option maxHeartbeats 8000000 in
theorem of_c (x : Xv) (hx : x.n2 = 1) (P0 : Option Addr) (m0 d0 : Nat) (P1 : Option Addr) (m1 d1 : Nat) (l : Ln) (zs : List Int) (hz : zs = [1, 9] ∨ zs = [1]) (lb cap : Nat) (w : World)
    (hl : ∀ j, j < zs.length → w.cell? ⟨lb, 0 + j, none⟩ = some (.int .i64 (zs.getD j 0)))
    (h1 : ∀ w', Below w.heap.size w w' → Calls Tryd.prog 100 #[.agg #[.slice x.A0 x.n0 x.c0, .slice x.A1 x.n1 x.c1, .slice x.A2 x.n2 x.c2, .slice x.A3 x.n3 x.c3], .agg #[.slice P0 m0 d0, .slice P1 m1 d1, .slice none 0 0, .int .i64 0], .int .i64 1] w' fun e w'' => e = .returned (lnA l) ∧ Below w'.heap.size w' w'') :
    Calls Tryd.prog 61 #[.agg #[.slice x.A0 x.n0 x.c0, .slice x.A1 x.n1 x.c1, .slice x.A2 x.n2 x.c2, .slice x.A3 x.n3 x.c3], .agg #[.slice P0 m0 d0, .slice P1 m1 d1, .slice none 0 0, .int .i64 0], .slice (some ⟨lb, 0, none⟩) zs.length cap] w fun e w' => ∃ v, e = .returned v ∧ Kd.R kln 60 w' w.heap.size (fun _ => True) v [l] ∧ Below w.heap.size w w' := by
  obtain ⟨W, hW⟩ : ∃ W, W = (w.alloc (BX x)).alloc (.cells #[.slice P0 m0 d0, .slice P1 m1 d1, .slice none 0 0, .int .i64 0] 27) := ⟨_, rfl⟩
  have hbW : Below w.heap.size w W := by rw [hW]; exact ((Below.refl _ _).alloc (Nat.le_refl _) _).alloc (by simp) _
  have hn0 : W.heap[w.heap.size]? = some (BX x) := by
    rw [hW]
    exact (((Below.refl (w.alloc (BX x)).heap.size _).alloc (Nat.le_refl _) _).block _ (by simp)).trans (heap_alloc_new w (BX x))
  have hn1 : W.heap[w.heap.size + 1]? = some (.cells #[.slice P0 m0 d0, .slice P1 m1 d1, .slice none 0 0, .int .i64 0] 27 (0, 0)) := by
    rw [hW]
    have h := heap_alloc_new (w.alloc (BX x)) (.cells #[.slice P0 m0 d0, .slice P1 m1 d1, .slice none 0 0, .int .i64 0] 27)
    rw [show (w.alloc (BX x)).heap.size = w.heap.size + 1 by simp] at h
    exact h
  obtain ⟨hso, hco, hle, hpos, hat⟩ := two_list hz
  have hcl := Tryd.slices_Clone_int lb 0 zs.length cap zs W (Nat.le_refl _) (by omega) (fun j hj => cell_below (hl j hj) hbW)
  rw [List.take_length] at hcl
  have hpk := fun q w' => pick_c x q w'
  have hp1 : pickX x.n2 1 = 1 := by rw [hx]; rfl
  have hp9 : pickX x.n2 9 = 0 := by rw [hx]; rfl
  have HW := Lib.hid hW
  have HBW := Lib.hid hbW
  have HN0 := Lib.hid hn0
  have HN1 := Lib.hid hn1
  have HCL := Lib.hid hcl
  have HSO := Lib.hid hso
  have HCO := Lib.hid hco
  have HAT := Lib.hid hat
  have HP1 := Lib.hid hp1
  have HP9 := Lib.hid hp9
  have HPK := Lib.hid hpk
  have H1 := Lib.hid h1
  clear hW hbW hn0 hn1 hcl hso hco hat hp1 hp9 hpk h1 hl hx hz
  go_enter Tryd.func61, Tryd.ntmps61
  go_upto_region 1 with fail
  rw [show (w.alloc (.cells #[.slice x.A0 x.n0 x.c0, .slice x.A1 x.n1 x.c1, .slice x.A2 x.n2 x.c2, .slice x.A3 x.n3 x.c3] 114)).alloc (.cells #[.slice P0 m0 d0, .slice P1 m1 d1, .slice none 0 0, .int .i64 0] 27) = W from HW.out.symm]
  go_wp2_with fail
  refine HCL.out.mono ?_
  rintro e w1 ⟨v', rfl, hrow, hnn, hb1⟩
  obtain ⟨g, cp, cur, rfl, hbase, hcur, q1, q2, q3, q4⟩ : ∃ g cp cur, v' = .slice (some ⟨g, 0, none⟩) zs.length cp ∧ W.heap.size ≤ g ∧ w1.heap[g]? = some (.cells cur 3 (0, 0)) ∧ zs.length ≤ cp ∧ cp ≤ maxLen ∧ cur.size = cp * 1 ∧ cur.toList.take zs.length = zs.map (Value.int .i64) := by
    rcases hrow.2 with ⟨hnil, _⟩ | ⟨g, cap, cur, e1, hbase, hb, h1, h2, h3, h4⟩
    · exact absurd hnil hnn
    · exact ⟨g, cap, cur, e1, hbase, hb, h1, h2, h3, by simpa using h4⟩
  have hH := holds_mine hcur q4
  have hgl := (Array.getElem?_eq_some_iff.1 hcur).1
  have hsr := Tryd.slices_Sort_int g 0 cp zs w1 hH hgl (by omega)
  rw [HSO.out] at hsr
  have HSR := Lib.hid hsr
  have HH := Lib.hid hH
  have HB1 := Lib.hid hb1
  clear hsr hH hb1 hrow hnn hcur q2 q3 q4 HCL
  go_wp2_with fail
  refine HSR.out.mono ?_
  rintro e w2 ⟨rfl, nn, os, hw2⟩
  rw [putRow_ahead, putRow_self _ _ _ _ _ HH.out] at hw2
  have hb2 : Below w1.heap.size w1 w2 := by rw [hw2]; exact Lib.below_grow _ _ (Nat.le_refl _) _ _
  have hH2 : Holds (Value.int .i64) w2 g 0 zs.toArray := fun j hj => ⟨cell_below (HH.out j hj).1 hb2, (hb2.frozen hgl).trans (HH.out j hj).2⟩
  have hcp := Tryd.slices_Compact_int g 0 cp zs w2 hH2 (by omega) q1
  rw [HCO.out] at hcp
  have HCP := Lib.hid hcp
  have HH2 := Lib.hid hH2
  have HB2 := Lib.hid (HB1.out.trans (hb2.mono HB1.out.size))
  clear hw2 hb2 hH2 hcp HSR
  go_wp2_with fail
  refine HCP.out.mono ?_
  rintro e w3 ⟨rfl, qq, hw3⟩
  rw [Nat.sub_self, List.replicate_zero, List.append_nil, putRow_ahead, putRow_self _ _ _ _ _ HH2.out] at hw3
  have hb3 : Below w2.heap.size w2 w3 := by
    rw [hw3]
    exact pw_below_drewN (Below.refl _ _) qq
  have hbw3 := HB2.out.trans (hb3.mono HB2.out.size)
  have hst : OfSt w x #[.slice P0 m0 d0, .slice P1 m1 d1, .slice none 0 0, .int .i64 0] g zs w.heap.size w3 :=
    ⟨(hbw3.block _ (lt_of_some HN0.out)).trans HN0.out, (hbw3.block _ (lt_of_some HN1.out)).trans HN1.out, fun j hj => cell_below (row_of_holds HH2.out j hj) hb3⟩
  have HST := Lib.hid hst
  have HB3 := Lib.hid (HBW.out.trans (hbw3.mono HBW.out.size))
  have hz3 := HB3.out.size
  clear hw3 hb3 hbw3 hst HCP HH HH2
  go_wp2_with fail
  go_loopw [8, 18] (fun out i wr => ∃ k : Nat, k ≤ zs.length ∧ i = .int .i64 k ∧ Kd.R kln 60 wr w3.heap.size (fun _ => True) out (if k = 0 then [] else [l]) ∧ Below w3.heap.size w3 wr) (fun _ i _ => zs.length - (intOf i).toNat)
  case atStart => exact ⟨0, Nat.zero_le _, rfl, by rw [if_pos rfl]; exact Kd.R_nil _ _ _ _ _, Below.refl _ _⟩
  case round =>
    obtain ⟨k, hk, rfl, hO, hB3⟩ := hrel
    have hst := HST.out.below hB3
    have hB := HB3.out.trans (hB3.mono hz3)
    have HO := Lib.hid hO
    have HS := Lib.hid hst
    have HB := Lib.hid hB
    have HBR := Lib.hid hB3
    have hzr := hB.size
    have hzr3 := hB3.size
    obtain ⟨a0, a1, a2, a3⟩ := bx_cells hst.box
    clear hO hst hB hB3
    by_cases hlt : k < zs.length
    · have hc := HS.out.row k hlt
      rw [HAT.out k hlt] at hc
      by_cases hk0 : k = 0
      · subst hk0
        rw [if_pos rfl] at hc HO
        have hpk := HPK.out 1 wr
        rw [HP1.out] at hpk
        have HPQ := Lib.hid hpk
        clear hpk
        go_wp2_with fail
        refine HPQ.out.mono ?_
        rintro e w4 ⟨rfl, hb4⟩
        have hs4 := HS.out.below hb4
        have HS4 := Lib.hid hs4
        have HB4 := Lib.hid (HB.out.trans (hb4.mono hzr))
        have HBR4 := Lib.hid (HBR.out.trans (hb4.mono hzr3))
        have HO4 := Lib.hid (Kd.R_below HO.out hb4)
        clear a0 a1 a2 a3 hb4 hc
        obtain ⟨a0, a1, a2, a3⟩ := bx_cells hs4.box
        have b0 : w4.cell? ⟨w.heap.size + 1, 0, none⟩ = some (.slice P0 m0 d0) := cell_of_heap hs4.plan 0 rfl
        have b1 : w4.cell? ⟨w.heap.size + 1, 1, none⟩ = some (.slice P1 m1 d1) := cell_of_heap hs4.plan 1 rfl
        have b2 : w4.cell? ⟨w.heap.size + 1, 2, none⟩ = some (.slice none 0 0) := cell_of_heap hs4.plan 2 rfl
        have b3 : w4.cell? ⟨w.heap.size + 1, 3, none⟩ = some (.int .i64 0) := cell_of_heap hs4.plan 3 rfl
        clear hs4
        have ho := H1.out w4 HB4.out
        have HON := Lib.hid ho
        clear ho
        go_wp2_with fail
        refine HON.out.mono ?_
        rintro e w5 ⟨rfl, hb5⟩
        have HB5 := Lib.hid (HBR4.out.trans (hb5.mono HBR4.out.size))
        have HO5 := Lib.hid (Kd.R_below HO4.out hb5)
        have HM := Lib.hid (kln_mkM w5 w3.heap.size (fun _ => False) l)
        have HK : Hid (∀ k, False → True ∧ some k ≠ u8.ownBlock) := Lib.hid (fun k h => h.elim)
        have hz5 := HB5.out.size
        clear hb5 a0 a1 a2 a3 b0 b1 b2 b3
        unfold lnA
        go_wp2_with (first | ((with_reducible refine gate_builtin (b := .append) (xs := #[.tmp 26, .tmp 31]) rfl ?_); at_builtin; refine Kd.R_append kln (w0 := w3) w3.heap.size rfl (.tmp 26) (.tmp 31) 58 60 (.agg #[.int .i64 0, .int .i64 0, .int .i64 0, .int .i64 0, .int .i64 0, .bool false]) 48 rfl Tryd.underlying58 info60 rfl (by decide) (by decide) u8 [] l [.int .i64 l.f0, .int .i64 l.f1, .int .i64 l.f2, .int .i64 l.f3, .int .i64 l.f4, .bool l.f5] (fun _ => True) (fun _ => False) rfl rfl HM.out HK.out (fun _ _ => trivial) HO5.out HB5.out (by omega) (by simp) ?_; intro v1 w13 ho hb hg hat; have n0_ := Lib.hid hb; have n1_ := Lib.hid ho; have n2_ := Lib.hid hg; clear ho hb hg hat))
        go_roundw
        case rel => exact ⟨1, by omega, rfl, by rw [if_neg (by decide)]; exact n1_.out, n0_.out⟩
        case measure => (simp [intOf]; omega)
      · rw [if_neg hk0] at hc
        have hpk := HPK.out 9 wr
        rw [HP9.out] at hpk
        have HPQ := Lib.hid hpk
        have HK0 := Lib.hid hk0
        clear hpk hk0
        go_wp2_with fail
        refine HPQ.out.mono ?_
        rintro e w4 ⟨rfl, hb4⟩
        have HBR4 := Lib.hid (HBR.out.trans (hb4.mono hzr3))
        have ho4 := Kd.R_below HO.out hb4
        rw [if_neg HK0.out] at ho4
        have HO4 := Lib.hid ho4
        clear a0 a1 a2 a3 hb4 hc ho4
        go_wp2_with fail
        go_roundw
        case rel => exact ⟨k + 1, by omega, by go_num, by rw [if_neg (by omega)]; exact HO4.out, HBR4.out⟩
        case measure => (simp [intOf]; omega)
    · have hke : k = zs.length := by omega
      have hk0 : k ≠ 0 := by omega
      have ho4 := HO.out
      rw [if_neg hk0] at ho4
      subst hke
      have HO4 := Lib.hid ho4
      clear ho4 hk0
      go_wp2_with fail
      go_ret
      exact ⟨_, rfl, Kd.R_lower HO4.out hz3, HB.out⟩
end Go.Proofs.YtdgifgdadminbaaDoor

/-! ### Ta -/
set_option linter.unusedSimpArgs false
set_option linter.unusedVariables false
set_option maxRecDepth 100000
namespace Go.Proofs.YtdgifgdadminbaaDoor
open Go.RowKit Go.Proofs.YtdgifgdadminbaaDoorW.PrintWords Sp
open PFileParses (wrap_id ba_len bt_nat toList_data info3 info2 info9)

def xSample (sb rb : Nat) : Xv := ⟨none, 0, 0, some ⟨sb, 0, none⟩, 4, 4, some ⟨rb, 0, none⟩, 1, 1, none, 0, 0⟩
def oX (n : Nat) : Obj := .cells #[.slice none 0 0, .slice (some ⟨n + 1 + 1, 0, none⟩) 4 4, .slice (some ⟨n + 1, 0, none⟩) 1 1, .slice none 0 0] 114 (0, 0)
def oR : Obj := .cells #[.int .i64 20] 2 (0, 0)
def oS : Obj := .cells #[.int .i64 0, .int .i64 0, .int .i64 0, .int .i64 0, .int .i64 0, .complex .f64 0 0, .int .i64 0, .int .i64 0, .int .i64 1, .int .i64 0, .int .i64 0, .complex .f64 0 0, .int .i64 0, .int .i64 0, .int .i64 0, .int .i64 0, .int .i64 0, .complex .f64 0 0, .int .i64 0, .int .i64 0, .int .i64 0, .int .i64 0, .int .i64 0, .complex .f64 0 0] 156 (0, 0)
theorem sample_mem (w : World) : (((w.alloc (oX w.heap.size)).alloc oR).alloc oS).heap[w.heap.size]? = some (oX w.heap.size) ∧ (((w.alloc (oX w.heap.size)).alloc oR).alloc oS).heap[w.heap.size + 1 + 1]? = some oS ∧ Below w.heap.size w (((w.alloc (oX w.heap.size)).alloc oR).alloc oS) := by
  refine ⟨?_, ?_, (((Below.refl _ _).alloc (Nat.le_refl _) _).alloc (by simp) _).alloc (by simp; omega) _⟩
  · exact ((((Below.refl (w.alloc (oX w.heap.size)).heap.size _).alloc (Nat.le_refl _) _).alloc (by simp) _).block _ (by simp)).trans (heap_alloc_new w _)
  · have h := heap_alloc_new ((w.alloc (oX w.heap.size)).alloc oR) oS
    rw [show ((w.alloc (oX w.heap.size)).alloc oR).heap.size = w.heap.size + 1 + 1 by simp] at h
    exact h
theorem sample_c (w : World) : Calls Tryd.prog 62 #[] w fun e w' => ∃ sb rb, e = .returned (.agg #[.slice none 0 0, .slice (some ⟨sb, 0, none⟩) 4 4, .slice (some ⟨rb, 0, none⟩) 1 1, .slice none 0 0]) ∧ w'.cell? ⟨sb, 8, none⟩ = some (.int .i64 1) ∧ Below w.heap.size w w' := by
  obtain ⟨h1, h2, h3⟩ := sample_mem w
  have H1 := Lib.hid h1
  have H2 := Lib.hid h2
  have H3 := Lib.hid h3
  clear h1 h2 h3
  go_enter Tryd.func62, Tryd.ntmps62
  go_wp2_with fail
  refine bodyPost_ret (v := .agg #[.slice none 0 0, .slice (some ⟨w.heap.size + 1 + 1, 0, none⟩) 4 4, .slice (some ⟨w.heap.size + 1, 0, none⟩) 1 1, .slice none 0 0]) ?_ rfl ?_
  · exact results_cell_row1 (P := Tryd.prog) (fn := Tryd.f62) (p := 0) (ty := 114) rfl _ _ w.heap.size 114 #[.slice none 0 0, .slice (some ⟨w.heap.size + 1 + 1, 0, none⟩) 4 4, .slice (some ⟨w.heap.size + 1, 0, none⟩) 1 1, .slice none 0 0] (0, 0) _ rfl H1.out Tryd.underlying114 rfl (by kernel_rfl)
  · exact ⟨_, _, rfl, cell_of_heap H2.out 8 rfl, H3.out⟩

/-- The example's plan in memory. -/
structure Pm (n : Nat) (w : World) : Prop where
  r0 : w.heap[n]? = some (.cells #[.int .i64 0, .int .i64 1, .int .i64 2, .int .i64 3] 3 (0, 0))
  rr : w.heap[n + 1]? = some (.cells #[.slice (some ⟨n, 0, none⟩) 4 4] 25 (0, 0))
  t0 : w.heap[n + 1 + 1]? = some (.cells #[.int .i64 0, .int .i64 0, .int .i64 6, .int .i64 12] 2 (0, 0))
  tt : w.heap[n + 1 + 1 + 1]? = some (.cells #[.slice (some ⟨n + 1 + 1, 0, none⟩) 4 4] 61 (0, 0))
  p : w.heap[n + 1 + 1 + 1 + 1]? = some (BP (n + 1) (n + 1 + 1 + 1))
theorem Pm.below {n : Nat} {w w' : World} (h : Pm n w) (hb : Below w.heap.size w w') : Pm n w' :=
  ⟨(hb.block _ (lt_of_some h.r0)).trans h.r0, (hb.block _ (lt_of_some h.rr)).trans h.rr, (hb.block _ (lt_of_some h.t0)).trans h.t0, (hb.block _ (lt_of_some h.tt)).trans h.tt, (hb.block _ (lt_of_some h.p)).trans h.p⟩
theorem old_alloc {w : World} {k : Nat} {o : Obj} (h : w.heap[k]? = some o) (o' : Obj) : (w.alloc o').heap[k]? = some o := (((Below.refl w.heap.size w).alloc (Nat.le_refl _) o').block _ (lt_of_some h)).trans h
theorem new_alloc {w : World} {n : Nat} (h : w.heap.size = n) (o : Obj) : (w.alloc o).heap[n]? = some o := h ▸ heap_alloc_new w o
theorem size_alloc {w : World} {n : Nat} (h : w.heap.size = n) (o : Obj) : (w.alloc o).heap.size = n + 1 := by rw [← h]; simp
def o0 : Obj := .cells #[.int .i64 0, .int .i64 1, .int .i64 2, .int .i64 3] 3 (0, 0)
def o1 (n : Nat) : Obj := .cells #[.slice (some ⟨n, 0, none⟩) 4 4] 25 (0, 0)
def o2 : Obj := .cells #[.int .i64 0, .int .i64 0, .int .i64 6, .int .i64 12] 2 (0, 0)
def o3 (n : Nat) : Obj := .cells #[.slice (some ⟨n + 1 + 1, 0, none⟩) 4 4] 61 (0, 0)
def wP (w : World) : World := ((((w.alloc o0).alloc (o1 w.heap.size)).alloc o2).alloc (o3 w.heap.size)).alloc (BP (w.heap.size + 1) (w.heap.size + 1 + 1 + 1))
theorem pm_start (w : World) : Pm w.heap.size (wP w) ∧ Below w.heap.size w (wP w) := by
  obtain ⟨n, hn⟩ : ∃ n, w.heap.size = n := ⟨_, rfl⟩
  have s1 := size_alloc hn o0
  have s2 := size_alloc s1 (o1 n)
  have s3 := size_alloc s2 o2
  have s4 := size_alloc s3 (o3 n)
  unfold wP
  rw [hn]
  refine ⟨⟨old_alloc (old_alloc (old_alloc (old_alloc (new_alloc hn o0) _) _) _) _, old_alloc (old_alloc (old_alloc (new_alloc s1 (o1 n)) _) _) _, old_alloc (old_alloc (new_alloc s2 o2) _) _, old_alloc (new_alloc s3 (o3 n)) _, new_alloc s4 _⟩, ?_⟩
  rw [← hn] at s1 s2 s3 s4 ⊢
  exact (((((Below.refl _ _).alloc (Nat.le_refl _) _).alloc (by omega) _).alloc (by omega) _).alloc (by omega) _).alloc (by omega) _
theorem row4 {w : World} {b : Nat} {t : TypeId} (x0 x1 x2 x3 : Int) (h : w.heap[b]? = some (.cells #[.int .i64 x0, .int .i64 x1, .int .i64 x2, .int .i64 x3] t (0, 0))) : Row w (some ⟨b, 0, none⟩) 4 [x0, x1, x2, x3] := by
  refine ⟨rfl, by decide, fun j hj => ⟨_, rfl, ?_⟩⟩
  have e : (⟨b, 0, none⟩ : Addr).add j = ⟨b, j, none⟩ := by cases j <;> simp [Addr.add]
  rw [e]
  match j, hj with
  | 0, _ => exact cell_of_heap h 0 rfl
  | 1, _ => exact cell_of_heap h 1 rfl
  | 2, _ => exact cell_of_heap h 2 rfl
  | 3, _ => exact cell_of_heap h 3 rfl
theorem exm_of {n sb rb : Nat} {w : World} (h : Pm n w) (hs : w.cell? ⟨sb, 8, none⟩ = some (.int .i64 1)) : Exm (xSample sb rb) (n + 1) n (n + 1 + 1 + 1) (n + 1 + 1) sb w :=
  ⟨rfl, rfl, rfl, hs, cell_of_heap h.rr 0 rfl, row4 0 1 2 3 h.r0, cell_of_heap h.tt 0 rfl, row4 0 0 6 12 h.t0⟩
def lA : Ln := ⟨1, 0, 0, 6, 5, true⟩
def lB : Ln := ⟨1, 0, 0, 0, 0, false⟩
theorem ofA (n sb rb lb : Nat) (w : World) (h : Pm n w) (hs : w.cell? ⟨sb, 8, none⟩ = some (.int .i64 1)) (hl : w.cell? ⟨lb, 0, none⟩ = some (.int .i64 1) ∧ w.cell? ⟨lb, 1, none⟩ = some (.int .i64 9)) :
    Calls Tryd.prog 61 #[.agg #[.slice none 0 0, .slice (some ⟨sb, 0, none⟩) 4 4, .slice (some ⟨rb, 0, none⟩) 1 1, .slice none 0 0], .agg #[.slice (some ⟨n + 1, 0, none⟩) 1 1, .slice (some ⟨n + 1 + 1 + 1, 0, none⟩) 1 1, .slice none 0 0, .int .i64 0], .slice (some ⟨lb, 0, none⟩) 2 2] w fun e w' => ∃ v, e = .returned v ∧ Kd.R kln 60 w' w.heap.size (fun _ => True) v [lA] ∧ Below w.heap.size w w' :=
  of_c (xSample sb rb) rfl _ _ _ _ _ _ lA [1, 9] (.inl rfl) lb 2 w (fun j hj => by
    match j, hj with
    | 0, _ => exact hl.1
    | 1, _ => exact hl.2) (fun w' hb => one_p (xSample sb rb) _ _ _ _ sb w' ((exm_of h hs).below hb))
theorem ofB (sb rb lb : Nat) (w : World) (hl : w.cell? ⟨lb, 0, none⟩ = some (.int .i64 1)) :
    Calls Tryd.prog 61 #[.agg #[.slice none 0 0, .slice (some ⟨sb, 0, none⟩) 4 4, .slice (some ⟨rb, 0, none⟩) 1 1, .slice none 0 0], .agg #[.slice none 0 0, .slice none 0 0, .slice none 0 0, .int .i64 0], .slice (some ⟨lb, 0, none⟩) 1 1] w fun e w' => ∃ v, e = .returned v ∧ Kd.R kln 60 w' w.heap.size (fun _ => True) v [lB] ∧ Below w.heap.size w w' :=
  of_c (xSample sb rb) rfl _ _ _ _ _ _ lB [1] (.inr rfl) lb 1 w (fun j hj => by
    match j, hj with
    | 0, _ => exact hl) (fun w' hb => one_none (xSample sb rb) w')

theorem armA {n sb rb : Nat} {W wS : World} (h : Pm n W) (hb : Below W.heap.size W wS) (hs : wS.cell? ⟨sb, 8, none⟩ = some (.int .i64 1)) :
    Calls Tryd.prog 61 #[.agg #[.slice none 0 0, .slice (some ⟨sb, 0, none⟩) 4 4, .slice (some ⟨rb, 0, none⟩) 1 1, .slice none 0 0], .agg #[.slice (some ⟨n + 1, 0, none⟩) 1 1, .slice (some ⟨n + 1 + 1 + 1, 0, none⟩) 1 1, .slice none 0 0, .int .i64 0], .slice (some ⟨wS.heap.size, 0, none⟩) 2 2] (wS.alloc (.cells #[.int .i64 1, .int .i64 9] 3)) fun e w' => ∃ v, e = .returned v ∧ Kd.R kln 60 w' W.heap.size (fun _ => True) v [lA] ∧ Below W.heap.size W w' := by
  have hb2 := hb.alloc hb.size (.cells #[.int .i64 1, .int .i64 9] 3)
  refine (ofA n sb rb wS.heap.size _ (h.below hb2) (cell_below hs ((Below.refl _ _).alloc (Nat.le_refl _) _)) ⟨cell_of_heap (heap_alloc_new wS _) 0 rfl, cell_of_heap (heap_alloc_new wS _) 1 rfl⟩).mono ?_
  rintro e w' ⟨v, he, hr, hb3⟩
  exact ⟨v, he, Kd.R_lower hr hb2.size, hb2.trans (hb3.mono hb2.size)⟩
theorem armB {n sb rb : Nat} {W wS : World} (h : Pm n W) (hb : Below (W.alloc (.cells #[.int .i64 1, .int .i64 9] 3)).drew.heap.size (W.alloc (.cells #[.int .i64 1, .int .i64 9] 3)).drew wS) (hs : wS.cell? ⟨sb, 8, none⟩ = some (.int .i64 1)) :
    Calls Tryd.prog 61 #[.agg #[.slice none 0 0, .slice (some ⟨sb, 0, none⟩) 4 4, .slice (some ⟨rb, 0, none⟩) 1 1, .slice none 0 0], .agg #[.slice (some ⟨n + 1, 0, none⟩) 1 1, .slice (some ⟨n + 1 + 1 + 1, 0, none⟩) 1 1, .slice none 0 0, .int .i64 0], .slice (some ⟨W.heap.size, 0, none⟩) 2 2] wS fun e w' => ∃ v, e = .returned v ∧ Kd.R kln 60 w' W.heap.size (fun _ => True) v [lA] ∧ Below W.heap.size W w' := by
  have h0 : Below W.heap.size W (W.alloc (.cells #[.int .i64 1, .int .i64 9] 3)).drew := ((Below.refl _ _).alloc (Nat.le_refl _) _).drew
  have hb2 := h0.trans (hb.mono h0.size)
  have hn : (W.alloc (.cells #[.int .i64 1, .int .i64 9] 3)).drew.heap[W.heap.size]? = some (.cells #[.int .i64 1, .int .i64 9] 3 (0, 0)) := heap_alloc_new W _
  have hn2 := (hb.block _ (lt_of_some hn)).trans hn
  refine (ofA n sb rb W.heap.size _ (h.below hb2) hs ⟨cell_of_heap hn2 0 rfl, cell_of_heap hn2 1 rfl⟩).mono ?_
  rintro e w' ⟨v, he, hr, hb3⟩
  exact ⟨v, he, Kd.R_lower hr hb2.size, hb2.trans (hb3.mono hb2.size)⟩

theorem parseT_ok {s : ByteArray} {ls : List Ln} (h : parseT s = .ok ls) (w : World) (hE : Env w) (hs : s.size < 4294967281) :
    Calls Tryd.prog 29 #[.string s] w fun e w' => ∃ v, e = .returned (.tuple #[v, .int .i64 0, .int .i64 0]) ∧ Kd.R kln 60 w' w.heap.size (fun _ => True) v ls ∧ Below w.heap.size w w' := by
  refine (parseT_c s w hE hs).mono ?_
  intro e w' hq
  unfold parseTQ at hq
  rw [h] at hq
  exact hq
theorem parseT_err {s : ByteArray} {x : Int × Int} (h : parseT s = .error x) (w : World) (hE : Env w) (hs : s.size < 4294967281) :
    Calls Tryd.prog 29 #[.string s] w fun e w' => e = .returned (.tuple #[.slice none 0 0, .int .i64 x.1, .int .i64 x.2]) ∧ Below w.heap.size w w' := by
  refine (parseT_c s w hE hs).mono ?_
  intro e w' hq
  unfold parseTQ at hq
  rw [h] at hq
  exact hq
def lC : Ln := ⟨2, 0, 0, 0, 0, false⟩
theorem printA : printT [lA] = [49, 32, 48, 32, 48, 32, 54, 32, 53, 10] := by
  have i0 : Lib.itoa 0 = [48] := itoaV_small 0 (by decide) (by decide)
  have i1 : Lib.itoa 1 = [49] := itoaV_small 1 (by decide) (by decide)
  have i5 : Lib.itoa 5 = [53] := itoaV_small 5 (by decide) (by decide)
  have i6 : Lib.itoa 6 = [54] := itoaV_small 6 (by decide) (by decide)
  show lineB (Lib.itoa 1) [Lib.itoa 0, Lib.itoa 0, Lib.itoa 6, Lib.itoa 5] ++ [10] ++ [] = _
  rw [i0, i1, i5, i6]
  rfl
theorem printB : printT [lB] = [49, 32, 117, 110, 115, 101, 114, 118, 101, 100, 10] := by
  have i1 : Lib.itoa 1 = [49] := itoaV_small 1 (by decide) (by decide)
  show lineB (Lib.itoa 1) [bUn] ++ [10] ++ [] = _
  rw [i1]
  rfl
theorem fit_one {l : Ln} (h0 : I64 l.f0) (h1 : I64 l.f1) (h2 : I64 l.f2) (h3 : I64 l.f3) (h4 : I64 l.f4) : ∀ d ∈ [l], FitT d := fun d hd => by rw [List.mem_singleton.1 hd]; exact ⟨h0, h1, h2, h3, h4⟩
theorem fitA : ∀ d ∈ [lA], FitT d := fit_one ⟨by decide, by decide⟩ ⟨by decide, by decide⟩ ⟨by decide, by decide⟩ ⟨by decide, by decide⟩ ⟨by decide, by decide⟩
theorem fitB : ∀ d ∈ [lB], FitT d := fit_one ⟨by decide, by decide⟩ ⟨by decide, by decide⟩ ⟨by decide, by decide⟩ ⟨by decide, by decide⟩ ⟨by decide, by decide⟩
/-- A line's cells. -/
theorem ln_cells {w : World} {g n cap : Nat} {e base : Nat} {ok : Nat → Prop} {xs : List Ln} (h : Kd.R kln e w base ok (.slice (some ⟨g, 0, none⟩) n cap) xs) (hp : 0 < xs.length) :
    w.cell? ⟨g, 0, none⟩ = some (.int .i64 (rdLn xs 0).f0) ∧ w.cell? ⟨g, 1, none⟩ = some (.int .i64 (rdLn xs 0).f1) ∧ w.cell? ⟨g, 2, none⟩ = some (.int .i64 (rdLn xs 0).f2) ∧ w.cell? ⟨g, 3, none⟩ = some (.int .i64 (rdLn xs 0).f3) ∧ w.cell? ⟨g, 4, none⟩ = some (.int .i64 (rdLn xs 0).f4) ∧ w.cell? ⟨g, 5, none⟩ = some (.bool (rdLn xs 0).f5) := by
  obtain ⟨ad, hae, q0, q1, q2, q3, q4, q5⟩ := at_ln (Kd.R_reads' h).2.2 0 hp
  obtain rfl := Option.some.inj hae
  simp only [Nat.zero_mul, Addr.add, Nat.add_zero, Nat.zero_add] at q0 q1 q2 q3 q4 q5
  exact ⟨by simpa using q0, q1, q2, q3, q4, q5⟩

/-- What Print answers at a slice, behind a world. -/
structure PrAt (W : World) (g cap : Nat) (t : ByteArray) : Prop where
  out : ∀ w', Below W.heap.size W w' → Calls Tryd.prog 30 #[.slice (some ⟨g, 0, none⟩) 1 cap] w' fun e w'' => e = .returned (.string t) ∧ Below W.heap.size W w''
theorem prAt {W : World} {g cap : Nat} {t : ByteArray} {w' : World} (h : PrAt W g cap t) (hb : Below W.heap.size W w') : Calls Tryd.prog 30 #[.slice (some ⟨g, 0, none⟩) 1 cap] w' fun e w'' => e = .returned (.string t) ∧ Below W.heap.size W w'' := h.out w' hb

set_option maxHeartbeats 16000000 in
theorem aliveT_c (w : World) (hE : Env w) : Calls Tryd.prog 28 #[] w fun e w' => e = .returned (.bool true) ∧ Below w.heap.size w w' := by
  have h3 := hE.size
  obtain ⟨hpm, hbW⟩ := pm_start w
  obtain ⟨W, hW⟩ : ∃ W, W = wP w := ⟨_, rfl⟩
  rw [← hW] at hpm hbW
  have b0 : W.cell? ⟨w.heap.size + 1 + 1 + 1 + 1, 0, none⟩ = some (.slice (some ⟨w.heap.size + 1, 0, none⟩) 1 1) := cell_of_heap hpm.p 0 rfl
  have b1 : W.cell? ⟨w.heap.size + 1 + 1 + 1 + 1, 1, none⟩ = some (.slice (some ⟨w.heap.size + 1 + 1 + 1, 0, none⟩) 1 1) := cell_of_heap hpm.p 1 rfl
  have b2 : W.cell? ⟨w.heap.size + 1 + 1 + 1 + 1, 2, none⟩ = some (.slice none 0 0) := cell_of_heap hpm.p 2 rfl
  have b3 : W.cell? ⟨w.heap.size + 1 + 1 + 1 + 1, 3, none⟩ = some (.int .i64 0) := cell_of_heap hpm.p 3 rfl
  have HE := Lib.hid hE
  have HW := Lib.hid hW
  have HPM := Lib.hid hpm
  have HBW := Lib.hid hbW
  clear hE hW hpm hbW
  go_enter Tryd.func28, Tryd.ntmps28
  go_upto_region 2 with fail
  have hww := HW.out
  unfold wP o0 o1 o2 o3 BP at hww
  rw [← hww]
  clear hww
  go_cut [2] (fun v wx => Kd.R kln 60 wx W.heap.size (fun _ => True) v [lA] ∧ Below W.heap.size W wx)
  case first =>
    have hk : ∀ w', Below W.heap.size W w' → w'.cell? ⟨w.heap.size + 1 + 1 + 1 + 1, 0, none⟩ = some (.slice (some ⟨w.heap.size + 1, 0, none⟩) 1 1) ∧ w'.cell? ⟨w.heap.size + 1 + 1 + 1 + 1, 1, none⟩ = some (.slice (some ⟨w.heap.size + 1 + 1 + 1, 0, none⟩) 1 1) ∧ w'.cell? ⟨w.heap.size + 1 + 1 + 1 + 1, 2, none⟩ = some (.slice none 0 0) ∧ w'.cell? ⟨w.heap.size + 1 + 1 + 1 + 1, 3, none⟩ = some (.int .i64 0) ∧ Below W.heap.size W w' := fun w' hb => ⟨cell_below b0 hb, cell_below b1 hb, cell_below b2 hb, cell_below b3 hb, hb⟩
    have HK := Lib.hid hk
    clear hk
    go_region_held3 (fun w' => w'.cell? ⟨w.heap.size + 1 + 1 + 1 + 1, 0, none⟩ = some (.slice (some ⟨w.heap.size + 1, 0, none⟩) 1 1) ∧ w'.cell? ⟨w.heap.size + 1 + 1 + 1 + 1, 1, none⟩ = some (.slice (some ⟨w.heap.size + 1 + 1 + 1, 0, none⟩) 1 1) ∧ w'.cell? ⟨w.heap.size + 1 + 1 + 1 + 1, 2, none⟩ = some (.slice none 0 0) ∧ w'.cell? ⟨w.heap.size + 1 + 1 + 1 + 1, 3, none⟩ = some (.int .i64 0) ∧ Below W.heap.size W w')
      (first | assumption | exact HK.out _ HBO.out | exact HK.out _ HBWS.out | exact HK.out _ (HBWS.out.alloc HBWS.out.size _) | exact HK.out _ (drewB W) | exact HK.out _ ((Below.refl _ _).alloc (Nat.le_refl _) _) | exact HK.out _ (((Below.refl _ _).alloc (Nat.le_refl _) _).drew))
      (first | (go_at_call 62; refine (sample_c _).mono ?_; rintro e wS ⟨sb, rb, rfl, hsv, hbS⟩; have hbws : Below W.heap.size W wS := (by first | exact Below.trans (((Below.refl W.heap.size W).alloc (Nat.le_refl _) _).drew) (hbS.mono (by simp)) | exact (drewB W).trans hbS); have HBWS := Lib.hid hbws; clear hbws) | (go_at_call 61; (first | refine (armB HPM.out hbS hsv).mono ?_ | refine (armA HPM.out HBWS.out hsv).mono ?_); rintro e wO ⟨v, rfl, hR, hbO⟩; have HRO := Lib.hid hR; have HBO := Lib.hid hbO; clear hR hbO))
    all_goals
      go_wp2_with fail
      go_meet
      case rel => exact ⟨HRO.out, HBO.out⟩
  case rest =>
    obtain ⟨hR2, hb2⟩ := hcut
    generalize hwd : wc = w2 at *
    clear hwd
    obtain ⟨g2, cap2, rfl, hg2, hgl2, _⟩ := Kd.R_form hR2 (by decide)
    have HR2 := Lib.hid hR2
    have HB2 := Lib.hid (HBW.out.trans (hb2.mono HBW.out.size))
    have hz2 := HB2.out.size
    clear hR2 hb2 b0 b1 b2 b3
    go_wp2_with fail
    refine (sample_c w2).mono ?_
    rintro e wS ⟨sb, rb, rfl, hsv, hbS⟩
    have HBS := Lib.hid hbS
    have hzS := hbS.size
    clear hsv hbS
    go_wp2_with fail
    refine (ofB sb rb wS.heap.size _ (cell_of_heap (heap_alloc_new wS _) 0 rfl)).mono ?_
    rintro e w3 ⟨v3, rfl, hR3, hb3⟩
    have hb23 : Below w2.heap.size w2 w3 := (HBS.out.trans ((Below.refl _ _).alloc (by omega) _)).trans (hb3.mono (by simp; omega))
    obtain ⟨g3, cap3, rfl, hg3, hgl3, _⟩ := Kd.R_form hR3 (by decide)
    have HR3 := Lib.hid hR3
    have HR23 := Lib.hid (Kd.R_below HR2.out hb23)
    have HB3 := Lib.hid (HB2.out.trans (hb23.mono hz2))
    have hz3 := HB3.out.size
    clear hR3 hb3 hb23 HBS
    have hP := parseT_ok tA_parse w3 (HE.out.below HB3.out h3) (by decide)
    unfold tA at hP
    have HP := Lib.hid hP
    clear hP
    go_wp2_with fail
    refine HP.out.mono ?_
    rintro e w4 ⟨v4, rfl, hR4, hb4⟩
    obtain ⟨g4, cap4, rfl, hg4, hgl4, _⟩ := Kd.R_form hR4 (by decide)
    have HR4 := Lib.hid hR4
    have HR24 := Lib.hid (Kd.R_below HR23.out hb4)
    have HR34 := Lib.hid (Kd.R_below HR3.out hb4)
    have HB4 := Lib.hid (HB3.out.trans (hb4.mono hz3))
    have hz4 := HB4.out.size
    clear hR4 hb4 HP
    have hP := parseT_err tB_parse w4 (HE.out.below HB4.out h3) (by decide)
    unfold tB at hP
    dsimp only at hP
    have HP := Lib.hid hP
    clear hP
    go_wp2_with fail
    refine HP.out.mono ?_
    rintro e w5 ⟨rfl, hb5⟩
    have HR45 := Lib.hid (Kd.R_below HR4.out hb5)
    have HR25 := Lib.hid (Kd.R_below HR24.out hb5)
    have HR35 := Lib.hid (Kd.R_below HR34.out hb5)
    have HB5 := Lib.hid (HB4.out.trans (hb5.mono hz4))
    have hz5 := HB5.out.size
    clear hb5 HP
    have hF := find_c [⟨1, 0, 0, 6, 5, true⟩, ⟨2, 0, 0, 0, 0, false⟩] 1 (by decide) 2 rfl (fun j hj => by
      match j, hj with
      | 0, _ => decide) (some ⟨g4, 0, none⟩) cap4 w5 (Kd.R_reads' HR45.out).2.2
    rw [show lnA (rdLn [⟨1, 0, 0, 6, 5, true⟩, ⟨2, 0, 0, 0, 0, false⟩] 1) = .agg #[.int .i64 2, .int .i64 0, .int .i64 0, .int .i64 0, .int .i64 0, .bool false] from rfl] at hF
    have HF := Lib.hid hF
    clear hF
    go_wp2_with fail
    refine HF.out.mono ?_
    rintro e w6 ⟨rfl, hb6⟩
    go_upto_region 7 with fail
    obtain ⟨W7, hW7⟩ : ∃ V, V = w6.alloc (.cells #[.int .i64 2, .int .i64 0, .int .i64 0, .int .i64 0, .int .i64 0, .bool false] 60) := ⟨_, rfl⟩
    rw [← hW7]
    have hn7 : W7.heap[w6.heap.size]? = some (B60 lC) := by rw [hW7]; exact heap_alloc_new w6 _
    have hb67 : Below w6.heap.size w6 W7 := by rw [hW7]; exact (Below.refl _ _).alloc (Nat.le_refl _) _
    have hb57 := hb6.trans (hb67.mono hb6.size)
    have hB7 := HB5.out.trans (hb57.mono hz5)
    have hz7 := hB7.size
    have hR2 := Kd.R_below HR25.out hb57
    have hR3 := Kd.R_below HR35.out hb57
    have hR4 := Kd.R_below HR45.out hb57
    obtain ⟨x0, x1, x2, x3, x4, x5⟩ := ln_cells hR2 (by decide)
    obtain ⟨y0, y1, y2, y3, y4, y5⟩ := ln_cells hR4 (by decide)
    have e5 : W7.cell? ⟨w6.heap.size, 5, none⟩ = some (.bool false) := cell_of_heap hn7 5 rfl
    have hk : ∀ w', Below W7.heap.size W7 w' → w'.cell? ⟨g2, 0, none⟩ = some (.int .i64 1) ∧ w'.cell? ⟨g2, 1, none⟩ = some (.int .i64 0) ∧ w'.cell? ⟨g2, 2, none⟩ = some (.int .i64 0) ∧ w'.cell? ⟨g2, 3, none⟩ = some (.int .i64 6) ∧ w'.cell? ⟨g2, 4, none⟩ = some (.int .i64 5) ∧ w'.cell? ⟨g2, 5, none⟩ = some (.bool true) ∧ w'.cell? ⟨g4, 0, none⟩ = some (.int .i64 1) ∧ w'.cell? ⟨g4, 1, none⟩ = some (.int .i64 0) ∧ w'.cell? ⟨g4, 2, none⟩ = some (.int .i64 0) ∧ w'.cell? ⟨g4, 3, none⟩ = some (.int .i64 6) ∧ w'.cell? ⟨g4, 4, none⟩ = some (.int .i64 5) ∧ w'.cell? ⟨g4, 5, none⟩ = some (.bool true) ∧ w'.cell? ⟨w6.heap.size, 5, none⟩ = some (.bool false) ∧ Below W7.heap.size W7 w' := fun w' hb => ⟨cell_below x0 hb, cell_below x1 hb, cell_below x2 hb, cell_below x3 hb, cell_below x4 hb, cell_below x5 hb, cell_below y0 hb, cell_below y1 hb, cell_below y2 hb, cell_below y3 hb, cell_below y4 hb, cell_below y5 hb, cell_below e5 hb, hb⟩
    have hPA : ∀ w', Below W7.heap.size W7 w' → Calls Tryd.prog 30 #[.slice (some ⟨g2, 0, none⟩) 1 cap2] w' fun e w'' => e = .returned (.string ⟨#[49, 32, 48, 32, 48, 32, 54, 32, 53, 10]⟩) ∧ Below W7.heap.size W7 w'' := by
      intro w' hb
      refine (printT_c [lA] (some ⟨g2, 0, none⟩) cap2 w' (HE.out.below (hB7.trans (hb.mono hz7)) h3) (Kd.R_reads' (Kd.R_below hR2 hb)).2.2 fitA (by decide)).mono ?_
      rintro e w'' ⟨he, hb2⟩
      exact ⟨by rw [he, printA]; rfl, hb.trans (hb2.mono hb.size)⟩
    have hPB : ∀ w', Below W7.heap.size W7 w' → Calls Tryd.prog 30 #[.slice (some ⟨g3, 0, none⟩) 1 cap3] w' fun e w'' => e = .returned (.string ⟨#[49, 32, 117, 110, 115, 101, 114, 118, 101, 100, 10]⟩) ∧ Below W7.heap.size W7 w'' := by
      intro w' hb
      refine (printT_c [lB] (some ⟨g3, 0, none⟩) cap3 w' (HE.out.below (hB7.trans (hb.mono hz7)) h3) (Kd.R_reads' (Kd.R_below hR3 hb)).2.2 fitB (by decide)).mono ?_
      rintro e w'' ⟨he, hb2⟩
      exact ⟨by rw [he, printB]; rfl, hb.trans (hb2.mono hb.size)⟩
    have HK := Lib.hid hk
    have HPA : PrAt W7 g2 cap2 _ := ⟨hPA⟩
    have HPB : PrAt W7 g3 cap3 _ := ⟨hPB⟩
    have HB7 := Lib.hid hB7
    clear hW7 hn7 hb67 hb57 hB7 hR2 hR3 hR4 hk hPA hPB hb6 HF HR2 HR3 HR4 HR23 HR24 HR34 HR25 HR35 HR45 HB2 HB3 HB4 HB5
    go_cut [0] (fun v wx => v = .bool true ∧ Below W7.heap.size W7 wx)
    case first =>
      go_region_held3 (fun w' => w'.cell? ⟨g2, 0, none⟩ = some (.int .i64 1) ∧ w'.cell? ⟨g2, 1, none⟩ = some (.int .i64 0) ∧ w'.cell? ⟨g2, 2, none⟩ = some (.int .i64 0) ∧ w'.cell? ⟨g2, 3, none⟩ = some (.int .i64 6) ∧ w'.cell? ⟨g2, 4, none⟩ = some (.int .i64 5) ∧ w'.cell? ⟨g2, 5, none⟩ = some (.bool true) ∧ w'.cell? ⟨g4, 0, none⟩ = some (.int .i64 1) ∧ w'.cell? ⟨g4, 1, none⟩ = some (.int .i64 0) ∧ w'.cell? ⟨g4, 2, none⟩ = some (.int .i64 0) ∧ w'.cell? ⟨g4, 3, none⟩ = some (.int .i64 6) ∧ w'.cell? ⟨g4, 4, none⟩ = some (.int .i64 5) ∧ w'.cell? ⟨g4, 5, none⟩ = some (.bool true) ∧ w'.cell? ⟨w6.heap.size, 5, none⟩ = some (.bool false) ∧ Below W7.heap.size W7 w')
        (first | assumption | exact HK.out _ (drewB W7) | (refine HK.out _ ?_; assumption))
        (first | (go_at_call 30; (first | with_reducible refine (HPA.out _ ?_).mono ?_ | with_reducible refine (HPB.out _ ?_).mono ?_); (first | exact drewB W7 | assumption | exact Below.drew (by assumption) | exact Below.refl _ _); rintro e wA ⟨rfl, hbA⟩))
      all_goals
        have HBA := Lib.hid hbA
        go_wp2_with fail
        go_meet
        case rel => exact ⟨rfl, HBA.out⟩
    case rest =>
      obtain ⟨rfl, hbc⟩ := hcut
      have HBC := Lib.hid (HB7.out.trans (hbc.mono hz7))
      clear hbc x0 x1 x2 x3 x4 x5 y0 y1 y2 y3 y4 y5 e5
      go_wp2_with fail
      go_ret
      exact ⟨rfl, HBC.out⟩
end Go.Proofs.YtdgifgdadminbaaDoor

/-! ### Tv -/
/-! ### Tb -/
set_option linter.unusedSimpArgs false
set_option linter.unusedVariables false
set_option maxRecDepth 100000
namespace Go.Proofs.YtdgifgdadminbaaDoor
open Go.RowKit Go.Proofs.YtdgifgdadminbaaDoorW.PrintWords Sp
open PFileParses (wrap_id ba_len bt_nat toList_data info3 info2 info9)

theorem eqA60 (d : Nat) (w : World) (x0 y0 : Int) (x1 y1 : Int) (x2 y2 : Int) (x3 y3 : Int) (x4 y4 : Int) (x5 y5 : Bool) :
    (Op.equalIn (d + 2) 60 (.agg #[.int .i64 x0, .int .i64 x1, .int .i64 x2, .int .i64 x3, .int .i64 x4, .bool x5]) (.agg #[.int .i64 y0, .int .i64 y1, .int .i64 y2, .int .i64 y3, .int .i64 y4, .bool y5])).run Tryd.prog w = .ok (x0 == y0 && (x1 == y1 && (x2 == y2 && (x3 == y3 && (x4 == y4 && (x5 == y5)))))) w := by
  refine eqA_of Tryd.underlying60 (by kernel_rfl) ?_
  refine eqf_cons (by rfl) (by go_simp; rfl) (by go_simp; rfl) (by go_simp) ?_
  refine eqf_cons (by rfl) (by go_simp; rfl) (by go_simp; rfl) (by go_simp) ?_
  refine eqf_cons (by rfl) (by go_simp; rfl) (by go_simp; rfl) (by go_simp) ?_
  refine eqf_cons (by rfl) (by go_simp; rfl) (by go_simp; rfl) (by go_simp) ?_
  refine eqf_cons (by rfl) (by go_simp; rfl) (by go_simp; rfl) (by go_simp) ?_
  exact eqf_last (by rfl) (by go_simp; rfl) (by go_simp; rfl) (by go_simp)
attribute [local go_sem high] eqA60

def fiveL (c : Ln) : List Int := [c.f0, c.f1, c.f2, c.f3, c.f4]
def Near5 (c : Ln) (m : Nat) : Prop := ∀ q, q < m → Near ((fiveL c).getD q 0)
def Rises (ls : List Ln) (k : Nat) : Prop := 0 < k → (rdLn ls (k - 1)).f0 < (rdLn ls k).f0

theorem fine_of {c : Ln} (h : 0 ≤ c.f0 ∧ 0 ≤ c.f1) (hn : Near5 c 5) (hu : c.f5 = false → c.f1 = 0 ∧ c.f2 = 0 ∧ c.f3 = 0 ∧ c.f4 = 0) : Fine c := by
  have h0 : Near c.f0 := hn 0 (by decide)
  have h1 : Near c.f1 := hn 1 (by decide)
  have h2 : Near c.f2 := hn 2 (by decide)
  have h3 : Near c.f3 := hn 3 (by decide)
  have h4 : Near c.f4 := hn 4 (by decide)
  exact ⟨⟨h.1, h0.2⟩, ⟨h.2, h1.2⟩, h2, h3, h4, hu⟩

theorem fit_of {l : Ln} (h : Fine l) : FitT l := ⟨ok_i64 h.id, ok_i64 h.car, near_i64 h.t2, near_i64 h.t3, near_i64 h.t4⟩
theorem rdLn_at {ls : List Ln} {j : Nat} (h : j < ls.length) : rdLn ls j = ls[j]'h := by
  unfold rdLn
  rw [List.getD_eq_getElem?_getD, List.getElem?_eq_getElem h]
  rfl
theorem fine_up {ls : List Ln} (h : ∀ j, j < ls.length → Fine (rdLn ls j) ∧ Rises ls j) : (∀ l ∈ ls, Fine l) ∧ Up ls := by
  refine ⟨fun l hl => ?_, ?_⟩
  · obtain ⟨j, hj, rfl⟩ := List.mem_iff_getElem.1 hl
    rw [← rdLn_at hj]
    exact (h j hj).1
  · unfold Up
    rw [List.pairwise_iff_getElem]
    intro i j hi hj hij
    have key : ∀ d i, i + d + 1 < ls.length → (rdLn ls i).f0 < (rdLn ls (i + d + 1)).f0 := by
      intro d
      induction d with
      | zero => intro i hi; exact (h (i + 0 + 1) hi).2 (by omega)
      | succ d ih =>
        intro i hi
        have h1 := ih i (by omega)
        have h2 := (h (i + (d + 1) + 1) hi).2 (by omega)
        have e : i + (d + 1) + 1 - 1 = i + d + 1 := by omega
        rw [e] at h2
        omega
    have := key (j - i - 1) i (by omega)
    rw [show i + (j - i - 1) + 1 = j by omega, rdLn_at hi, rdLn_at hj] at this
    exact this

set_option maxHeartbeats 16000000 in
theorem ticketBack_walk (ls : List Ln) (A : Option Addr) (cap : Nat) (w : World) (hE : Env w) (hC : Kd.C kln w A ls.length ls) (hcap : ls.length ≤ cap) :
    Calls Tryd.prog 10 #[.slice A ls.length cap] w fun e w' => e = .returned (.bool true) ∧ Below w.heap.size w w' := by
  have h3 := hE.size
  have hal := aliveT_c w hE
  have HE := Lib.hid hE
  have HC := Lib.hid hC
  have HAL := Lib.hid hal
  clear hE hC hal
  go_enter Tryd.func10, Tryd.ntmps10
  go_wp2_with fail
  refine HAL.out.mono ?_
  rintro e w1 ⟨rfl, hb1⟩
  have HB1 := Lib.hid hb1
  have hz1 := hb1.size
  clear hb1 HAL
  by_cases h40 : 40 < ls.length
  · have g1 : decide ((40 : Int) < (ls.length : Int)) = true := decide_eq_true (by omega)
    clear h40
    go_wp2_with fail
    go_ret
    exact ⟨rfl, HB1.out⟩
  · have g1 : decide ((40 : Int) < (ls.length : Int)) = false := decide_eq_false (by omega)
    have HC1 := Lib.hid (Kd.C_below HC.out HB1.out)
    go_wp2_with fail
    clear g1
    go_loopw [18] (fun i wr => ∃ k : Nat, k ≤ ls.length ∧ i = .int .i64 k ∧ (∀ j, j < k → Fine (rdLn ls j) ∧ Rises ls j) ∧ Below w1.heap.size w1 wr) (fun i _ => ls.length - (intOf i).toNat)
    case atStart => exact ⟨0, Nat.zero_le _, rfl, fun j hj => absurd hj (Nat.not_lt_zero _), Below.refl _ _⟩
    case round =>
      generalize hwq : wr = w2 at *
      clear hwq
      obtain ⟨k, hk, rfl, hok, hb⟩ := hrel
      have HOK := Lib.hid hok
      have HB := Lib.hid hb
      have HCR := Lib.hid (Kd.C_below HC1.out hb)
      have hzr := hb.size
      clear hok hb
      by_cases hlt : k < ls.length
      · obtain ⟨ad, hAe, q0, q1, q2, q3, q4, q5⟩ := at_ln HCR.out k hlt
        subst hAe
        obtain ⟨c, hc⟩ : ∃ c, c = rdLn ls k := ⟨_, rfl⟩
        rw [← hc] at q0 q1 q2 q3 q4 q5
        have HCC := Lib.hid hc
        clear hc
        go_upto_region 8 with fail
        obtain ⟨W2, hW2⟩ : ∃ V, V = w2.alloc (.cells #[.int .i64 c.f0, .int .i64 c.f1, .int .i64 c.f2, .int .i64 c.f3, .int .i64 c.f4, .bool c.f5] 60) := ⟨_, rfl⟩
        rw [← hW2]
        have hb2 : Below w2.heap.size w2 W2 := by rw [hW2]; exact (Below.refl _ _).alloc (Nat.le_refl _) _
        have hn2 : W2.heap[w2.heap.size]? = some (B60 c) := by rw [hW2]; exact heap_alloc_new w2 _
        have HB2 := Lib.hid hb2
        have HN2 := Lib.hid hn2
        have hz2 := lt_of_some hn2
        clear hW2 hb2 q0 q1 q2 q3 q4 q5
        obtain ⟨p0, p1, p2, p3, p4, p5⟩ := b60_cells hn2
        clear hn2
        go_wp2_with fail
        obtain ⟨W3, hW3⟩ : ∃ V, V = W2.alloc (.cells #[.int .i64 c.f0, .int .i64 c.f1, .int .i64 c.f2, .int .i64 c.f3, .int .i64 c.f4] 2) := ⟨_, rfl⟩
        rw [← hW3]
        have hb3 : Below W2.heap.size W2 W3 := by rw [hW3]; exact (Below.refl _ _).alloc (Nat.le_refl _) _
        have hn3 : W3.heap[W2.heap.size]? = some (.cells #[.int .i64 c.f0, .int .i64 c.f1, .int .i64 c.f2, .int .i64 c.f3, .int .i64 c.f4] 2 (0, 0)) := by rw [hW3]; exact heap_alloc_new W2 _
        have hz3 := lt_of_some hn3
        have HB3 := Lib.hid (HB2.out.trans (hb3.mono (by omega)))
        have HN3 := Lib.hid hn3
        have HNC := Lib.hid ((hb3.block _ hz2).trans HN2.out)
        clear hW3 hb3 hn3 p0 p1 p2 p3 p4 p5
        go_loopw [35] (fun j wx => ∃ m : Nat, m ≤ 5 ∧ j = .int .i64 m ∧ Near5 c m ∧ wx = W3) (fun j _ => 5 - (intOf j).toNat)
        case atStart => exact ⟨0, by omega, rfl, fun q hq => absurd hq (Nat.not_lt_zero _), rfl⟩
        case round =>
          obtain ⟨m, hm, rfl, hnr, hwx⟩ := hrel
          rw [hwx]
          clear hwx
          have HNR := Lib.hid hnr
          clear hnr
          by_cases hm5 : m < 5
          · obtain ⟨n, hn⟩ : ∃ n, n = (fiveL c).getD m 0 := ⟨_, rfl⟩
            have hcell : W3.cell? ⟨W2.heap.size, m, none⟩ = some (.int .i64 n) := by
              rw [hn]
              refine cell_of_heap HN3.out m ?_
              match m, hm5 with
              | 0, _ => rfl
              | 1, _ => rfl
              | 2, _ => rfl
              | 3, _ => rfl
              | 4, _ => rfl
            have HNN := Lib.hid hn
            clear hn
            by_cases hlo : n < -1099511627776
            · have g1 : decide (n < -1099511627776) = true := decide_eq_true hlo
              clear hlo
              go_wp2_with fail
              go_ret
              exact ⟨rfl, HB1.out.trans ((HB.out.trans (HB3.out.mono hzr)).mono hz1)⟩
            · have g1 : decide (n < -1099511627776) = false := decide_eq_false hlo
              by_cases hhi : 1099511627776 < n
              · have g2 : decide (1099511627776 < n) = true := decide_eq_true hhi
                clear hhi hlo
                go_wp2_with fail
                go_ret
                exact ⟨rfl, HB1.out.trans ((HB.out.trans (HB3.out.mono hzr)).mono hz1)⟩
              · have g2 : decide (1099511627776 < n) = false := decide_eq_false hhi
                have hnear : Near n := by unfold Near; omega
                have HNE := Lib.hid hnear
                clear hhi hlo hnear
                go_wp2_with fail
                go_roundw
                case rel =>
                  refine ⟨m + 1, by omega, by go_num, fun q hq => ?_, trivial⟩
                  by_cases hqm : q < m
                  · exact HNR.out q hqm
                  · have : q = m := by omega
                    rw [this, ← HNN.out]
                    exact HNE.out
                case measure => (simp [intOf]; omega)
          · have hme : m = 5 := by omega
            subst hme
            go_wp2_with fail
            obtain ⟨p0, p1, p2, p3, p4, p5⟩ := b60_cells HNC.out
            go_cut [80] (fun bb wx => ∃ b : Bool, bb = .bool b ∧ (b = false → Fine c ∧ Rises ls k) ∧ Drawn0 W3 wx)
            case first =>
              by_cases h0 : c.f0 < 0
              · have g1 : decide (c.f0 < 0) = true := decide_eq_true h0
                clear h0
                repeat (go_quiet (fail); try go_wp2)
                go_meet
                case rel => exact ⟨_, rfl, fun h => (by cases h), ⟨⟨_, rfl⟩⟩⟩
              · have g1 : decide (c.f0 < 0) = false := decide_eq_false h0
                by_cases h1 : c.f1 < 0
                · have g2 : decide (c.f1 < 0) = true := decide_eq_true h1
                  clear h1 h0
                  repeat (go_quiet (fail); try go_wp2)
                  go_meet
                  case rel => exact ⟨_, rfl, fun h => (by cases h), ⟨⟨_, rfl⟩⟩⟩
                · have g2 : decide (c.f1 < 0) = false := decide_eq_false h1
                  have hokc : 0 ≤ c.f0 ∧ 0 ≤ c.f1 := ⟨by omega, by omega⟩
                  have HOKC := Lib.hid hokc
                  clear h0 h1 hokc
                  by_cases hk0 : k = 0
                  · have g3 : decide (0 < k) = false := decide_eq_false (by omega)
                    have hri : Rises ls k := fun h => absurd h (by omega)
                    have HRI := Lib.hid hri
                    clear hri hk0
                    cases h5 : c.f5 with
                    | true =>
                      rw [h5] at p5
                      have hfi : Fine c := fine_of HOKC.out HNR.out (fun h => by rw [h5] at h; cases h)
                      have HFI := Lib.hid hfi
                      clear hfi h5
                      repeat (go_quiet (fail); try go_wp2)
                      go_meet
                      case rel => exact ⟨_, rfl, fun h => ⟨HFI.out, HRI.out⟩, ⟨⟨_, rfl⟩⟩⟩
                    | false =>
                      rw [h5] at p5
                      have hfi : ((!(c.f1 == 0) || (!(c.f2 == 0) || (!(c.f3 == 0) || !(c.f4 == 0)))) = false) → Fine c := fun h => fine_of HOKC.out HNR.out (fun _ => by simpa using h)
                      have HFI := Lib.hid hfi
                      clear hfi h5
                      repeat (go_quiet (fail); try go_wp2)
                      go_meet
                      case rel => exact ⟨_, rfl, fun h => ⟨HFI.out h, HRI.out⟩, ⟨⟨_, rfl⟩⟩⟩
                  · obtain ⟨J, rfl⟩ : ∃ J, k = J + 1 := ⟨k - 1, by omega⟩
                    obtain ⟨ad', hae, r0, _⟩ := at_ln (Kd.C_below HCR.out HB3.out) J (by omega)
                    obtain rfl := Option.some.inj hae
                    obtain ⟨pv, hpv⟩ : ∃ pv, pv = (rdLn ls J).f0 := ⟨_, rfl⟩
                    rw [← hpv] at r0
                    have HPV := Lib.hid hpv
                    clear hk0 hpv hae
                    by_cases hle : c.f0 ≤ pv
                    · have g4 : decide (c.f0 ≤ pv) = true := decide_eq_true hle
                      clear hle
                      repeat (go_quiet (fail); try go_wp2)
                      go_meet
                      case rel => exact ⟨_, rfl, fun h => (by cases h), ⟨⟨_, rfl⟩⟩⟩
                    · have g4 : decide (c.f0 ≤ pv) = false := decide_eq_false hle
                      have hri : Rises ls (J + 1) := fun _ => by
                        have h1 := HPV.out
                        have h2 := HCC.out
                        show (rdLn ls J).f0 < (rdLn ls (J + 1)).f0
                        rw [← h1, ← h2]
                        omega
                      have HRI := Lib.hid hri
                      clear hri hle
                      cases h5 : c.f5 with
                      | true =>
                        rw [h5] at p5
                        have hfi : Fine c := fine_of HOKC.out HNR.out (fun h => by rw [h5] at h; cases h)
                        have HFI := Lib.hid hfi
                        clear hfi h5
                        repeat (go_quiet (fail); try go_wp2)
                        go_meet
                        case rel => exact ⟨_, rfl, fun h => ⟨HFI.out, HRI.out⟩, ⟨⟨_, rfl⟩⟩⟩
                      | false =>
                        rw [h5] at p5
                        have hfi : ((!(c.f1 == 0) || (!(c.f2 == 0) || (!(c.f3 == 0) || !(c.f4 == 0)))) = false) → Fine c := fun h => fine_of HOKC.out HNR.out (fun _ => by simpa using h)
                        have HFI := Lib.hid hfi
                        clear hfi h5
                        repeat (go_quiet (fail); try go_wp2)
                        go_meet
                        case rel => exact ⟨_, rfl, fun h => ⟨HFI.out h, HRI.out⟩, ⟨⟨_, rfl⟩⟩⟩
            case rest =>
              obtain ⟨b, rfl, hfr, hdr⟩ := hcut
              have hb3c := drawn_below (Below.refl W3.heap.size W3) hdr
              have HBC := Lib.hid (HB.out.trans ((HB3.out.trans (hb3c.mono (by omega))).mono hzr))
              have HFR := Lib.hid hfr
              clear hfr hdr hb3c p0 p1 p2 p3 p4 p5
              cases b with
              | true =>
                go_wp2_with fail
                go_ret
                exact ⟨rfl, HB1.out.trans (HBC.out.mono hz1)⟩
              | false =>
                go_wp2_with fail
                go_roundw
                case rel =>
                  refine ⟨k + 1, by omega, by go_num, fun j hj => ?_, HBC.out⟩
                  by_cases hjk : j < k
                  · exact HOK.out j hjk
                  · have : j = k := by omega
                    rw [this]
                    have := HFR.out rfl
                    rw [HCC.out] at this
                    exact this
                case measure => (simp [intOf]; omega)
      · have hke : k = ls.length := by omega
        subst hke
        obtain ⟨hfi, hup⟩ := fine_up HOK.out
        have hfit : ∀ l ∈ ls, FitT l := fun l hl => fit_of (hfi l hl)
        have hpr := printT_c ls A cap w2 (HE.out.below (HB1.out.trans (HB.out.mono hz1)) h3) HCR.out hfit (by omega)
        obtain ⟨t, ht⟩ : ∃ t, t = mk (printT ls) := ⟨_, rfl⟩
        have hpa : parseT t = .ok ls := by rw [ht]; exact parse_printT hfi hup (by omega)
        have htz : t.size ≤ 5000 := by rw [ht, mk_size]; have := printT_fit ls hfit; omega
        rw [← ht] at hpr
        have HPR := Lib.hid hpr
        have HPA := Lib.hid hpa
        clear hpr hpa ht hfi hup hfit
        go_wp2_with fail
        refine HPR.out.mono ?_
        rintro e w3 ⟨rfl, hb3⟩
        have HB3 := Lib.hid (HB1.out.trans ((HB.out.trans (hb3.mono hzr)).mono hz1))
        have hz3 := HB3.out.size
        have HCX := Lib.hid (Kd.C_below HCR.out hb3)
        have hpq := parseT_ok HPA.out w3 (HE.out.below HB3.out h3) (by omega)
        have HPQ := Lib.hid hpq
        clear hpq hb3 HPR
        go_wp2_with fail
        refine HPQ.out.mono ?_
        rintro e w4 ⟨v4, rfl, hR4, hb4⟩
        obtain ⟨A4, c4, rfl, hle4, hC4⟩ := Kd.R_reads hR4
        have HC4 := Lib.hid hC4
        have HCY := Lib.hid (Kd.C_below HCX.out hb4)
        have HB4 := Lib.hid (HB3.out.trans (hb4.mono hz3))
        clear hR4 hC4 hb4 HPQ
        go_wp2_with fail
        go_loopw [10, 104] (fun _ i wr => ∃ k : Nat, k ≤ ls.length ∧ i = .int .i64 k ∧ Below w4.heap.size w4 wr) (fun _ i _ => ls.length - (intOf i).toNat)
        case atStart => exact ⟨0, Nat.zero_le _, rfl, Below.refl _ _⟩
        case round =>
          obtain ⟨k, hk, rfl, hb⟩ := hrel
          have HBK := Lib.hid hb
          by_cases hlt : k < ls.length
          · obtain ⟨a1, e1, x0, x1, x2, x3, x4, x5⟩ := at_ln (Kd.C_below HCY.out hb) k hlt
            obtain ⟨a2, e2, y0, y1, y2, y3, y4, y5⟩ := at_ln (Kd.C_below HC4.out hb) k hlt
            subst e1 e2
            obtain ⟨c, hc⟩ : ∃ c, c = rdLn ls k := ⟨_, rfl⟩
            rw [← hc] at x0 x1 x2 x3 x4 x5 y0 y1 y2 y3 y4 y5
            clear hb hc
            go_upto_region 23 with fail
            go_cut [115] (fun b wx => b = .bool false ∧ Drawn0 wr wx)
            case first =>
              repeat (go_quiet (fail); try go_wp2)
              go_meet
              case rel => exact ⟨rfl, ⟨⟨_, rfl⟩⟩⟩
            case rest =>
              obtain ⟨rfl, hdr⟩ := hcut
              have HBX := Lib.hid (drawn_below HBK.out hdr)
              clear hdr x0 x1 x2 x3 x4 x5 y0 y1 y2 y3 y4 y5
              go_wp2_with fail
              go_roundw
              case rel => exact ⟨k + 1, by omega, by go_num, HBX.out⟩
              case measure => (simp [intOf]; omega)
          · have hke : k = ls.length := by omega
            subst hke
            clear hb
            go_wp2_with fail
            go_ret
            exact ⟨rfl, HB4.out.trans (HBK.out.mono HB4.out.size)⟩
end Go.Proofs.YtdgifgdadminbaaDoor

/-! ### Tc -/
set_option linter.unusedSimpArgs false
set_option linter.unusedVariables false
set_option maxRecDepth 100000
namespace Go.Proofs.YtdgifgdadminbaaDoor
open Go.RowKit Go.Proofs.YtdgifgdadminbaaDoorW.PrintWords Sp
open Go.ChangeShapes Go.WideShapes Go.ChangeAt Go.Lib

section
variable {H : Type} {enc : TypeId × Value → H} {w : World} {base : Nat} {spare : Nat → Bool} {held : Bool}
theorem cellsOf60 : Tryd.prog.cellsOf 60 = 6 := by kernel_rfl
theorem cells3T : Tryd.prog.cellsOf 3 = 1 := by kernel_rfl
theorem cells2T : Tryd.prog.cellsOf 2 = 1 := by kernel_rfl
theorem cells4T : Tryd.prog.cellsOf 4 = 1 := by kernel_rfl
theorem ln_el {n : Nat} {cs : List Value} {z : DataW H × List MemPlace} (h : DataW.trod enc Tryd.prog w base spare held n 60 cs = some z) : ∃ x : Ln, kln.K w x cs ∧ True := by
  obtain ⟨xs, n', _, rfl, hl, hlen, hf⟩ := DataW.trod_struct Tryd.underlying60 h
  rw [cellsOf60] at hl
  match cs, hl with
  | [v0, v1, v2, v3, v4, v5], _ =>
    match xs, hlen with
    | [y0, y1, y2, y3, y4, y5], _ =>
      have h0 := hf 0 _ rfl
      change DataW.trod enc Tryd.prog w base spare held n' 3 (([v0, v1, v2, v3, v4, v5].drop 0).take (Tryd.prog.cellsOf 3)) = some y0 at h0
      rw [cells3T] at h0
      have h1 := hf 1 _ rfl
      change DataW.trod enc Tryd.prog w base spare held n' 3 (([v0, v1, v2, v3, v4, v5].drop 1).take (Tryd.prog.cellsOf 3)) = some y1 at h1
      rw [cells3T] at h1
      have h2 := hf 2 _ rfl
      change DataW.trod enc Tryd.prog w base spare held n' 2 (([v0, v1, v2, v3, v4, v5].drop 2).take (Tryd.prog.cellsOf 2)) = some y2 at h2
      rw [cells2T] at h2
      have h3 := hf 3 _ rfl
      change DataW.trod enc Tryd.prog w base spare held n' 2 (([v0, v1, v2, v3, v4, v5].drop 3).take (Tryd.prog.cellsOf 2)) = some y3 at h3
      rw [cells2T] at h3
      have h4 := hf 4 _ rfl
      change DataW.trod enc Tryd.prog w base spare held n' 2 (([v0, v1, v2, v3, v4, v5].drop 4).take (Tryd.prog.cellsOf 2)) = some y4 at h4
      rw [cells2T] at h4
      have h5 := hf 5 _ rfl
      change DataW.trod enc Tryd.prog w base spare held n' 4 (([v0, v1, v2, v3, v4, v5].drop 5).take (Tryd.prog.cellsOf 4)) = some y5 at h5
      rw [cells4T] at h5
      obtain ⟨x0, e0, _⟩ := int_el Tryd.underlying3 h0
      obtain ⟨x1, e1, _⟩ := int_el Tryd.underlying3 h1
      obtain ⟨x2, e2, _⟩ := int_el Tryd.underlying2 h2
      obtain ⟨x3, e3, _⟩ := int_el Tryd.underlying2 h3
      obtain ⟨x4, e4, _⟩ := int_el Tryd.underlying2 h4
      obtain ⟨x5, e5, _⟩ := DataW.trod_bool Tryd.underlying4 h5
      have e0' : v0 = .int .i64 x0 := by simpa [Kd.int, Kd.scalar] using e0
      have e1' : v1 = .int .i64 x1 := by simpa [Kd.int, Kd.scalar] using e1
      have e2' : v2 = .int .i64 x2 := by simpa [Kd.int, Kd.scalar] using e2
      have e3' : v3 = .int .i64 x3 := by simpa [Kd.int, Kd.scalar] using e3
      have e4' : v4 = .int .i64 x4 := by simpa [Kd.int, Kd.scalar] using e4
      have e5' : v5 = .bool x5 := by simpa using e5
      subst e0' e1' e2' e3' e4' e5'
      exact ⟨⟨x0, x1, x2, x3, x4, x5⟩, kln_mk w ⟨x0, x1, x2, x3, x4, x5⟩, trivial⟩
theorem open_lines {r : Reach} {b0 : Nat} {v : Value} {d : DataW H} {pp : List MemPlace} (hv : Value.okWide Tryd.prog w r b0 58 v) (h : DataW.Trod enc Tryd.prog w base spare held 58 v d pp) :
    ∃ (A : Option Addr) (cap : Nat) (cs : List Ln), v = .slice A cs.length cap ∧ kln.C w A cs.length cs ∧ cs.length ≤ cap := by
  obtain ⟨a, len, cap, rfl⟩ := okWide_slice Tryd.underlying58 hv
  obtain ⟨fuel, hf⟩ := h
  obtain ⟨A, c, xs, h1, h2, _, h4⟩ := open_C kln (fun _ => True) Tryd.underlying58 (by rw [cellsOf60]; rfl) (fun n cs z hz => ln_el hz) hf
  exact ⟨A, c, xs, h1, h2, h4⟩
end
end Go.Proofs.YtdgifgdadminbaaDoor
