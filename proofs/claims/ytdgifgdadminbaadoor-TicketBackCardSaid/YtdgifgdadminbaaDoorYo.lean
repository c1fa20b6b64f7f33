/- A plan that came in, opened. Written by this session. -/
import Derived.Test.YtdgifgdadminbaaDoorXl
import Derived.Deep.Slices
import Derived.ProofKit
import Derived.Lib.SmallJoins
set_option linter.unusedSimpArgs false
set_option linter.unusedVariables false
set_option maxRecDepth 100000
namespace Go.Proofs.YtdgifgdadminbaaDoor
open Go.RowKit Go.Proofs.YtdgifgdadminbaaDoorW.PrintWords Sp
open Go.ChangeShapes Go.WideShapes Go.ChangeAt

theorem open_C {α : Type} [Inhabited α] (k : Kd α) (ok : α → Prop) {H : Type} {enc : TypeId × Value → H} {w : World} {base : Nat} {spare : Nat → Bool} {held : Bool} {t e : TypeId} {fuel : Nat} {v : Value} {x : DataW H × List MemPlace}
    (ht : Tryd.prog.underlying t = some (.slice e)) (hsz : Tryd.prog.cellsOf e = k.sz) (hel : ∀ n cs z, DataW.trod enc Tryd.prog w base spare held n e cs = some z → ∃ x, k.K w x cs ∧ ok x)
    (h : DataW.trod enc Tryd.prog w base spare held fuel t [v] = some x) : ∃ (a : Option Addr) (cap : Nat) (xs : List α), v = .slice a xs.length cap ∧ k.C w a xs.length xs ∧ (∀ x ∈ xs, ok x) ∧ xs.length ≤ cap := by
  rcases Deep.open_slice ht h with ⟨hcs, _⟩ | ⟨a', len', cap', m, n, D, Pl, hcs, hb, hl, hm, hmm, hx, hall⟩
  · simp at hcs
    subst hcs
    exact ⟨none, 0, [], rfl, ⟨rfl, by simp, fun h => absurd h (by simp)⟩, by simp, Nat.le_refl _⟩
  · simp at hcs
    subst hcs
    have hle : len' ≤ m := by rw [hmm]; split <;> omega
    obtain ⟨f, hfx⟩ := Deep.choose_lt (α := α) (n := len') (p := fun i x => (∃ c : List Value, c.length = k.sz ∧ k.K w x c ∧ ∀ (j : Nat) (u : Value), c[j]? = some u → w.cell? (a'.add (i * k.sz + j)) = some u) ∧ ok x) (fun i hi => by
      obtain ⟨cs', h1, h2⟩ := hall i (by omega)
      obtain ⟨x, hK, hok⟩ := hel _ _ _ h2
      obtain ⟨_, hlen, hc⟩ := World.cells?_some h1
      refine ⟨x, ⟨cs', k.K_len hK, hK, fun j u hj => ?_⟩, hok⟩
      have hjl : j < cs'.length := (List.getElem?_eq_some_iff.1 hj).1
      have := hc j (by omega)
      rw [hsz, Addr.add_add] at this
      rw [this, hj])
    refine ⟨some a', cap', (List.range len').map f, by simp, ⟨rfl, ?_, fun _ => ⟨a', rfl, fun i x hix => ?_⟩⟩, ?_, by simpa using hl⟩
    · rw [List.length_map, List.length_range]
      unfold maxLen at hm
      omega
    · simp only [List.getElem?_map, Option.map_eq_some_iff] at hix
      obtain ⟨i', hi', rfl⟩ := hix
      obtain ⟨hlt, hi2⟩ := List.getElem?_eq_some_iff.1 hi'
      simp only [List.getElem_range] at hi2
      subst hi2
      exact (hfx i (by simpa using hlt)).1
    · intro x hx
      obtain ⟨i, hi, rfl⟩ := List.mem_map.1 hx
      exact (hfx i (List.mem_range.1 hi)).2
section
variable {H : Type} {enc : TypeId × Value → H} {w : World} {base : Nat} {spare : Nat → Bool} {held : Bool}
theorem i64_wf {n : Int} (h : (Lit.int .i64 n).wf = true) : I64 n := by
  have := bounds_i64 h
  unfold I64
  omega
theorem int_el {t : TypeId} (ht : Tryd.prog.underlying t = some (.int .i64)) {n : Nat} {cs : List Value} {z : DataW H × List MemPlace} (h : DataW.trod enc Tryd.prog w base spare held n t cs = some z) : ∃ x : Int, (Kd.int .i64).K w x cs ∧ I64 x := by
  obtain ⟨a, rfl, _, wa⟩ := DataW.trod_int ht h
  exact ⟨a, rfl, i64_wf wa⟩
theorem row_el {t e : TypeId} (ht : Tryd.prog.underlying t = some (.slice e)) (he : Tryd.prog.underlying e = some (.int .i64)) (hce : Tryd.prog.cellsOf e = 1) (hct : Tryd.prog.cellsOf t = 1) {k0 : Nat} {n : Nat} {cs : List Value} {z : DataW H × List MemPlace}
    (h : DataW.trod enc Tryd.prog w base spare held n t cs = some z) : ∃ x : List Int, (Kd.slice k0 (Kd.int .i64)).K w x cs ∧ ∀ n ∈ x, I64 n := by
  obtain ⟨v, rfl⟩ : ∃ v, cs = [v] := by
    rcases Deep.open_slice ht h with ⟨hcs, _⟩ | ⟨a', len', cap', m, n', D, Pl, hcs, _⟩
    · exact ⟨_, hcs⟩
    · exact ⟨_, hcs⟩
  obtain ⟨a, cap, xs, rfl, hC, hok, hl⟩ := open_C (Kd.int .i64) I64 ht (by rw [hce]; rfl) (fun n cs z hz => int_el he hz) h
  exact ⟨xs, ⟨a, cap, rfl, hl, hC⟩, hok⟩
/-- All numbers are of int64. -/
structure AllI (p : Pl) : Prop where
  r : ∀ r ∈ p.routes, ∀ n ∈ r, I64 n
  t : ∀ r ∈ p.times, ∀ n ∈ r, I64 n
  l : ∀ n ∈ p.left, I64 n
  c : I64 p.cost
theorem open_plan {r : Reach} {b0 : Nat} {v : Value} {d : DataW H} {pp : List MemPlace} (hv : Value.okWide Tryd.prog w r b0 27 v) (h : DataW.Trod enc Tryd.prog w base spare held 27 v d pp) :
    ∃ (rv tv lv : Value) (p : Pl), v = .agg #[rv, tv, lv, .int .i64 p.cost] ∧ PlanAt rv tv lv p w ∧ AllI p := by
  obtain ⟨v0, v1, v2, v3, y0, y1, y2, y3, n, rfl, _, _, h0, h1, h2, h3⟩ := Joins.open_agg4 Tryd.underlying27 (by kernel_rfl) (by kernel_rfl) hv h
  obtain ⟨a0, k0, rs, rfl, c0, o0, l0⟩ := open_C kRow (fun r => ∀ n ∈ r, I64 n) Tryd.underlying23 (by kernel_rfl) (fun n cs z hz => row_el Tryd.underlying25 Tryd.underlying3 (by kernel_rfl) (by kernel_rfl) hz) h0
  obtain ⟨a1, k1, ts, rfl, c1, o1, l1⟩ := open_C kTim (fun r => ∀ n ∈ r, I64 n) Tryd.underlying24 (by kernel_rfl) (fun n cs z hz => row_el Tryd.underlying61 Tryd.underlying2 (by kernel_rfl) (by kernel_rfl) hz) h1
  obtain ⟨a2, k2, lf, rfl, c2, o2, l2⟩ := open_C (Kd.int .i64) I64 Tryd.underlying25 (by kernel_rfl) (fun n cs z hz => int_el Tryd.underlying3 hz) h2
  obtain ⟨x, hx, _, wx⟩ := DataW.trod_int Tryd.underlying2 h3
  simp at hx
  subst hx
  exact ⟨_, _, _, ⟨rs, ts, lf, x⟩, rfl, ⟨⟨a0, k0, rfl, l0, c0⟩, ⟨a1, k1, rfl, l1, c1⟩, ⟨a2, k2, rfl, l2, c2⟩⟩, ⟨o0, o1, o2, i64_wf wx⟩⟩
end
end Go.Proofs.YtdgifgdadminbaaDoor
