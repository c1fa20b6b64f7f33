/- Commands that came in, opened; what a row's list of variables gives the walks of layer verb. Written by this session. -/
import Derived.Test.YtdgifgdadminbaaDoorVb
import Derived.Test.YtdgifgdadminbaaDoorYe
import Derived.Test.YtdgifgdadminbaaDoorYo
import Derived.FnData
set_option linter.unusedSimpArgs false
set_option linter.unusedVariables false
set_option maxRecDepth 100000
namespace Go.Proofs.YtdgifgdadminbaaDoor
open Go.RowKit Go.Proofs.YtdgifgdadminbaaDoorW.PrintWords Sp
open Go.ChangeShapes Go.WideShapes Go.ChangeAt Go.Lib

theorem cells_of_strs {H : Type} {enc : TypeId × Value → H} {P : Program} {w : World} {base : Nat} {sp : Nat → Bool} {held : Bool} {fuel : Nat} {t e : TypeId} {n : Nat} {cs : List Value} {zs : List (List UInt8)} {p : List MemPlace}
    (ht : P.underlying t = some (.array n e)) (he : P.underlying e = some .string) (hce : P.cellsOf e = 1) (hct : P.cellsOf t = n)
    (h : DataW.trod enc P w base sp held fuel t cs = some (.agg (zs.map fun z => .lit (.string z)), p)) : cs = zs.map fun z => Value.string (mk z) := by
  cases fuel with
  | zero => simp [DataW.trod] at h
  | succ fuel =>
    simp only [DataW.trod, ht, hce, hct, Nat.mul_one] at h
    split at h
    · rename_i hl
      obtain ⟨xs, hm, hx⟩ := Option.map_eq_some_iff.1 h
      have hxs : xs.map (·.1) = zs.map fun z => (DataW.lit (.string z) : DataW H) := by
        have := congrArg Prod.fst hx
        simpa using this
      have hxl : xs.length = n := by simpa using mapM_length hm
      have hzl : zs.length = n := by
        have := congrArg List.length hxs
        simp at this
        omega
      apply List.ext_getElem?
      intro i
      by_cases hi : i < n
      · obtain ⟨b, hb, hf⟩ := mapM_at hm i i (by simp [hi])
        obtain ⟨s, hc, rfl, _⟩ := DataW.trod_string he hf
        have h1 : cs[i]? = some (.string s) := by
          have := congrArg (·[0]?) hc
          simpa [List.getElem?_take, List.getElem?_drop] using this
        have h2 : (xs.map (·.1))[i]? = some (DataW.lit (.string s.data.toList) : DataW H) := by simp [hb]
        rw [hxs] at h2
        simp only [List.getElem?_map, Option.map_eq_some_iff, DataW.lit.injEq, Lit.string.injEq] at h2
        obtain ⟨z', hz', e⟩ := h2
        rw [h1, List.getElem?_map, hz']
        show some (Value.string s) = some (Value.string (mk z'))
        rw [e, Sp.mk_data]
      · rw [List.getElem?_eq_none (by omega), List.getElem?_eq_none (by simp; omega)]
    · cases h
theorem gNames : Tryd.prog.globalNamed "jitney/verb.names" = some 0 := by kernel_rfl
theorem gNamesType : (Tryd.prog.globals[0]?).map (·.type) = some 107 := by kernel_rfl
theorem cells107 : Tryd.prog.cellsOf 107 = 8 := by kernel_rfl
theorem cells9 : Tryd.prog.cellsOf 9 = 1 := by kernel_rfl
theorem names_data : (Rows.laid_jitney_verb_names : DataW Unit) = .agg (nameT.map fun z => .lit (.string z)) := rfl
theorem envV_of_row {laid : List (String × DataW Unit)} {W : World} (hp : (laid.all fun x => x.2.handleName?.isNone) = true) (hm : ("internal/strconv.uint64pow10", (Rows.laid_internal_strconv_uint64pow10 : DataW Unit)) ∈ laid)
    (hm2 : ("jitney/verb.names", (Rows.laid_jitney_verb_names : DataW Unit)) ∈ laid) (hl : laidMetH Tryd.prog laid W) (hsh : W.ShapedOpen Tryd.prog) : EnvV W := by
  refine ⟨env_of_row hp hm hl hsh, ?_⟩
  rw [MakeChecks.laidMetH_plain _ _ _ hp] at hl
  obtain ⟨g', t', cs, fuel, p, hg', ht', hvar, hd⟩ := Lib.laidMet.reads hl hm2
  obtain rfl := Option.some.inj (gNames.symm.trans hg')
  obtain rfl := Option.some.inj (gNamesType.symm.trans ht')
  rw [names_data] at hd
  have hcs := cells_of_strs Tryd.underlying107 Tryd.underlying9 cells9 cells107 hd
  intro j l hj
  rw [World.var?_cell gNames hvar j]
  have : cs[j]? = cs.toList[j]? := by simp
  rw [this, hcs, List.getElem?_map, hj]
  rfl
section
variable {H : Type} {enc : TypeId × Value → H} {w : World} {base : Nat} {spare : Nat → Bool} {held : Bool}
theorem cellsOf55 : Tryd.prog.cellsOf 55 = 6 := by kernel_rfl
theorem cellsOf3 : Tryd.prog.cellsOf 3 = 1 := by kernel_rfl
theorem cellsOf2 : Tryd.prog.cellsOf 2 = 1 := by kernel_rfl
theorem cellsOf25 : Tryd.prog.cellsOf 25 = 1 := by kernel_rfl
theorem cmd_el {n : Nat} {cs : List Value} {z : DataW H × List MemPlace} (h : DataW.trod enc Tryd.prog w base spare held n 55 cs = some z) : ∃ x : Cmd, PVerbPrints.k55.K w x cs ∧ NumsV x := by
  obtain ⟨xs, n', _, rfl, hl, hlen, hf⟩ := DataW.trod_struct Tryd.underlying55 h
  rw [cellsOf55] at hl
  match cs, hl with
  | [v0, v1, v2, v3, v4, v5], _ =>
    match xs, hlen with
    | [y0, y1, y2, y3, y4, y5], _ =>
      have h0 := hf 0 _ rfl
      change DataW.trod enc Tryd.prog w base spare held n' 3 (([v0, v1, v2, v3, v4, v5].drop 0).take (Tryd.prog.cellsOf 3)) = some y0 at h0
      rw [cellsOf3] at h0
      have h1 := hf 1 _ rfl
      change DataW.trod enc Tryd.prog w base spare held n' 3 (([v0, v1, v2, v3, v4, v5].drop 1).take (Tryd.prog.cellsOf 3)) = some y1 at h1
      rw [cellsOf3] at h1
      have h2 := hf 2 _ rfl
      change DataW.trod enc Tryd.prog w base spare held n' 3 (([v0, v1, v2, v3, v4, v5].drop 2).take (Tryd.prog.cellsOf 3)) = some y2 at h2
      rw [cellsOf3] at h2
      have h3 := hf 3 _ rfl
      change DataW.trod enc Tryd.prog w base spare held n' 2 (([v0, v1, v2, v3, v4, v5].drop 3).take (Tryd.prog.cellsOf 2)) = some y3 at h3
      rw [cellsOf2] at h3
      have h4 := hf 4 _ rfl
      change DataW.trod enc Tryd.prog w base spare held n' 25 (([v0, v1, v2, v3, v4, v5].drop 4).take (Tryd.prog.cellsOf 25)) = some y4 at h4
      rw [cellsOf25] at h4
      have h5 := hf 5 _ rfl
      change DataW.trod enc Tryd.prog w base spare held n' 9 (([v0, v1, v2, v3, v4, v5].drop 5).take (Tryd.prog.cellsOf 9)) = some y5 at h5
      rw [cells9] at h5
      obtain ⟨x0, e0, _⟩ := int_el Tryd.underlying3 h0
      obtain ⟨x1, e1, i1⟩ := int_el Tryd.underlying3 h1
      obtain ⟨x2, e2, i2⟩ := int_el Tryd.underlying3 h2
      obtain ⟨x3, e3, i3⟩ := int_el Tryd.underlying2 h3
      obtain ⟨x4, ⟨A4, c4, e4, l4, g4⟩, i4⟩ := row_el (k0 := 3) Tryd.underlying25 Tryd.underlying3 (by kernel_rfl) (by kernel_rfl) h4
      obtain ⟨x5, e5, _, _⟩ := DataW.trod_string Tryd.underlying9 h5
      have e0' : v0 = .int .i64 x0 := by simpa [Kd.int, Kd.scalar] using e0
      have e1' : v1 = .int .i64 x1 := by simpa [Kd.int, Kd.scalar] using e1
      have e2' : v2 = .int .i64 x2 := by simpa [Kd.int, Kd.scalar] using e2
      have e3' : v3 = .int .i64 x3 := by simpa [Kd.int, Kd.scalar] using e3
      have e4' : v4 = .slice A4 x4.length c4 := by simpa using e4
      have e5' : v5 = .string x5 := by simpa using e5
      subst e0' e1' e2' e3' e4' e5'
      exact ⟨⟨x0, x1, x2, x3, x4, x5⟩, PVerbPrints.k55_mk w ⟨x0, x1, x2, x3, x4, x5⟩ l4 g4, ⟨i1, i2, i3, i4⟩⟩
instance : Inhabited Cmd := ⟨PVerbPrints.z55⟩
theorem open_cmds {r : Reach} {b0 : Nat} {v : Value} {d : DataW H} {pp : List MemPlace} (hv : Value.okWide Tryd.prog w r b0 45 v) (h : DataW.Trod enc Tryd.prog w base spare held 45 v d pp) :
    ∃ (A : Option Addr) (cap : Nat) (cs : List Cmd), v = .slice A cs.length cap ∧ PVerbPrints.k55.C w A cs.length cs ∧ (∀ c ∈ cs, NumsV c) ∧ cs.length ≤ cap := by
  obtain ⟨a, len, cap, rfl⟩ := okWide_slice Tryd.underlying45 hv
  obtain ⟨fuel, hf⟩ := h
  exact open_C PVerbPrints.k55 NumsV Tryd.underlying45 (by rw [cellsOf55]; rfl) (fun n cs z hz => cmd_el hz) hf
end
end Go.Proofs.YtdgifgdadminbaaDoor
