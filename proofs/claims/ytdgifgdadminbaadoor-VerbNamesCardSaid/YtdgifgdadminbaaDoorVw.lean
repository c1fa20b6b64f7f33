/- Several texts of this session in one (Vp, Vn, P3, Vs, Vm). Written by this session, by tools of this session and by the kit's print. -/
import Derived.Test.YtdgifgdadminbaaDoorVa
import Derived.Test.YtdgifgdadminbaaDoorYe
import Derived.Test.YtdgifgdadminbaaDoorYo
import Derived.FnData
import Derived.Test.YtdgifgdadminbaaDoorP2
import Derived.Test.YtdgifgdadminbaaDoorV9
/-! ### Vp -/
set_option linter.unusedSimpArgs false
set_option linter.unusedVariables false
set_option maxRecDepth 100000
namespace Go.Proofs.YtdgifgdadminbaaDoor
open Go.RowKit Go.Proofs.YtdgifgdadminbaaDoorW.PrintWords Sp
open Go.ChangeShapes Go.WideShapes Go.ChangeAt Go.Lib

theorem cells_of_strs {H : Type} {enc : TypeId × Value → H} {P : Program} {w : World} {base : Nat} {sp : Nat → Bool} {held : Bool} {fuel : Nat} {t e : TypeId} {n : Nat} {cs : List Value} {zs : List (List UInt8)} {p : List MemPlace}
    (ht : P.underlying t = some (.array n e)) (he : P.underlying e = some .string) (hce : P.cellsOf e = 1) (hct : P.cellsOf t = n)
    (h : DataW.trod enc P w base sp held fuel t cs = some (.agg (zs.map fun z => .lit (.string z)), p)) : cs = zs.map fun z => Value.string (mk z) := by
  cases fuel with
  | zero => simp [DataW.trod] at h
  | succ fuel =>
    simp only [DataW.trod, ht, hce, hct, Nat.mul_one] at h
    split at h
    · rename_i hl
      obtain ⟨xs, hm, hx⟩ := Option.map_eq_some_iff.1 h
      have hxs : xs.map (·.1) = zs.map fun z => (DataW.lit (.string z) : DataW H) := by
        have := congrArg Prod.fst hx
        simpa using this
      have hxl : xs.length = n := by simpa using mapM_length hm
      have hzl : zs.length = n := by
        have := congrArg List.length hxs
        simp at this
        omega
      apply List.ext_getElem?
      intro i
      by_cases hi : i < n
      · obtain ⟨b, hb, hf⟩ := mapM_at hm i i (by simp [hi])
        obtain ⟨s, hc, rfl, _⟩ := DataW.trod_string he hf
        have h1 : cs[i]? = some (.string s) := by
          have := congrArg (·[0]?) hc
          simpa [List.getElem?_take, List.getElem?_drop] using this
        have h2 : (xs.map (·.1))[i]? = some (DataW.lit (.string s.data.toList) : DataW H) := by simp [hb]
        rw [hxs] at h2
        simp only [List.getElem?_map, Option.map_eq_some_iff, DataW.lit.injEq, Lit.string.injEq] at h2
        obtain ⟨z', hz', e⟩ := h2
        rw [h1, List.getElem?_map, hz']
        show some (Value.string s) = some (Value.string (mk z'))
        rw [e, Sp.mk_data]
      · rw [List.getElem?_eq_none (by omega), List.getElem?_eq_none (by simp; omega)]
    · cases h
theorem gNames : Tryd.prog.globalNamed "jitney/verb.names" = some 0 := by kernel_rfl
theorem gNamesType : (Tryd.prog.globals[0]?).map (·.type) = some 107 := by kernel_rfl
theorem cells107 : Tryd.prog.cellsOf 107 = 8 := by kernel_rfl
theorem cells9 : Tryd.prog.cellsOf 9 = 1 := by kernel_rfl
theorem names_data : (Rows.laid_jitney_verb_names : DataW Unit) = .agg (nameT.map fun z => .lit (.string z)) := rfl
theorem envV_of_row {laid : List (String × DataW Unit)} {W : World} (hp : (laid.all fun x => x.2.handleName?.isNone) = true) (hm : ("internal/strconv.uint64pow10", (Rows.laid_internal_strconv_uint64pow10 : DataW Unit)) ∈ laid)
    (hm2 : ("jitney/verb.names", (Rows.laid_jitney_verb_names : DataW Unit)) ∈ laid) (hl : laidMetH Tryd.prog laid W) (hsh : W.ShapedOpen Tryd.prog) : EnvV W := by
  refine ⟨env_of_row hp hm hl hsh, ?_⟩
  rw [MakeChecks.laidMetH_plain _ _ _ hp] at hl
  obtain ⟨g', t', cs, fuel, p, hg', ht', hvar, hd⟩ := Lib.laidMet.reads hl hm2
  obtain rfl := Option.some.inj (gNames.symm.trans hg')
  obtain rfl := Option.some.inj (gNamesType.symm.trans ht')
  rw [names_data] at hd
  have hcs := cells_of_strs Tryd.underlying107 Tryd.underlying9 cells9 cells107 hd
  intro j l hj
  rw [World.var?_cell gNames hvar j]
  have : cs[j]? = cs.toList[j]? := by simp
  rw [this, hcs, List.getElem?_map, hj]
  rfl
end Go.Proofs.YtdgifgdadminbaaDoor

/-! ### Vn -/
set_option linter.unusedSimpArgs false
set_option linter.unusedVariables false
namespace Go.Proofs.YtdgifgdadminbaaDoor
open Go.RowKit Go.Proofs.YtdgifgdadminbaaDoorW.PrintWords Sp
open PFileParses (wrap_id ba_len bt_nat toList_data)

def Near (n : Int) : Prop := -1099511627776 ≤ n ∧ n ≤ 1099511627776
theorem itoa_neg {n : Int} (h : n < 0) : Lib.itoa n = 45 :: Lib.decDigits n.natAbs := by
  unfold Lib.itoa
  rw [if_pos h]
theorem near_wd {n : Int} : Wd (Lib.itoa n) := by
  by_cases h : n < 0
  · rw [itoa_neg h]
    refine ⟨by simp, fun b hb => ?_⟩
    rcases List.mem_cons.1 hb with rfl | hb
    · decide
    · exact isD_W ((dec_spec _).1 b hb)
  · unfold Lib.itoa
    rw [if_neg h]
    exact ⟨(dec_spec _).2.2.1, fun b hb => isD_W ((dec_spec _).1 b hb)⟩
theorem readS_near {n : Int} (h : Near n) : readS (mk (Lib.itoa n)) = (n, 0) := by
  by_cases h0 : n < 0
  · unfold readS
    rw [data_mk, itoa_neg h0]
    obtain ⟨h1, h2, h3, h4⟩ := dec_spec n.natAbs
    unfold readL
    have hh : ((45 :: Lib.decDigits n.natAbs).head? == some (45 : UInt8)) = true := rfl
    rw [hh]
    have h8 := h.1
    have hl := nDigits_le 12 n.natAbs (by omega)
    have hp := List.length_pos_iff.2 h3
    rw [← Lib.decDigits_length] at hl
    simp only [if_true, List.tail_cons]
    rw [if_pos]
    · rw [h2, if_neg (by omega)]
      congr 1
      omega
    · simp only [Bool.and_eq_true, decide_eq_true_eq]
      exact ⟨⟨List.all_eq_true.2 h1, by omega⟩, by omega⟩
  · have hk : Ok n := ⟨by omega, h.2⟩
    unfold readS
    rw [data_mk, itoa_ok hk, readL_dec (by have := hk.2; omega)]
    congr 1
    omega
theorem readS_inv (s : ByteArray) : Near (readS s).1 := by
  have key : ∀ (b : Bool) (v : Int), Near (if b = true then (if v < -1099511627776 ∨ 1099511627776 < v then ((0 : Int), (23 : Int)) else (v, 0)) else (0, 21)).1 := by
    intro b v
    cases b
    · rw [if_neg (by decide)]
      exact ⟨by show -1099511627776 ≤ (0 : Int); decide, by show (0 : Int) ≤ 1099511627776; decide⟩
    · rw [if_pos rfl]
      by_cases h : v < -1099511627776 ∨ 1099511627776 < v
      · rw [if_pos h]; exact ⟨by show -1099511627776 ≤ (0 : Int); decide, by show (0 : Int) ≤ 1099511627776; decide⟩
      · rw [if_neg h]; exact ⟨by show -1099511627776 ≤ v; omega, by show v ≤ 1099511627776; omega⟩
  exact key _ _

/-- A command as a reading gives it. -/
structure Norm (c : Cmd) : Prop where
  mkN ::
  k1 : 1 ≤ c.f0
  k7 : c.f0 ≤ 7
  n : Ok c.f1
  steps : Ok c.f2
  clock : Near c.f3
  draws : ∀ n ∈ c.f4, Ok n
  many : c.f4.length ≤ 4096
  n0 : c.f0 = 4 ∨ c.f0 = 6 ∨ c.f0 = 7 → c.f1 = 0
  s0 : c.f0 ≠ 5 → c.f2 = 0 ∧ c.f4 = []
  c0 : c.f0 ≠ 4 → c.f3 = 0
  t0 : c.f0 ≠ 1 → c.f5 = ⟨#[]⟩
  t1 : c.f0 = 1 → ∃ rows : List (List UInt8), (∀ r ∈ rows, (10 : UInt8) ∉ r) ∧ (joinL rows).length ≤ 1500 ∧ c.f1 = (rows.length : Int) ∧ c.f5 = mk (joinL rows)
def bare (c : Cmd) : Cmd := withText c ⟨#[]⟩
theorem name_wd {k : Int} (h1 : 1 ≤ k) (h2 : k ≤ 7) : Wd (nameL k) := by
  rcases kind_cases h1 h2 with rfl | rfl | rfl | rfl | rfl | rfl | rfl <;> exact ⟨by decide, by decide⟩
theorem args_wd (c : Cmd) : ∀ a ∈ argsV c, Wd a := by
  intro a ha
  unfold argsV at ha
  split at ha
  · rw [List.mem_singleton.1 ha]; exact near_wd
  · split at ha
    · obtain ⟨n, _, rfl⟩ := List.mem_map.1 ha; exact near_wd
    · split at ha
      · rw [List.mem_singleton.1 ha]; exact near_wd
      · simp at ha
theorem ok_i64 {n : Int} (h : Ok n) : I64 n := by
  have h1 := h.1; have h2 := h.2
  exact ⟨by omega, by omega⟩
theorem near_i64 {n : Int} (h : Near n) : I64 n := by
  have h1 := h.1; have h2 := h.2
  exact ⟨by omega, by omega⟩
theorem Norm.size {c : Cmd} (h : Norm c) : c.f5.size ≤ 1500 := by
  by_cases h1 : c.f0 = 1
  · obtain ⟨rows, _, hl, _, e⟩ := h.t1 h1
    rw [e, mk_size]; exact hl
  · rw [h.t0 h1]; decide
theorem Norm.fit {c : Cmd} (h : Norm c) : Fit c :=
  ⟨ok_i64 h.n, ok_i64 h.steps, near_i64 h.clock, fun n hn => ok_i64 (h.draws n hn), by have := h.many; omega, by have := h.size; omega⟩
theorem ok_out {n : Int} (h : Ok n) : outB n = false := outB_ok.2 h
theorem Norm.check {c : Cmd} (h : Norm c) : checkS c = 0 := by
  unfold checkS
  have hn : nameL c.f0 ≠ [] := fun e => (nameL_nil _).1 e ⟨h.k1, h.k7⟩
  have h3 := h.clock
  have hm := h.many
  rw [if_neg hn, if_neg (fun e => by rw [ok_out h.n] at e; exact absurd e.2 (by decide)), if_neg (fun e => by
    rw [ok_out h.steps, any_out.2 h.draws] at e; exact e.2.elim (by decide) (by decide))]
  unfold ck2
  rw [if_neg (fun e => by have := h3.1; have := h3.2; omega)]
  unfold ck3
  rw [if_neg (fun e => by omega)]
  unfold ck4
  rw [if_neg]
  rintro ⟨h1, h2⟩
  obtain ⟨rows, hf, hl, hn2, ht⟩ := h.t1 h1
  rw [ht, linesS_join rows hf (by omega)] at h2
  rcases h2 with h2 | h2
  · exact h2 rfl
  · exact h2 (by rw [hn2, List.length_map])
theorem Norm.args {c : Cmd} (h : Norm c) (h4 : c.f0 ≠ 4) : ∃ ns : List Int, argsV c = ns.map Lib.itoa ∧ (∀ n ∈ ns, Ok n) ∧ lenB c.f0 ns.length = true ∧ ns.length ≤ 4098 ∧ ns.getD 0 0 = c.f1 ∧ ns.getD 1 0 = c.f2 ∧ ns.drop 2 = c.f4 := by
  have hm := h.many
  unfold argsV
  rw [if_neg h4]
  by_cases h5 : c.f0 = 5
  · rw [if_pos h5]
    refine ⟨_, rfl, fun n hn => ?_, ?_, ?_, rfl, rfl, rfl⟩
    · rcases List.mem_cons.1 hn with rfl | hn
      · exact h.n
      · rcases List.mem_cons.1 hn with rfl | hn
        · exact h.steps
        · exact h.draws n hn
    · unfold lenB
      rw [if_neg (by omega), if_pos h5]
      simp only [List.length_cons]
      exact decide_eq_true (by omega)
    · simp only [List.length_cons]; omega
  · rw [if_neg h5]
    obtain ⟨s0, d0⟩ := h.s0 h5
    by_cases h1 : c.f0 = 1 ∨ c.f0 = 2 ∨ c.f0 = 3
    · rw [if_pos h1]
      refine ⟨[c.f1], rfl, fun n hn => by rw [List.mem_singleton.1 hn]; exact h.n, ?_, by simp, rfl, by rw [s0]; rfl, by rw [d0]; rfl⟩
      unfold lenB
      rw [if_neg (by omega), if_neg h5]
      rfl
    · rw [if_neg h1]
      have k1 := h.k1
      have k7 := h.k7
      have hn0 := h.n0 (by omega)
      refine ⟨[], rfl, fun n hn => by simp at hn, ?_, by simp, by rw [hn0]; rfl, by rw [s0]; rfl, by rw [d0]; rfl⟩
      unfold lenB
      rw [if_pos (by omega)]
      rfl
theorem Norm.line {c : Cmd} (h : Norm c) : readV (mk (lineV c)) = .ok (bare c) := by
  unfold readV
  have hw : wordsS (mk (lineV c)) = ((nameL c.f0 :: argsV c).map mk, 0) := wordsS_line _ _ (name_wd h.k1 h.k7) (args_wd c)
  have k1 := h.k1
  rw [hw, if_neg (by simp), List.map_cons]
  dsimp only
  rw [kindS_name h.k1 h.k7, if_neg (by omega)]
  by_cases h4 : c.f0 = 4
  · have ha : argsV c = [Lib.itoa c.f3] := by unfold argsV; rw [if_pos h4]
    obtain ⟨s0, d0⟩ := h.s0 (by omega)
    have n0 := h.n0 (.inl h4)
    have t0 := h.t0 (by omega)
    rw [ha, if_neg (by rw [h4, List.length_map, List.length_singleton]; decide), if_neg (by simp), if_pos h4, List.map_cons, List.getD_cons_zero, readS_near h.clock, if_neg (by simp)]
    congr 1
    unfold bare withText
    cases c
    simp only at h4 s0 d0 n0
    subst h4 s0 d0 n0
    rfl
  · obtain ⟨ns, ha, hok, hlen, hl, g0, g1, g2⟩ := h.args h4
    rw [ha, List.length_map, List.length_map, hlen, if_neg (by decide), if_neg (by omega), if_neg h4, readAll_itoa (fun n hn => wholeS_itoa (hok n hn))]
    dsimp only
    rw [g0, g1, g2]
    congr 1
    have c0 := h.c0 h4
    unfold bare withText
    rw [c0]
theorem Norm.len {c : Cmd} (h : Norm c) : (textV c).length ≤ 100000 := by
  have h1 := nameL_len c.f0
  have h5 := h.many
  have hs := h.size
  have hf := h.fit
  have ha : ((argsV c).map fun x => x.length + 1).sum ≤ 21 * 4098 := by
    by_cases h4 : c.f0 = 4
    · unfold argsV
      rw [if_pos h4]
      have := itoas_len [c.f3] (fun n hn => by rw [List.mem_singleton.1 hn]; exact hf.clock)
      simp only [List.map_cons, List.map_nil, List.length_singleton] at this ⊢
      omega
    · obtain ⟨ns, ha, hok, _, hl, _⟩ := h.args h4
      rw [ha]
      have := itoas_len ns (fun n hn => ok_i64 (hok n hn))
      omega
  have hln : (lineV c).length ≤ 86100 := by
    unfold lineV
    rw [lineB_length]
    omega
  unfold textV
  rw [List.length_append, List.length_cons]
  split
  · rw [ba_len]; omega
  · simp only [List.length_nil]; omega
theorem Norm.back {c : Cmd} (h : Norm c) : parseV (mk (textV c)) = .ok [c] := by
  have hlen := h.len
  have hline := h.line
  have hfree : (10 : UInt8) ∉ lineV c := lineB_free10 _ _ (name_wd h.k1 h.k7) (args_wd c)
  by_cases h1 : c.f0 = 1
  · obtain ⟨rows, hf, hl, hn, ht⟩ := h.t1 h1
    have e : textV c = joinL (lineV c :: rows) := by
      unfold textV
      rw [if_pos h1, joinL_cons, ht, data_mk]
    have hli : linesS (mk (textV c)) = ((lineV c :: rows).map mk, 0) := by
      rw [e]
      refine linesS_join _ (fun l hm => ?_) (by rw [← e]; omega)
      rcases List.mem_cons.1 hm with rfl | hm
      · exact hfree
      · exact hf l hm
    unfold parseV
    rw [hli, if_neg (by simp)]
    dsimp only
    rw [List.map_cons, List.length_cons, parseA, hline]
    dsimp only
    rw [if_pos (show (bare c).f0 = 1 from h1), if_neg (by show ¬ (((rows.map mk).length : Int) < c.f1); rw [List.length_map, hn]; omega)]
    rw [show (bare c).f1 = c.f1 from rfl, hn, Int.toNat_natCast, List.drop_of_length_le (by rw [List.length_map]; exact Nat.le_refl _), parseA_nil, List.take_of_length_le (by rw [List.length_map]; exact Nat.le_refl _), List.nil_append]
    congr 2
    have eb : bodyL (rows.map mk) = joinL rows := by
      unfold bodyL
      rw [List.map_map]
      congr 1
      conv => rhs; rw [← List.map_id rows]
      exact List.map_congr_left (fun x _ => data_mk x)
    rw [eb, ← ht]
    rfl
  · have e : textV c = joinL [lineV c] := by
      unfold textV
      rw [if_neg h1, joinL_cons, joinL_nil]
    have hli : linesS (mk (textV c)) = ([lineV c].map mk, 0) := by
      rw [e]
      exact linesS_join _ (fun l hm => by rw [List.mem_singleton.1 hm]; exact hfree) (by rw [← e]; omega)
    have t0 := h.t0 h1
    unfold parseV
    rw [hli, if_neg (by simp)]
    dsimp only
    rw [List.map_cons, List.map_nil, List.length_singleton, parseA, hline]
    dsimp only
    rw [if_neg (show ¬ (bare c).f0 = 1 from h1), parseA_nil, List.nil_append]
    congr 2
    unfold bare withText
    rw [← t0]

/-! ### A reading gives such commands -/
theorem cutAt_free_mem (c : UInt8) : ∀ (l : List UInt8), ∀ x ∈ cutAt c l, c ∉ x := by
  intro l
  induction l with
  | nil => intro x hx; simp [cutAt] at hx; rw [hx]; simp
  | cons b r ih =>
    intro x hx
    by_cases h : b = c
    · subst h
      rw [show b :: r = [] ++ b :: r from rfl, cutAt_app b [] r (by simp)] at hx
      rcases List.mem_cons.1 hx with rfl | hx
      · simp
      · exact ih x hx
    · have hne := cutAt_ne c r
      obtain ⟨y, ys, hy⟩ : ∃ y ys, cutAt c r = y :: ys := by
        cases hc : cutAt c r with
        | nil => exact absurd hc hne
        | cons y ys => exact ⟨y, ys, rfl⟩
      have e : cutAt c (b :: r) = (b :: y) :: ys := by
        rw [cutAt, hy]
        simp [h]
      rw [e] at hx
      rw [hy] at ih
      rcases List.mem_cons.1 hx with rfl | hx
      · intro hm
        rcases List.mem_cons.1 hm with e | hm
        · exact h e.symm
        · exact ih y (by simp) hm
      · exact ih x (by simp [hx])
theorem lines_free {s : ByteArray} : ∀ x ∈ (linesS s).1, (10 : UInt8) ∉ x.data.toList := by
  intro x hx
  unfold linesS at hx
  split at hx
  · simp at hx
  · split at hx
    · obtain ⟨l, hl, rfl⟩ := List.mem_map.1 hx
      rw [data_mk]
      exact cutAt_free_mem 10 _ l (List.dropLast_subset _ hl)
    · simp at hx
/-- A command's line, read: all but its text. -/
theorem read_norm {s : ByteArray} {c : Cmd} (h : readV s = .ok c) (t : ByteArray) (ht : c.f0 ≠ 1 → t = ⟨#[]⟩)
    (ht1 : c.f0 = 1 → ∃ rows : List (List UInt8), (∀ r ∈ rows, (10 : UInt8) ∉ r) ∧ (joinL rows).length ≤ 1500 ∧ c.f1 = (rows.length : Int) ∧ t = mk (joinL rows)) : Norm (withText c t) := by
  have z : Ok 0 := ⟨by decide, by decide⟩
  have zn : Near 0 := ⟨by decide, by decide⟩
  obtain ⟨nm, rest, _, hk, hlen, hl, h1 | h1⟩ := readV_inv h
  · obtain ⟨_, _, rfl⟩ := h1
    have t0 := ht (show (4 : Int) ≠ 1 by decide)
    subst t0
    exact ⟨show (1 : Int) ≤ 4 by decide, show (4 : Int) ≤ 7 by decide, z, z, readS_inv _, fun n hn => by simp [withText] at hn, show 0 ≤ 4096 by decide, fun _ => rfl, fun _ => ⟨rfl, rfl⟩, fun e => absurd rfl e, fun _ => rfl, fun e => absurd (show (4 : Int) = 1 from e) (by decide)⟩
  · obtain ⟨h4, ns, hr, rfl⟩ := h1
    obtain ⟨k1, k7, _⟩ := kindS_some (s := nm) rfl hk
    obtain ⟨g1, g2, _⟩ := readAll_inv (f := wholeS) (fun s hs => wholeS_inv hs) hr
    have gd : ∀ i, Ok (ns.getD i 0) := by
      intro i
      rw [List.getD_eq_getElem?_getD]
      cases hg : ns[i]? with
      | none => exact z
      | some x => exact g2 x (List.mem_of_getElem? hg)
    have hlen' := hlen
    unfold lenB at hlen'
    rw [← g1] at hlen' hl
    refine ⟨k1, k7, gd 0, gd 1, zn, fun n hn => g2 n (List.mem_of_mem_drop hn), ?_, ?_, ?_, fun _ => rfl, ht, ht1⟩
    · show (ns.drop 2).length ≤ 4096
      rw [List.length_drop]; omega
    · intro e
      have e' : kindS nm = 4 ∨ kindS nm = 6 ∨ kindS nm = 7 := e
      rw [if_pos (e'.resolve_left h4)] at hlen'
      have : ns.length = 0 := by simpa using hlen'
      show ns.getD 0 0 = 0
      rw [List.eq_nil_of_length_eq_zero this]; rfl
    · intro e
      have e' : kindS nm ≠ 5 := e
      have : ns.length ≤ 1 := by
        by_cases h6 : kindS nm = 6 ∨ kindS nm = 7
        · rw [if_pos h6] at hlen'
          have : ns.length = 0 := by simpa using hlen'
          omega
        · rw [if_neg h6, if_neg e'] at hlen'
          have : (ns.length : Int) = 1 := by simpa using hlen'
          omega
      refine ⟨?_, List.drop_eq_nil_of_le (by omega)⟩
      show ns.getD 1 0 = 0
      rw [List.getD_eq_getElem?_getD, List.getElem?_eq_none (by omega)]; rfl
theorem parseA_norm : ∀ (f i : Nat) (ls : List ByteArray) (acc cs : List Cmd), parseA f i ls acc = .ok cs → (∀ x ∈ ls, (10 : UInt8) ∉ x.data.toList) → (bodyL ls).length ≤ 1500 → (∀ c ∈ acc, Norm c) →
    (∀ c ∈ cs, Norm c) ∧ cs.length ≤ acc.length + ls.length
  | 0, i, ls, acc, cs, h, hf, hb, ha => by
    rw [parseA] at h
    cases h
    exact ⟨ha, by omega⟩
  | f + 1, i, [], acc, cs, h, hf, hb, ha => by
    rw [parseA] at h
    cases h
    exact ⟨ha, by omega⟩
  | f + 1, i, l :: r, acc, cs, h, hf, hb, ha => by
    rw [parseA] at h
    cases hr : readV l with
    | error e => rw [hr] at h; cases h
    | ok c =>
      rw [hr] at h
      dsimp only at h
      have hbr : (bodyL r).length ≤ 1500 := by
        have := bodyL_drop (l :: r) 1
        rw [List.drop_succ_cons, List.drop_zero] at this
        omega
      by_cases h1 : c.f0 = 1
      · rw [if_pos h1] at h
        by_cases hsh : (r.length : Int) < c.f1
        · rw [if_pos hsh] at h; cases h
        · rw [if_neg hsh] at h
          have hf1 := (readV_load hr).1
          have hn : Norm (withText c (mk (bodyL (r.take c.f1.toNat)))) := by
            refine read_norm hr _ (fun e => absurd h1 e) (fun _ => ⟨(r.take c.f1.toNat).map fun x => x.data.toList, ?_, ?_, ?_, rfl⟩)
            · intro x hx
              obtain ⟨y, hy, rfl⟩ := List.mem_map.1 hx
              exact hf y (by simp [List.mem_of_mem_take hy])
            · exact Nat.le_trans (bodyL_take _ _) hbr
            · rw [List.length_map, List.length_take]; omega
          obtain ⟨q1, q2⟩ := parseA_norm f _ _ _ cs h (fun x hx => hf x (by simp [List.mem_of_mem_drop hx])) (Nat.le_trans (bodyL_drop _ _) hbr) (by
            intro d hd
            rcases List.mem_append.1 hd with hd | hd
            · exact ha d hd
            · rw [List.mem_singleton.1 hd]; exact hn)
          refine ⟨q1, ?_⟩
          rw [List.length_append, List.length_singleton, List.length_drop] at q2
          rw [List.length_cons]
          omega
      · rw [if_neg h1] at h
        have hn : Norm c := by
          have := read_norm hr ⟨#[]⟩ (fun _ => rfl) (fun e => absurd e h1)
          rwa [show withText c ⟨#[]⟩ = c by unfold withText; rw [← (readV_load hr).2]] at this
        obtain ⟨q1, q2⟩ := parseA_norm f _ _ _ cs h (fun x hx => hf x (by simp [hx])) hbr (by
          intro d hd
          rcases List.mem_append.1 hd with hd | hd
          · exact ha d hd
          · rw [List.mem_singleton.1 hd]; exact hn)
        refine ⟨q1, ?_⟩
        rw [List.length_append, List.length_singleton] at q2
        rw [List.length_cons]
        omega
theorem bodyL_bulk : ∀ ls : List ByteArray, (bodyL ls).length = bulk ls ∧ ls.length ≤ bulk ls
  | [] => ⟨rfl, Nat.le_refl _⟩
  | a :: r => by
    have ih := bodyL_bulk r
    have e : bulk (a :: r) = (a.size + 1) + bulk r := by simp [bulk]
    refine ⟨?_, by rw [e, List.length_cons]; have := ih.2; omega⟩
    unfold bodyL
    rw [List.map_cons, joinL_cons, List.length_append, List.length_cons, ba_len, e]
    have := ih.1
    unfold bodyL at this
    omega
theorem parse_norm {s : ByteArray} {cs : List Cmd} (h : parseV s = .ok cs) (hs : s.size ≤ 1500) : (∀ c ∈ cs, Norm c) ∧ cs.length ≤ 1500 := by
  unfold parseV at h
  by_cases h0 : (linesS s).2 = 0
  · rw [if_neg (fun e => e h0)] at h
    obtain ⟨_, hb⟩ := linesS_inv (s := s) (ls := (linesS s).1) (by rw [← h0])
    obtain ⟨b1, b2⟩ := bodyL_bulk (linesS s).1
    obtain ⟨q1, q2⟩ := parseA_norm _ _ _ _ cs h lines_free (by omega) (by simp)
    exact ⟨q1, by simp only [List.length_nil] at q2; omega⟩
  · rw [if_pos h0] at h; cases h
theorem parseA_err : ∀ (f i : Nat) (ls : List ByteArray) (acc : List Cmd) (x : Int × Int), parseA f i ls acc = .error x → x.2 ≠ 0
  | 0, i, ls, acc, x, h => by rw [parseA] at h; cases h
  | f + 1, i, [], acc, x, h => by rw [parseA] at h; cases h
  | f + 1, i, l :: r, acc, x, h => by
    rw [parseA] at h
    cases hr : readV l with
    | error e => rw [hr] at h; cases h; exact readV_err hr
    | ok c =>
      rw [hr] at h
      dsimp only at h
      by_cases h1 : c.f0 = 1
      · rw [if_pos h1] at h
        by_cases hsh : (r.length : Int) < c.f1
        · rw [if_pos hsh] at h; cases h; exact (show (20 : Int) ≠ 0 by decide)
        · rw [if_neg hsh] at h; exact parseA_err f _ _ _ x h
      · rw [if_neg h1] at h; exact parseA_err f _ _ _ x h
theorem parseV_errne {s : ByteArray} {x : Int × Int} (h : parseV s = .error x) : x.2 ≠ 0 := by
  unfold parseV at h
  by_cases h0 : (linesS s).2 = 0
  · rw [if_neg (fun e => e h0)] at h; exact parseA_err _ _ _ _ x h
  · rw [if_pos h0] at h; cases h; exact h0
theorem nameL_inj {a b : Int} (h : nameL a = nameL b) (hn : nameL a ≠ []) : a = b := by
  have ha : 1 ≤ a ∧ a ≤ 7 := Decidable.byContradiction fun g => hn ((nameL_nil _).2 g)
  have hb : 1 ≤ b ∧ b ≤ 7 := Decidable.byContradiction fun g => (h ▸ hn) ((nameL_nil _).2 g)
  rw [← kindS_name ha.1 ha.2, h, kindS_name hb.1 hb.2]
theorem texts_norm : ∀ cs : List Cmd, (∀ c ∈ cs, Norm c) → (cs.flatMap textV).length ≤ 100000 * cs.length
  | [], _ => Nat.le_refl _
  | c :: cs, h => by
    have h1 := (h c (by simp)).len
    have h2 := texts_norm cs (fun d hd => h d (by simp [hd]))
    rw [List.flatMap_cons, List.length_append, List.length_cons]
    omega
theorem textV_head (c : Cmd) : ∃ t, textV c = nameL c.f0 ++ t ∧ t ≠ [] := by
  unfold textV lineV lineB
  exact ⟨_, by rw [List.append_assoc], by simp⟩
end Go.Proofs.YtdgifgdadminbaaDoor

/-! ### P3 -/
namespace Go.Proofs.YtdgifgdadminbaaDoor.PVerbNames
open Go.RowKit Go.Proofs.YtdgifgdadminbaaDoorW.PrintWords Go.Proofs.YtdgifgdadminbaaDoorW.PrintLast Go.Proofs.YtdgifgdadminbaaDoorW.PrintMore
attribute [local go_sem] max2_int min2_int max_two min_two max_three min_three max_four min_four   -- for this text's walks alone
set_option linter.unusedVariables false
set_option linter.unusedSimpArgs false

/-! ### jitneyref01_SameInts: function 40 -/
def jitneyref01_SameInts.l0 : Nat → List Int → List Int → Int → Option (Bool)
  | 0, _, _, _ => none
  | k + 1, x0, x1, x5 => if x5 < (x0.length : Int) then (if 0 ≤ x5 then (if x5 < (x1.length : Int) then (if (rd x0 x5) = (rd x1 x5) then (jitneyref01_SameInts.l0 k x0 x1 (wrap64 (x5 + 1))) else (some false)) else (none)) else (none)) else (some true)
def jitneyref01_SameInts.f (k : Nat) (l0 : List Int) (l1 : List Int) : Option (Bool) := if (l0.length : Int) = (l1.length : Int) then (jitneyref01_SameInts.l0 k l0 l1 0) else (some false)
theorem jitneyref01_SameInts.mono_l : ∀ k, (∀ y0 y1 y2, LeO (jitneyref01_SameInts.l0 k y0 y1 y2) (jitneyref01_SameInts.l0 (k + 1) y0 y1 y2))
  | 0 => fun _ _ _ r h => by simp [jitneyref01_SameInts.l0] at h
  | k + 1 => by
    have ih0 := jitneyref01_SameInts.mono_l k
    · intro y0 y1 y2
      unfold jitneyref01_SameInts.l0
      repeat' first
      | (with_reducible exact ih0 _ _ _)
      | (with_reducible exact LeO.refl _)
      | (with_reducible exact LeO.none _)
      | (with_reducible refine LeO.ite ?_ ?_)
      | (with_reducible refine LeO.bind ?_ (fun _ => ?_))
      | exact ih0 _ _ _
      | exact LeO.none _
      | refine LeO.ite ?_ ?_
      | refine LeO.bind ?_ (fun _ => ?_)
theorem jitneyref01_SameInts.mono : ∀ a0 a1 k, LeO (jitneyref01_SameInts.f k a0 a1) (jitneyref01_SameInts.f (k + 1) a0 a1) := by
  intro a0 a1 k
  have ih0 := jitneyref01_SameInts.mono_l k
  unfold jitneyref01_SameInts.f
  repeat' first
      | (with_reducible exact ih0 _ _ _)
      | (with_reducible exact LeO.refl _)
      | (with_reducible exact LeO.none _)
      | (with_reducible refine LeO.ite ?_ ?_)
      | (with_reducible refine LeO.bind ?_ (fun _ => ?_))
      | exact ih0 _ _ _
      | exact LeO.none _
      | refine LeO.ite ?_ ?_
      | refine LeO.bind ?_ (fun _ => ?_)
set_option maxHeartbeats 8000000 in
set_option maxRecDepth 100000 in
theorem jitneyref01_SameInts.calls (k : Nat) (A0 : Option Addr) (c0 : Nat) (l0 : List Int) (A1 : Option Addr) (c1 : Nat) (l1 : List Int) (r : Bool) (w : World) (hr0 : Kd.C (Kd.int .i64) w A0 l0.length l0) (hc0 : l0.length ≤ c0) (hr1 : Kd.C (Kd.int .i64) w A1 l1.length l1) (hc1 : l1.length ≤ c1) (h : jitneyref01_SameInts.f k l0 l1 = some r) :
    Calls Tryd.prog 40 #[.slice A0 l0.length c0, .slice A1 l1.length c1] w fun e w' => e = .returned (.bool r) ∧ Drawn0 w w' := by
  have HR0 := Aside0.mk hr0
  have HC0 := Aside0.mk hc0
  clear hr0 hc0
  have HR1 := Aside0.mk hr1
  have HC1 := Aside0.mk hc1
  clear hr1 hc1
  have H : (if (l0.length : Int) = (l1.length : Int) then (jitneyref01_SameInts.l0 k l0 l1 0) else (some false)) = some r := h
  clear h
  by_cases c3 : (l0.length : Int) = (l1.length : Int)
  · rw [if_pos c3] at H
    have c3b0 : ((l0.length : Int) == (l1.length : Int)) = true := beq_iff_eq.mpr c3
    have c3b1 : ((l0.length : Int) != (l1.length : Int)) = false := bne_eq_false_iff_eq.mpr c3
    have c3b2 : (l0.length == l1.length) = true := by first | simpa using c3 | (simp at c3 ⊢; omega)
    clear c3
    have H' := Aside0.mk H
    clear H
    go_enter Tryd.func40, Tryd.ntmps40
    go_wp2
    repeat (go_quiet (fail); try go_wp2)
    go_loopg [5] k (fun kq v5 w' => ∃ (x5_1 : Int), v5 = .int .i64 x5_1 ∧ Aside0 (jitneyref01_SameInts.l0 kq l0 l1 x5_1 = some r) ∧ Aside0 (kq ≤ k) ∧ Drawn0 w w')
    case atStart => exact ⟨(0), (by first | rfl | (simp; done) | (simp [*]; done)), H', ⟨Nat.le_refl _⟩, by repeat (first | exact Drawn0.refl _ | apply Drawn0.step)⟩
    case round =>
      clear H'
      try clear c1
      try clear p2
      try clear c3
      try clear c3b0
      try clear c3b1
      try clear c3b2
      obtain ⟨x5_1, rfl, HA, HK1, ⟨m1, rfl⟩⟩ := hrel
      cases gk with
      | zero => exact absurd HA.out (by simp [jitneyref01_SameInts.l0])
      | succ k1 =>
        have H := HA.out
        clear HA
        simp only [jitneyref01_SameInts.l0] at H
        by_cases c4 : x5_1 < (l0.length : Int)
        · rw [if_pos c4] at H
          have c4b0 : decide (x5_1 < (l0.length : Int)) = true := decide_eq_true c4
          clear c4
          by_cases c5 : 0 ≤ x5_1
          · rw [if_pos c5] at H
            have c5b0 : decide (0 ≤ x5_1) = true := decide_eq_true c5
            clear c5
            by_cases c6 : x5_1 < (l1.length : Int)
            · rw [if_pos c6] at H
              have c6b0 : decide (x5_1 < (l1.length : Int)) = true := decide_eq_true c6
              clear c6
              by_cases c7 : (rd l0 x5_1) = (rd l1 x5_1)
              · rw [if_pos c7] at H
                have c7b0 : ((rd l0 x5_1) == (rd l1 x5_1)) = true := beq_iff_eq.mpr c7
                have c7b1 : ((rd l0 x5_1) != (rd l1 x5_1)) = false := bne_eq_false_iff_eq.mpr c7
                clear c7
                have H' := Aside0.mk H
                clear H
                have p156 : 0 ≤ (x5_1 : Int) := of_decide_eq_true (by first | (with_reducible assumption) | assumption)
                have q156 : x5_1 < (l0.length : Int) := of_decide_eq_true (by first | (with_reducible assumption) | assumption)
                obtain ⟨ad156, e156, hx156_0⟩ := Kd.at_int HR0.out x5_1 p156 q156
                cases e156
                replace p156 := eq_true p156
                replace q156 := eq_true q156
                have p157 : 0 ≤ (x5_1 : Int) := of_decide_eq_true (by first | (with_reducible assumption) | assumption)
                have q157 : x5_1 < (l1.length : Int) := of_decide_eq_true (by first | (with_reducible assumption) | assumption)
                obtain ⟨ad157, e157, hx157_0⟩ := Kd.at_int HR1.out x5_1 p157 q157
                cases e157
                replace p157 := eq_true p157
                replace q157 := eq_true q157
                go_wp2
                repeat (go_quiet (fail); try go_wp2)
                go_roundg k1
                case measure => have := HK1.out; omega
                case rel => exact ⟨(wrap64 (x5_1 + 1)), (by first | rfl | (simp; done) | (simp [*]; done)), H', ⟨by have := HK1.out; omega⟩, by repeat (first | exact Drawn0.refl _ | apply Drawn0.step)⟩
              · rw [if_neg c7] at H
                have c7b0 : ((rd l0 x5_1) == (rd l1 x5_1)) = false := beq_eq_false_iff_ne.mpr c7
                have c7b1 : ((rd l0 x5_1) != (rd l1 x5_1)) = true := bne_iff_ne.mpr c7
                obtain rfl := Option.some.inj H
                have p156 : 0 ≤ (x5_1 : Int) := of_decide_eq_true (by first | (with_reducible assumption) | assumption)
                have q156 : x5_1 < (l0.length : Int) := of_decide_eq_true (by first | (with_reducible assumption) | assumption)
                obtain ⟨ad156, e156, hx156_0⟩ := Kd.at_int HR0.out x5_1 p156 q156
                cases e156
                replace p156 := eq_true p156
                replace q156 := eq_true q156
                have p157 : 0 ≤ (x5_1 : Int) := of_decide_eq_true (by first | (with_reducible assumption) | assumption)
                have q157 : x5_1 < (l1.length : Int) := of_decide_eq_true (by first | (with_reducible assumption) | assumption)
                obtain ⟨ad157, e157, hx157_0⟩ := Kd.at_int HR1.out x5_1 p157 q157
                cases e157
                replace p157 := eq_true p157
                replace q157 := eq_true q157
                go_wp2
                repeat (go_quiet (fail); try go_wp2)
                go_ret
                exact ⟨by first | rfl | (simp; done) | (simp [*]; done), by repeat (first | exact Drawn0.refl _ | apply Drawn0.step)⟩
            · rw [if_neg c6] at H
              exact absurd H (by simp)
          · rw [if_neg c5] at H
            exact absurd H (by simp)
        · rw [if_neg c4] at H
          have c4b0 : decide (x5_1 < (l0.length : Int)) = false := decide_eq_false c4
          clear c4
          obtain rfl := Option.some.inj H
          go_wp2
          repeat (go_quiet (fail); try go_wp2)
          go_ret
          exact ⟨by first | rfl | (simp; done) | (simp [*]; done), by repeat (first | exact Drawn0.refl _ | apply Drawn0.step)⟩
  · rw [if_neg c3] at H
    have c3b0 : ((l0.length : Int) == (l1.length : Int)) = false := beq_eq_false_iff_ne.mpr c3
    have c3b1 : ((l0.length : Int) != (l1.length : Int)) = true := bne_iff_ne.mpr c3
    have c3b2 : (l0.length == l1.length) = false := by first | simpa using c3 | (simp at c3 ⊢; omega)
    obtain rfl := Option.some.inj H
    go_enter Tryd.func40, Tryd.ntmps40
    go_wp2
    repeat (go_quiet (fail); try go_wp2)
    go_ret
    exact ⟨by first | rfl | (simp; done) | (simp [*]; done), by repeat (first | exact Drawn0.refl _ | apply Drawn0.step)⟩

-- NOT PRINTED: function 27 (jitneyref27_Same)

-- NOT PRINTED: function 9 (jitneylaw27_VerbNames)
end Go.Proofs.YtdgifgdadminbaaDoor.PVerbNames

/-! ### Vs -/
set_option linter.unusedSimpArgs false
set_option linter.unusedVariables false
set_option maxRecDepth 100000
namespace Go.Proofs.YtdgifgdadminbaaDoor
open Go.RowKit Go.Proofs.YtdgifgdadminbaaDoorW.PrintWords Sp
open PFileParses (wrap_id ba_len bt_nat toList_data info3 info2 info9)

theorem sameIntsV_self (xs : List Int) (hs : xs.length < 9223372036854775807) : ∀ (d i k : Nat), xs.length - i = d → d < k → PVerbNames.jitneyref01_SameInts.l0 k xs xs (i : Int) = some true
  | 0, i, k + 1, hd, hk => by
    rw [PVerbNames.jitneyref01_SameInts.l0, if_neg (by omega)]
  | d + 1, i, k + 1, hd, hk => by
    rw [PVerbNames.jitneyref01_SameInts.l0, if_pos (by omega), if_pos (by omega), if_pos (by omega), if_pos rfl, wrap_id (by omega) (by omega), show ((i : Int) + 1) = ((i + 1 : Nat) : Int) by omega]
    exact sameIntsV_self xs hs d (i + 1) k (by omega) (by omega)
theorem sameInts_c (xs : List Int) (A1 : Option Addr) (c1 : Nat) (A2 : Option Addr) (c2 : Nat) (w : World) (h1 : (Kd.int .i64).C w A1 xs.length xs) (l1 : xs.length ≤ c1) (h2 : (Kd.int .i64).C w A2 xs.length xs) (l2 : xs.length ≤ c2) (hs : xs.length ≤ 1000000) :
    Calls Tryd.prog 40 #[.slice A1 xs.length c1, .slice A2 xs.length c2] w fun e w' => e = .returned (.bool true) ∧ Below w.heap.size w w' := by
  refine (PVerbNames.jitneyref01_SameInts.calls (xs.length + 1) A1 c1 xs A2 c2 xs true w h1 l1 h2 l2 ?_).mono ?_
  · unfold PVerbNames.jitneyref01_SameInts.f
    rw [if_pos rfl]
    exact sameIntsV_self xs (by omega) xs.length 0 _ (by omega) (by omega)
  · rintro e w' h
    first | exact h | exact ⟨h.1, drawn_below (Below.refl _ _) h.2⟩
set_option maxHeartbeats 8000000 in
theorem sameV_c (cs : List Cmd) (A1 : Option Addr) (c1 : Nat) (A2 : Option Addr) (c2 : Nat) (w : World) (hC1 : PVerbPrints.k105.C w A1 cs.length (cs.map to105)) (hC2 : PVerbPrints.k105.C w A2 cs.length (cs.map to105)) (hn : ∀ c ∈ cs, c.f4.length ≤ 1000000) (hl : cs.length ≤ 1000000) :
    Calls Tryd.prog 27 #[.slice A1 cs.length c1, .slice A2 cs.length c2] w fun e w' => e = .returned (.bool true) ∧ Below w.heap.size w w' := by
  have HC1 := Lib.hid hC1
  have HC2 := Lib.hid hC2
  have HN := Lib.hid hn
  clear hC1 hC2 hn
  go_enter Tryd.func27, Tryd.ntmps27
  go_wp2_with fail
  go_loopw [5] (fun i wr => ∃ k : Nat, k ≤ cs.length ∧ i = .int .i64 k ∧ Below w.heap.size w wr) (fun i _ => cs.length - (intOf i).toNat)
  case atStart => exact ⟨0, Nat.zero_le _, rfl, Below.refl _ _⟩
  case round =>
    obtain ⟨k, hk, rfl, hbe⟩ := hrel
    have HB := Lib.hid hbe
    have hzr := hbe.size
    clear hbe
    by_cases hlt : k < cs.length
    · obtain ⟨ad, A4, d4, hAe, q0, q1, q2, q3, q4, q5, hl4, hC4⟩ := PVerbPrints.at_T105 (Kd.C_below HC1.out HB.out) k (by omega) (by omega)
      obtain ⟨ae, B4, e4, hBe, r0, r1, r2, r3, r4, r5, hm4, hD4⟩ := PVerbPrints.at_T105 (Kd.C_below HC2.out HB.out) k (by omega) (by omega)
      subst hAe
      subst hBe
      rw [rd_T105_at cs k hlt] at q0 q1 q2 q3 q4 q5 hl4 hC4 r0 r1 r2 r3 r4 r5 hm4 hD4
      rw [Int.toNat_natCast] at q0 q1 q2 q3 q4 q5 r0 r1 r2 r3 r4 r5
      have hnk := HN.out (cs[k]'hlt) (List.getElem_mem hlt)
      obtain ⟨c, hc⟩ : ∃ c, c = cs[k]'hlt := ⟨_, rfl⟩
      rw [← hc] at q0 q1 q2 q3 q4 q5 hl4 hC4 r0 r1 r2 r3 r4 r5 hm4 hD4 hnk
      unfold to105 at q0 q1 q2 q3 q4 q5 hl4 hC4 r0 r1 r2 r3 r4 r5 hm4 hD4
      dsimp only at q0 q1 q2 q3 q4 q5 hl4 hC4 r0 r1 r2 r3 r4 r5 hm4 hD4
      have HC4 := Lib.hid hC4
      have HD4 := Lib.hid hD4
      clear hc hC4 hD4
      go_upto_region 6 with fail
      have hK : ∀ w', Below wr.heap.size wr w' → (w'.cell? (ad.add (k * 6)) = some (.int .i64 c.f0) ∧ w'.cell? ⟨(ad.add (k * 6)).block, (ad.add (k * 6)).off + 1, none⟩ = some (.int .i64 c.f1) ∧ w'.cell? ⟨(ad.add (k * 6)).block, (ad.add (k * 6)).off + 2, none⟩ = some (.int .i64 c.f2) ∧ w'.cell? ⟨(ad.add (k * 6)).block, (ad.add (k * 6)).off + 3, none⟩ = some (.int .i64 c.f3) ∧ w'.cell? ⟨(ad.add (k * 6)).block, (ad.add (k * 6)).off + 4, none⟩ = some (.slice A4 c.f4.length d4) ∧ w'.cell? ⟨(ad.add (k * 6)).block, (ad.add (k * 6)).off + 5, none⟩ = some (.string c.f5) ∧ w'.cell? (ae.add (k * 6)) = some (.int .i64 c.f0) ∧ w'.cell? ⟨(ae.add (k * 6)).block, (ae.add (k * 6)).off + 1, none⟩ = some (.int .i64 c.f1) ∧ w'.cell? ⟨(ae.add (k * 6)).block, (ae.add (k * 6)).off + 2, none⟩ = some (.int .i64 c.f2) ∧ w'.cell? ⟨(ae.add (k * 6)).block, (ae.add (k * 6)).off + 3, none⟩ = some (.int .i64 c.f3) ∧ w'.cell? ⟨(ae.add (k * 6)).block, (ae.add (k * 6)).off + 4, none⟩ = some (.slice B4 c.f4.length e4) ∧ w'.cell? ⟨(ae.add (k * 6)).block, (ae.add (k * 6)).off + 5, none⟩ = some (.string c.f5) ∧ Below wr.heap.size wr w') := fun w' hb => ⟨cell_below q0 hb, cell_below q1 hb, cell_below q2 hb, cell_below q3 hb, cell_below q4 hb, cell_below q5 hb, cell_below r0 hb, cell_below r1 hb, cell_below r2 hb, cell_below r3 hb, cell_below r4 hb, cell_below r5 hb, hb⟩
      have hT : ∀ o1 o2 : Obj, (((wr.alloc o1).alloc o2).drew).heap[wr.heap.size]? = some o1 ∧ (((wr.alloc o1).alloc o2).drew).heap[wr.heap.size + 1]? = some o2 ∧ Below wr.heap.size wr (((wr.alloc o1).alloc o2).drew) := by
        intro o1 o2
        refine ⟨?_, ?_, (((Below.refl _ _).alloc (Nat.le_refl _) _).alloc (by simp) _).drew⟩
        · show ((wr.alloc o1).alloc o2).heap[wr.heap.size]? = _
          have hb : Below (wr.alloc o1).heap.size (wr.alloc o1) ((wr.alloc o1).alloc o2) := (Below.refl _ _).alloc (Nat.le_refl _) _
          rw [hb.block wr.heap.size (by simp)]
          exact heap_alloc_new wr o1
        · have h := heap_alloc_new (wr.alloc o1) o2
          rw [show (wr.alloc o1).heap.size = wr.heap.size + 1 by simp] at h
          exact h
      have HT := Lib.hid hT
      have HK := Lib.hid hK
      clear hK hT
      go_cut [6, 7] (fun p1 p2 wx => ∃ g1 g2 : Nat, p1 = .pointer (some ⟨g1, 0, none⟩) ∧ p2 = .pointer (some ⟨g2, 0, none⟩) ∧ wr.heap.size ≤ g1 ∧ wr.heap.size ≤ g2 ∧
        wx.heap[g1]? = some (.cells #[.int .i64 c.f0, .int .i64 c.f1, .int .i64 c.f2, .int .i64 c.f3, .slice A4 c.f4.length d4, .string c.f5] 105 (0, 0)) ∧
        wx.heap[g2]? = some (.cells #[.int .i64 c.f0, .int .i64 c.f1, .int .i64 c.f2, .int .i64 c.f3, .slice B4 c.f4.length e4, .string c.f5] 105 (0, 0)) ∧ Below wr.heap.size wr wx)
      case first =>
        go_region_held3 (fun w' => w'.cell? (ad.add (k * 6)) = some (.int .i64 c.f0) ∧ w'.cell? ⟨(ad.add (k * 6)).block, (ad.add (k * 6)).off + 1, none⟩ = some (.int .i64 c.f1) ∧ w'.cell? ⟨(ad.add (k * 6)).block, (ad.add (k * 6)).off + 2, none⟩ = some (.int .i64 c.f2) ∧ w'.cell? ⟨(ad.add (k * 6)).block, (ad.add (k * 6)).off + 3, none⟩ = some (.int .i64 c.f3) ∧ w'.cell? ⟨(ad.add (k * 6)).block, (ad.add (k * 6)).off + 4, none⟩ = some (.slice A4 c.f4.length d4) ∧ w'.cell? ⟨(ad.add (k * 6)).block, (ad.add (k * 6)).off + 5, none⟩ = some (.string c.f5) ∧ w'.cell? (ae.add (k * 6)) = some (.int .i64 c.f0) ∧ w'.cell? ⟨(ae.add (k * 6)).block, (ae.add (k * 6)).off + 1, none⟩ = some (.int .i64 c.f1) ∧ w'.cell? ⟨(ae.add (k * 6)).block, (ae.add (k * 6)).off + 2, none⟩ = some (.int .i64 c.f2) ∧ w'.cell? ⟨(ae.add (k * 6)).block, (ae.add (k * 6)).off + 3, none⟩ = some (.int .i64 c.f3) ∧ w'.cell? ⟨(ae.add (k * 6)).block, (ae.add (k * 6)).off + 4, none⟩ = some (.slice B4 c.f4.length e4) ∧ w'.cell? ⟨(ae.add (k * 6)).block, (ae.add (k * 6)).off + 5, none⟩ = some (.string c.f5) ∧ Below wr.heap.size wr w')
          (first | assumption | (refine HK.out _ ?_; repeat (first | exact Below.refl _ _ | refine Below.drew ?_ | refine Below.setCell ?_ (by simp) _ | refine Below.alloc ?_ (by simp) _))) (fail)
        all_goals
          go_wp2_with fail
          go_meet
          case rel => first | exact ⟨_, _, rfl, rfl, by omega, by omega, (HT.out _ _).1, (HT.out _ _).2.1, (HT.out _ _).2.2⟩ | exact ⟨_, _, rfl, rfl, by omega, by omega, (HT.out _ _).2.1, (HT.out _ _).1, (HT.out _ _).2.2⟩
      case rest =>
        obtain ⟨g1, g2, rfl, rfl, hg1, hg2, hh1, hh2, hbc⟩ := hcut
        have hzc := hbc.size
        have HBC := Lib.hid hbc
        have a0 := cell_of_heap hh1 0 rfl
        have a1 := cell_of_heap hh1 1 rfl
        have a2 := cell_of_heap hh1 2 rfl
        have a3 := cell_of_heap hh1 3 rfl
        have a4 := cell_of_heap hh1 4 rfl
        have a5 := cell_of_heap hh1 5 rfl
        have b0 := cell_of_heap hh2 0 rfl
        have b1 := cell_of_heap hh2 1 rfl
        have b2 := cell_of_heap hh2 2 rfl
        have b3 := cell_of_heap hh2 3 rfl
        have b4 := cell_of_heap hh2 4 rfl
        have b5 := cell_of_heap hh2 5 rfl
        have HS := Lib.hid (sameInts_c c.f4 A4 d4 B4 e4 wc (Kd.C_below HC4.out hbc) hl4 (Kd.C_below HD4.out hbc) hm4 hnk)
        have k0 : (c.f0 != c.f0) = false := by simp
        have k1 : (c.f1 != c.f1) = false := by simp
        have k2 : (c.f2 != c.f2) = false := by simp
        have k3 : (c.f3 != c.f3) = false := by simp
        have k5 : (c.f5.toList != c.f5.toList) = false := by simp
        clear hbc hh1 hh2 q0 q1 q2 q3 q4 q5 r0 r1 r2 r3 r4 r5 HK
        go_wp2_with fail
        refine HS.out.mono ?_
        rintro e w7 ⟨rfl, hb7⟩
        have HB7 := Lib.hid (HB.out.trans ((HBC.out.trans (hb7.mono hzc)).mono hzr))
        clear hb7
        go_wp2_with fail
        go_roundw
        case rel => exact ⟨k + 1, by omega, by go_num, HB7.out⟩
        case measure => (simp [intOf]; omega)
    · go_wp2_with fail
      go_ret
      exact ⟨rfl, HB.out⟩
end Go.Proofs.YtdgifgdadminbaaDoor

/-! ### Vm -/
set_option linter.unusedSimpArgs false
set_option linter.unusedVariables false
set_option maxRecDepth 100000
namespace Go.Proofs.YtdgifgdadminbaaDoor
open Go.RowKit Go.Proofs.YtdgifgdadminbaaDoorW.PrintWords Sp
open PFileParses (wrap_id ba_len bt_nat toList_data info3 info2 info9)

theorem Norm.print {c : Cmd} (h : Norm c) : printV [c] = (textV c, 0) := by
  rw [printV_ok (fun d hd => by rw [List.mem_singleton.1 hd]; exact h.check), List.flatMap_singleton]
theorem prints_norm {cs : List Cmd} (h : ∀ c ∈ cs, Norm c) : printV cs = (cs.flatMap textV, 0) := printV_ok (fun d hd => (h d hd).check)
/-- What one command's text shows: the name ahead, and more behind. -/
theorem Norm.head {c : Cmd} (h : Norm c) : (nameL c.f0).length < (textV c).length ∧ (mk (textV c)).extract 0 (mk (nameL c.f0)).size = mk (nameL c.f0) ∧ nameL c.f0 ≠ [] := by
  obtain ⟨t, ht, hn⟩ := textV_head c
  have hp := List.length_pos_iff.2 hn
  refine ⟨by rw [ht, List.length_append]; omega, ?_, fun e => (nameL_nil _).1 e ⟨h.k1, h.k7⟩⟩
  rw [mk_size]
  have : ((mk (textV c)).extract 0 (nameL c.f0).length).data.toList = nameL c.f0 := by
    rw [ByteArray.data_extract, Array.toList_extract, List.extract_eq_take_drop, data_mk, ht, List.drop_zero, Nat.sub_zero, List.take_left']
    rfl
  exact ba_eq (by rw [data_mk]; exact this)

structure Row55 (c : Cmd) (A : Option Addr) (cap : Nat) (w : World) : Prop where
  get : PVerbPrints.k55.C w A 1 [c]
  room : 1 ≤ cap
structure Row105 (c : Cmd) (A : Option Addr) (w : World) : Prop where
  get : PVerbPrints.k105.C w A 1 ([c].map to105)
theorem Row105.below {c : Cmd} {A : Option Addr} {w w' : World} (h : Row105 c A w) (hb : Below w.heap.size w w') : Row105 c A w' := ⟨Kd.C_below h.get hb⟩
structure Made (g : Nat) (o : Obj) (w : World) : Prop where
  get : w.heap[g]? = some o
theorem made_new (w : World) (o : Obj) : Made w.heap.size o (w.alloc o) := ⟨heap_alloc_new w o⟩
theorem made_drew (w : World) (o : Obj) : Made w.heap.size o (w.alloc o).drew := ⟨heap_alloc_new w o⟩
theorem Made.below {g : Nat} {o : Obj} {w w' : World} (h : Made g o w) (hb : Below w.heap.size w w') : Made g o w' := by
  refine ⟨(hb.block g ?_).trans h.get⟩
  rcases Nat.lt_or_ge g w.heap.size with h1 | h1
  · exact h1
  · have := h.get
    rw [Array.getElem?_eq_none h1] at this; cases this

theorem meas_lt {n k : Nat} (h : k < n) : n - (intOf (.int .i64 ((k : Int) + 1))).toNat < n - (intOf (.int .i64 (k : Int))).toNat := by
  simp only [intOf]
  omega
set_option maxHeartbeats 16000000 in
theorem verbNames_walk (t : ByteArray) (a b : Int) (w : World) (hE : EnvV w) :
    Calls Tryd.prog 9 #[.string t, .int .i64 a, .int .i64 b] w fun e w' => e = .returned (.bool true) ∧ Below w.heap.size w w' := by
  have h3 := hE.size
  have HA := Lib.hid (aliveV_c w hE)
  have HE := Lib.hid hE
  clear hE
  go_enter Tryd.func9, Tryd.ntmps9
  go_wp2_with fail
  refine HA.out.mono ?_
  rintro e w1 ⟨rfl, hb1⟩
  have HB1 := Lib.hid hb1
  have hz1 := hb1.size
  clear hb1
  by_cases hlong : 1500 < t.size
  · have hb : decide ((1500 : Int) < (t.size : Int)) = true := decide_eq_true (by omega)
    go_wp2_with fail
    go_ret
    exact ⟨rfl, HB1.out⟩
  · have hb : decide ((1500 : Int) < (t.size : Int)) = false := decide_eq_false (by omega)
    have ht : t.size ≤ 1500 := by omega
    clear hlong
    have HNa := Lib.hid (name_c a w1 (HE.out.below HB1.out h3))
    have HNb := Lib.hid (name_c b w1 (HE.out.below HB1.out h3))
    go_upto_region 5 with fail
    go_cut [40] (fun v wx => v = .bool false ∧ wx = w1)
    case first =>
      by_cases hab : a = b
      · have g : (a != b) = false := by simp [hab]
        go_wp2_with fail
        go_meet
        case rel => exact ⟨rfl, rfl⟩
      · have g : (a != b) = true := bne_iff_ne.2 hab
        have hinj : nameL a = nameL b → nameL a = [] := fun h => Decidable.byContradiction fun hn => hab (nameL_inj h hn)
        obtain ⟨na, hna⟩ : ∃ na, na = mk (nameL a) := ⟨_, rfl⟩
        obtain ⟨nb, hnb⟩ : ∃ nb, nb = mk (nameL b) := ⟨_, rfl⟩
        rw [← hna] at HNa
        rw [← hnb] at HNb
        have HA1 := Lib.hid hna
        have HB1' := Lib.hid hnb
        clear hab hna hnb
        go_wp2_with fail
        refine HNa.out.mono ?_
        rintro e w2 ⟨rfl, rfl⟩
        go_wp2_with fail
        refine HNb.out.mono ?_
        rintro e w2 ⟨rfl, rfl⟩
        by_cases hs : na = nb
        · have g3 : na = ⟨#[]⟩ := by
            have h4 : nameL a = nameL b := by
              have := congrArg (fun s : ByteArray => s.data.toList) (HA1.out.symm.trans (hs.trans HB1'.out))
              simpa [data_mk] using this
            rw [HA1.out, hinj h4]; rfl
          have g4 : nb = ⟨#[]⟩ := hs ▸ g3
          clear HA1 HB1' hinj hs
          subst g3
          subst g4
          go_wp2_with fail
          refine HNa.out.mono ?_
          rintro e w2 ⟨rfl, rfl⟩
          go_wp2_with fail
          go_meet
          case rel => exact ⟨rfl, rfl⟩
        · have g2 : (na.toList == nb.toList) = false := beq_eq_false_iff_ne.2 (fun e => hs (toList_inj.1 e))
          clear HA1 HB1' hinj hs
          go_wp2_with fail
          go_meet
          case rel => exact ⟨rfl, rfl⟩
    case rest =>
      obtain ⟨rfl, rfl⟩ := hcut
      clear HNa HNb
      cases hp : parseV t with
      | error x =>
        obtain ⟨x1, x2⟩ := x
        have hne := parseV_errne hp
        dsimp only at hne
        have HP := Lib.hid (parseV_err hp wc (HE.out.below HB1.out h3) (by omega))
        have g1 : (x2 != 0) = true := bne_iff_ne.2 hne
        clear hp hne
        go_wp2_with fail
        refine HP.out.mono ?_
        rintro e w2 ⟨rfl, hb2⟩
        have HB2 := Lib.hid (HB1.out.trans (hb2.mono hz1))
        clear hb2
        go_wp2_with fail
        go_ret
        exact ⟨rfl, HB2.out⟩
      | ok cs =>
        obtain ⟨hnorm, hcl⟩ := parse_norm hp ht
        have HP := Lib.hid (parseV_ok hp wc (HE.out.below HB1.out h3) (by omega))
        have HNM := Lib.hid hnorm
        clear hp hnorm
        go_wp2_with fail
        refine HP.out.mono ?_
        rintro e w2 ⟨A, cap, rfl, hR, hb2⟩
        have HR := Lib.hid hR
        have hcap := (Kd.R_reads' hR).2.1
        have HB2 := Lib.hid (HB1.out.trans (hb2.mono hz1))
        have hz2 := HB2.out.size
        clear hb2 hR HP
        go_wp2_with fail
        go_loopw [10, 51] (fun s i wr => ∃ k : Nat, k ≤ cs.length ∧ s = .string (mk ((cs.take k).flatMap textV)) ∧ i = .int .i64 k ∧ Below w2.heap.size w2 wr) (fun _ i _ => cs.length - (intOf i).toNat)
        case atStart => exact ⟨0, Nat.zero_le _, rfl, rfl, Below.refl _ _⟩
        case round =>
          obtain ⟨k, hk, rfl, rfl, hbe⟩ := hrel
          have HB := Lib.hid hbe
          have hzr := hbe.size
          have hCr := kc_C (Kd.R_reads' (Kd.R_below HR.out hbe)).2.2
          have HCr := Lib.hid hCr
          clear hbe hCr
          by_cases hlt : k < cs.length
          · obtain ⟨ad, A4, c4, hAe, q0, q1, q2, q3, q4, q5, hl4, hC4⟩ := PVerbPrints.at_T55 HCr.out k (by omega) (by omega)
            subst hAe
            rw [rd_T55_at cs k hlt] at q0 q1 q2 q3 q4 q5 hl4 hC4
            rw [Int.toNat_natCast] at q0 q1 q2 q3 q4 q5
            have hNk := HNM.out (cs[k]'hlt) (List.getElem_mem hlt)
            have htk : cs.take (k + 1) = cs.take k ++ [cs[k]'hlt] := List.take_succ_eq_append_getElem hlt
            obtain ⟨c, hc⟩ : ∃ c, c = cs[k]'hlt := ⟨_, rfl⟩
            rw [← hc] at q0 q1 q2 q3 q4 q5 hl4 hC4 hNk htk
            have htl := texts_norm (cs.take k) (fun d hd => HNM.out d (List.mem_of_mem_take hd))
            have htk2 := List.length_take_le k cs
            obtain ⟨so, hso⟩ : ∃ so, so = mk ((cs.take k).flatMap textV) := ⟨_, rfl⟩
            have hss : so.size ≤ 150000000 := by rw [hso, mk_size]; exact Nat.le_trans htl (by omega)
            rw [← hso]
            have HSO := Lib.hid hso
            have HNK := Lib.hid hNk
            have HTK := Lib.hid htk
            have HC4 := Lib.hid hC4
            clear hNk htk hc hC4 htl htk2 hso
            go_upto_region 14 with fail
            obtain ⟨W2, hW2⟩ : ∃ W2, W2 = wr.alloc (.cells #[.int .i64 c.f0, .int .i64 c.f1, .int .i64 c.f2, .int .i64 c.f3, .slice A4 c.f4.length c4, .string c.f5] 55) := ⟨_, rfl⟩
            rw [← hW2]
            have hbW2 : Below wr.heap.size wr W2 := by rw [hW2]; exact (Below.refl _ _).alloc (Nat.le_refl _) _
            have hn2 : W2.heap[wr.heap.size]? = some (.cells #[.int .i64 c.f0, .int .i64 c.f1, .int .i64 c.f2, .int .i64 c.f3, .slice A4 c.f4.length c4, .string c.f5] 55 (0, 0)) := by rw [hW2]; exact heap_alloc_new wr _
            have hzW2 : wr.heap.size < W2.heap.size := by rw [hW2]; simp
            have HN2 := Lib.hid hn2
            have HC42 := Lib.hid (Kd.C_below HC4.out hbW2)
            have HBr2 := Lib.hid (HB.out.trans (hbW2.mono hzr))
            have HE2 := Lib.hid (HE.out.below (HB2.out.trans (HBr2.out.mono hz2)) h3)
            obtain ⟨a0, a1, a2, a3, a4, a5⟩ := cmd_cells hn2 (Below.refl _ _)
            have hb3 : Below W2.heap.size W2 (W2.alloc (.cells #[.int .i64 c.f0, .int .i64 c.f1, .int .i64 c.f2, .int .i64 c.f3, .slice A4 c.f4.length c4, .string c.f5] 55)) := (Below.refl _ _).alloc (Nat.le_refl _) _
            have hP := printV_c [c] (some ⟨W2.heap.size, 0, none⟩) 1 (W2.alloc (.cells #[.int .i64 c.f0, .int .i64 c.f1, .int .i64 c.f2, .int .i64 c.f3, .slice A4 c.f4.length c4, .string c.f5] 55)) (HE2.out.below hb3 (by omega))
              (C_one55 c (by exact heap_alloc_new W2 _) hl4 (Kd.C_below HC42.out hb3)) (fun d hd => by rw [List.mem_singleton.1 hd]; exact HNK.out.fit) (show 1 ≤ 1000000 by decide)
            unfold printVQ at hP
            rw [HNK.out.print] at hP
            dsimp only at hP
            obtain ⟨hlen, hext, hnm⟩ := HNK.out.head
            have htx := HNK.out.len
            obtain ⟨s, hs⟩ : ∃ s, s = mk (textV c) := ⟨_, rfl⟩
            obtain ⟨nm, hnn⟩ : ∃ nm, nm = mk (nameL c.f0) := ⟨_, rfl⟩
            have hsz : s.size ≤ 100000 := by rw [hs, mk_size]; exact htx
            have hnz : nm.size < s.size := by rw [hs, hnn, mk_size, mk_size]; exact hlen
            have hne : nm ≠ ⟨#[]⟩ := fun e => hnm (by rw [← data_mk (nameL c.f0), ← hnn, e])
            rw [← hs, ← hnn] at hext
            rw [← hs] at hP
            have HP := Lib.hid hP
            have HS := Lib.hid hs
            have HNN := Lib.hid hnn
            have HB3 := Lib.hid hb3
            clear hP hW2 hbW2 hn2 q0 q1 q2 q3 q4 q5 hb3 hlen hnm htx hs hnn
            go_wp2_with fail
            refine HP.out.mono ?_
            rintro e w4 ⟨rfl, hb4⟩
            have hb24 := HB3.out.trans (hb4.mono HB3.out.size)
            have HB24 := Lib.hid hb24
            have hz4 := hb24.size
            have hNm := name_c c.f0 w4 (HE2.out.below hb24 (by omega))
            rw [← HNN.out] at hNm
            have HNm := Lib.hid hNm
            have hn4 := (hb24.block wr.heap.size hzW2).trans HN2.out
            have HN4 := Lib.hid hn4
            clear a0 a1 a2 a3 a4 a5
            obtain ⟨a0, a1, a2, a3, a4, a5⟩ := cmd_cells hn4 (Below.refl _ _)
            clear hb4 hb24 hNm hn4 HP
            go_wp2_with fail
            refine HNm.out.mono ?_
            rintro e w5 ⟨rfl, rfl⟩
            have k0 : ¬ nm.toList = [] := fun e => hne (toList_inj.1 (e.trans (by rw [toList_data])))
            have k1 : nm.toList.isEmpty = false := by cases hx : nm.toList with | nil => exact absurd hx k0 | cons _ _ => rfl
            have k2 : ¬ s.size ≤ nm.size := by omega
            have k3 : nm.size ≤ s.size := by omega
            have hback := HNK.out.back
            rw [← HS.out] at hback
            have HPB := Lib.hid (parseV_ok hback w5 (HE2.out.below HB24.out (by omega)) (by omega))
            clear hback hne hnz
            go_upto_region 18 with fail
            go_wp2_with fail
            refine HPB.out.mono ?_
            rintro e w6 ⟨A2, c2, rfl, hR2, hb6⟩
            have hz6 := hb6.size
            have HB26 := Lib.hid (HB24.out.trans (hb6.mono hz4))
            have hC2 := kc_C (Kd.R_reads' hR2).2.2
            have hl2 := (Kd.R_reads' hR2).2.1
            have hn6 := (hb6.block wr.heap.size (by omega)).trans HN4.out
            have HN6 := Lib.hid hn6
            have HC2 := Lib.hid hC2
            clear a0 a1 a2 a3 a4 a5
            have a0 := cell_of_heap hn6 0 rfl
            have a1 := cell_of_heap hn6 1 rfl
            have a2 := cell_of_heap hn6 2 rfl
            have a3 := cell_of_heap hn6 3 rfl
            have a4 := cell_of_heap hn6 4 rfl
            have a5 := cell_of_heap hn6 5 rfl
            clear hb6 hR2 hn6 hC2 HPB k0 k1 k2 k3
            have HK := Lib.hid (show ∀ w', Below w6.heap.size w6 w' → (w'.cell? ⟨wr.heap.size, 0, none⟩ = some (.int .i64 c.f0) ∧ w'.cell? ⟨wr.heap.size, 1, none⟩ = some (.int .i64 c.f1) ∧ w'.cell? ⟨wr.heap.size, 2, none⟩ = some (.int .i64 c.f2) ∧ w'.cell? ⟨wr.heap.size, 3, none⟩ = some (.int .i64 c.f3) ∧ w'.cell? ⟨wr.heap.size, 4, none⟩ = some (.slice A4 c.f4.length c4) ∧ w'.cell? ⟨wr.heap.size, 5, none⟩ = some (.string c.f5) ∧ Below w6.heap.size w6 w') from fun w' hb => ⟨cell_below a0 hb, cell_below a1 hb, cell_below a2 hb, cell_below a3 hb, cell_below a4 hb, cell_below a5 hb, hb⟩)
            have HC46 := Lib.hid (Kd.C_below HC42.out HB26.out)
            have hR1 : ∀ W, Below w6.heap.size w6 W → Row55 c A2 c2 W := fun W hW => ⟨Kd.C_below HC2.out hW, hl2⟩
            have hR2 : ∀ W g, Below w6.heap.size w6 W → Made g (.cells #[.int .i64 c.f0, .int .i64 c.f1, .int .i64 c.f2, .int .i64 c.f3, .slice A4 c.f4.length c4, .string c.f5] 55) W → Row55 c (some ⟨g, 0, none⟩) 1 W := fun W g hW hg => ⟨C_one55 c hg.get hl4 (Kd.C_below HC46.out hW), Nat.le_refl _⟩
            have hC1 : ∀ W A' c', Below w6.heap.size w6 W → Row55 c A' c' W → Calls Tryd.prog 24 #[.slice A' 1 c'] W fun e w' => ∃ A' c', e = .returned (.slice A' 1 c') ∧ Row105 c A' w' ∧ Below W.heap.size W w' ∧ Below w6.heap.size w6 w' := by
              intro W A' c' hW hr
              refine (asV_c [c] A' c' W hr.get hr.room (show 1 ≤ 1000000 by decide)).mono ?_
              rintro e w' ⟨A', c', he, hc', hC, hb⟩
              exact ⟨A', c', he, ⟨hC⟩, hb, hW.trans (hb.mono hW.size)⟩
            have hC3 : ∀ W B1 e1 B2 e2, Below w6.heap.size w6 W → Row105 c B1 W → Row105 c B2 W → Calls Tryd.prog 27 #[.slice B1 1 e1, .slice B2 1 e2] W fun e w' => e = .returned (.bool true) ∧ Below w6.heap.size w6 w' := by
              intro W B1 e1 B2 e2 hW h1 h2
              refine (sameV_c [c] B1 e1 B2 e2 W h1.get h2.get (fun d hd => by rw [List.mem_singleton.1 hd]; have := HNK.out.many; omega) (show 1 ≤ 1000000 by decide)).mono ?_
              rintro e w' ⟨he, hb⟩
              exact ⟨he, hW.trans (hb.mono hW.size)⟩
            have HR1 := Lib.hid hR1
            have HR2 := Lib.hid hR2
            have HC1 := Lib.hid hC1
            have HC3 := Lib.hid hC3
            clear hC1 hC3 hR1 hR2
            go_upto_region 19 with fail
            go_region_held3 (fun w' => w'.cell? ⟨wr.heap.size, 0, none⟩ = some (.int .i64 c.f0) ∧ w'.cell? ⟨wr.heap.size, 1, none⟩ = some (.int .i64 c.f1) ∧ w'.cell? ⟨wr.heap.size, 2, none⟩ = some (.int .i64 c.f2) ∧ w'.cell? ⟨wr.heap.size, 3, none⟩ = some (.int .i64 c.f3) ∧ w'.cell? ⟨wr.heap.size, 4, none⟩ = some (.slice A4 c.f4.length c4) ∧ w'.cell? ⟨wr.heap.size, 5, none⟩ = some (.string c.f5) ∧ Below w6.heap.size w6 w')
              (first | assumption | (refine HK.out _ ?_; first | assumption | exact Below.alloc hwA hwA.size _ | (repeat (first | exact Below.refl _ _ | refine Below.drew ?_ | refine Below.alloc ?_ (by simp) _))))
              (first
                | (go_at_call 27; refine (HC3.out _ _ _ _ _ ?_ ?_ ?_).mono ?_; (first | exact And.right (And.right (And.right (And.right (And.right (And.right (by assumption)))))) | exact Below.refl _ _ | exact (Below.refl _ _).drew | exact ((Below.refl _ _).alloc (Nat.le_refl _) _).drew | exact ((Below.refl _ _).drew).alloc (by simp) _); (first | exact hCA | exact hCA.below hbB | exact hCA.below (((Below.refl _ _).alloc (Nat.le_refl _) _).trans (hbB.mono (by simp)))); (first | exact hCB | exact hCB.below hbA); rintro e wC ⟨rfl, hwC⟩)
                | (go_at_call 24; refine (HC1.out _ _ _ ?_ ?_).mono ?_; (first | exact And.right (And.right (And.right (And.right (And.right (And.right (by assumption)))))) | exact Below.refl _ _ | exact (Below.refl _ _).drew | exact ((Below.refl _ _).alloc (Nat.le_refl _) _).drew | exact ((Below.refl _ _).drew).alloc (by simp) _); first | ((exact HR1.out _ (by first | exact And.right (And.right (And.right (And.right (And.right (And.right (by assumption)))))) | exact Below.refl _ _ | exact (Below.refl _ _).drew | exact ((Below.refl _ _).alloc (Nat.le_refl _) _).drew | exact ((Below.refl _ _).drew).alloc (by simp) _)); rintro e wA ⟨A5, c5, rfl, hCA, hbA, hwA⟩) | ((refine HR2.out _ _ (by (first | exact And.right (And.right (And.right (And.right (And.right (And.right (by assumption)))))) | exact Below.refl _ _ | exact (Below.refl _ _).drew | exact ((Below.refl _ _).alloc (Nat.le_refl _) _).drew | exact ((Below.refl _ _).drew).alloc (by simp) _)) ?_); (first | exact made_new _ _ | exact made_drew _ _ | exact (made_new _ _).below hbA | exact (made_drew _ _).below hbA); rintro e wB ⟨A6, c6, rfl, hCB, hbB, hwB⟩)))
            all_goals
              have HBC := Lib.hid (HBr2.out.trans ((HB26.out.trans (hwC.mono HB26.out.size)).mono HBr2.out.size))
              have hcat : mk ((cs.take (k + 1)).flatMap textV) = so ++ s := by
                rw [HTK.out, List.flatMap_append, List.flatMap_singleton, HSO.out, HS.out]
                exact ba_eq (by rw [data_mk, ByteArray.data_append, Array.toList_append, data_mk, data_mk])
              have HCAT := Lib.hid hcat
              clear hcat hwC hCA hbA hwA hCB hbB hwB a0 a1 a2 a3 a4 a5
              go_wp2_with fail
              go_roundw
              case rel => exact ⟨k + 1, hlt, congrArg Value.string HCAT.out.symm, congrArg (Value.int .i64) (Int.natCast_succ k).symm, HBC.out⟩
              case measure => exact meas_lt hlt
          · have hke : k = cs.length := by omega
            subst hke
            rw [List.take_length]
            have hBw := HB2.out.trans (HB.out.mono hz2)
            have HBw := Lib.hid hBw
            have hP := printV_c cs A cap wr (HE.out.below hBw h3) HCr.out (fun c hc => (HNM.out c hc).fit) (by omega)
            unfold printVQ at hP
            rw [prints_norm HNM.out] at hP
            dsimp only at hP
            obtain ⟨so, hso⟩ : ∃ so, so = mk (cs.flatMap textV) := ⟨_, rfl⟩
            rw [← hso] at hP ⊢
            have HP := Lib.hid hP
            clear hP hso hBw
            go_wp2_with fail
            refine HP.out.mono ?_
            rintro e w3 ⟨rfl, hb3⟩
            have HB3 := Lib.hid (HBw.out.trans (hb3.mono HBw.out.size))
            clear hb3
            have k2 : (so.toList == so.toList) = true := beq_self_eq_true _
            go_wp2_with fail
            go_ret
            exact ⟨rfl, HB3.out⟩
end Go.Proofs.YtdgifgdadminbaaDoor
