/- strings.Builder: copyCheck, WriteString. Written by this session, after the shelf's own proofs. -/
import Derived.Test.YtdgifgdadminbaaDoorSh
import Derived.Test.YtdgifgdadminbaaDoorPFileParsesx0
import Derived.Shelf.Strings.Builder1
import Derived.Laws.Externs
import Derived.Lib.Hide
set_option linter.unusedSimpArgs false
set_option linter.unusedVariables false
set_option maxRecDepth 100000
namespace Go.Proofs.YtdgifgdadminbaaDoor
open Go.RowKit

theorem bx_size : (Tryd.prog.info? 91).map (·.size) = some 2 := by kernel_rfl
theorem bx_lies : liesAt Tryd.prog Tryd.prog.depth 91 (2 / Tryd.prog.cellsOf 91) 0 91 1 = true := by kernel_rfl
theorem bx_byte : (Tryd.prog.info? 5).map (fun i => (i.zero, i.size, i.bytes)) = some (some (.int .u8 0), 1, 1) := by kernel_rfl

set_option maxHeartbeats 1000000 in
theorem copyCheck_used (b : Nat) (w : World) (h0 : w.cell? ⟨b, 0, none⟩ = some (.pointer (some ⟨b, 0, none⟩))) :
    Calls Tryd.prog 87 #[.pointer (some ⟨b, 0, none⟩)] w fun e w' => e = .returned (.tuple #[]) ∧ w' = w := by
  obtain ⟨j, hj, _⟩ := Option.map_eq_some_iff.1 bx_size
  go_enter Tryd.func87, Tryd.ntmps87
  go_wp2
  rw [Lib.run_neq_ptr_same w _ Tryd.underlying88 hj]
  go_wp2
  go_end0
  exact ⟨rfl, rfl⟩
set_option maxHeartbeats 1000000 in
theorem copyCheck_fresh (b : Nat) (w : World) (h0 : w.cell? ⟨b, 0, none⟩ = some (.pointer none)) (hsh : w.shape? b = some (91, 2)) (hfz : w.frozen? ⟨b, 0, none⟩ = false) :
    Calls Tryd.prog 87 #[.pointer (some ⟨b, 0, none⟩)] w fun e w' => e = .returned (.tuple #[]) ∧ w' = w.setCell ⟨b, 0, none⟩ (.pointer (some ⟨b, 0, none⟩)) := by
  obtain ⟨j, hj, hjs⟩ := Option.map_eq_some_iff.1 bx_size
  go_enter Tryd.func87, Tryd.ntmps87
  go_wp2
  rw [Lib.run_to_unsafe w ⟨b, 0, none⟩ Tryd.underlying88 Tryd.underlying173 hj (by rw [hjs]; decide) hsh (Nat.zero_lt_succ 1)]
  simp only [Result.andThen]
  rw [Oper.upon_value]
  go_wp2
  rw [run_callFunc_extern Tryd.func115 (by kernel_rfl) (by kernel_rfl) (by kernel_rfl) (e := Extern.AbiNoEscape.same) (by kernel_rfl)]
  rw [Lib.run_noEscape]
  simp only [Result.andThen]
  rw [Oper.upon_value]
  go_wp2
  rw [Lib.run_from_unsafe w ⟨b, 0, none⟩ Tryd.underlying173 Tryd.underlying88 hj hsh bx_lies]
  simp only [Result.andThen]
  rw [Oper.upon_value]
  go_wp2
  go_end0
  exact ⟨rfl, rfl⟩
theorem copyCheck_c (B b : Nat) (bs : List Value) (w : World) (h : Lib.IsBuilder 91 5 B b bs w) :
    Calls Tryd.prog 87 #[.pointer (some ⟨b, 0, none⟩)] w fun e w' => e = .returned (.tuple #[]) ∧ (Lib.BuilderAt 91 5 B b (.pointer (some ⟨b, 0, none⟩)) bs w' ∧ Below B w w' ∧ (w' = w ∨ w' = w.setCell ⟨b, 0, none⟩ (.pointer (some ⟨b, 0, none⟩)))) := by
  rcases h with h | h
  · refine (copyCheck_fresh b w h.cell0 h.shape h.frozen0).mono ?_
    rintro e w' ⟨rfl, rfl⟩
    exact ⟨rfl, h.used _, (Below.refl B w).setCell (p := ⟨b, 0, none⟩) h.1 _, .inr rfl⟩
  · refine (copyCheck_used b w h.cell0).mono ?_
    rintro e w' ⟨rfl, rfl⟩
    exact ⟨rfl, h, Below.refl B _, .inl rfl⟩

/-- From B on, but for blocks of bytes and builders, nothing that was there has turned; below B nothing at all. -/
structure Wrote (B : Nat) (w w' : World) : Prop where
  below : Below B w w'
  kept : ∀ (k : Nat) (cs : Array Value) (t : TypeId) (fr : Nat × Nat), w.heap[k]? = some (.cells cs t fr) → t ≠ 5 → t ≠ 91 → w'.heap[k]? = some (.cells cs t fr)
theorem Wrote.refl (B : Nat) (w : World) : Wrote B w w := ⟨Below.refl _ _, fun _ _ _ _ h _ _ => h⟩
theorem Wrote.trans {B : Nat} {a b c : World} (h : Wrote B a b) (k : Wrote B b c) : Wrote B a c := ⟨h.below.trans k.below, fun i cs t fr hi h5 h9 => k.kept i cs t fr (h.kept i cs t fr hi h5 h9) h5 h9⟩
theorem Wrote.of_below {B : Nat} {w w' : World} (h : Below w.heap.size w w') (hB : B ≤ w.heap.size) : Wrote B w w' := by
  refine ⟨h.mono hB, fun k cs t fr hk _ _ => (h.block k ?_).trans hk⟩
  rcases Nat.lt_or_ge k w.heap.size with g | g
  · exact g
  · rw [Array.getElem?_eq_none g] at hk; cases hk
theorem builder_below {B b : Nat} {bs : List Value} {w w' : World} (h : Lib.IsBuilder 91 5 B b bs w) (hb : Below w.heap.size w w') : Lib.IsBuilder 91 5 B b bs w' := by
  have key : ∀ p, Lib.BuilderAt 91 5 B b p bs w → Lib.BuilderAt 91 5 B b p bs w' := by
    rintro p ⟨hB, v, hbk, hown, hne⟩
    have hlt : b < w.heap.size := Lib.BuilderAt.lt ⟨hB, v, hbk, hown, hne⟩
    exact ⟨hB, v, (hb.block b hlt).trans hbk, Go.Proofs.YtdgifgdadminbaaDoorW.PrintWords.own_move hown (fun k hk => hb.block k (hown.lt k hk).2), hne⟩
  rcases h with h | h
  · exact .inl (key _ h)
  · exact .inr (key _ h)
theorem wrote_copy {B b : Nat} {bs : List Value} {w : World} (h : Lib.IsBuilder 91 5 B b bs w) (w' : World) (hb : Below B w w') (hw : w' = w ∨ w' = w.setCell ⟨b, 0, none⟩ (.pointer (some ⟨b, 0, none⟩))) : Wrote B w w' := by
  refine ⟨hb, fun k cs t fr hk h5 h9 => ?_⟩
  rcases hw with rfl | rfl
  · exact hk
  · have hne : k ≠ b := by
      rintro rfl
      rcases h with ⟨_, v, hbk, _⟩ | ⟨_, v, hbk, _⟩
      · rw [hbk] at hk; cases hk; exact h9 rfl
      · rw [hbk] at hk; cases hk; exact h9 rfl
    exact (Below.heap_setCell w ⟨b, 0, none⟩ _ k hne).trans hk

set_option maxHeartbeats 2000000 in
theorem writeString_c (B b : Nat) (bs : List Value) (s : ByteArray) (w : World) (h : Lib.IsBuilder 91 5 B b bs w) (hlen : bs.length + s.size ≤ 140737488355328) (hBw : B ≤ w.heap.size) :
    Calls Tryd.prog 55 #[.pointer (some ⟨b, 0, none⟩), .string s] w fun e w' => e = .returned (.tuple #[.int .i64 s.size, .nilIface]) ∧ (Lib.BuilderAt 91 5 B b (.pointer (some ⟨b, 0, none⟩)) (bs ++ Lib.strCells s) w' ∧ Wrote B w w') := by
  obtain ⟨i0, hi, hz0, hz1, hz2⟩ := info_parts bx_byte
  go_enter Tryd.func55, Tryd.ntmps55
  go_wp2_with fail
  refine (copyCheck_c B b bs _ h).mono ?_
  rintro e w1 ⟨rfl, h1, hb1, hor⟩
  have HWR := Lib.hid (wrote_copy h w1 hb1 hor)
  clear hor
  obtain ⟨hB, v, hbk, hown, hne⟩ := h1
  have c0 : w1.cell? ⟨b, 0, none⟩ = some (.pointer (some ⟨b, 0, none⟩)) := by rw [Lib.cell_of_heap hbk]; rfl
  have c1 : w1.cell? ⟨b, 1, none⟩ = some v := by rw [Lib.cell_of_heap hbk]; rfl
  go_wp2_with (at_builtin; refine Lib.wpList_append_own_string _ rfl _ _ 89 9 rfl B 5 i0 Tryd.underlying89 Tryd.underlying9 hi hz0 hz1 hz2 _ _ _ rfl hown s rfl ?c3 ?c4 ?c5 ?_)
  case c3 => unfold maxLen; omega
  case c4 => omega
  case c5 => have := hb1.size; omega
  intro v' w2 hown' hgrow _
  have hlt : b < w1.heap.size := by
    rcases Nat.lt_or_ge b w1.heap.size with h' | h'
    · exact h'
    · simp [Array.getElem?_eq_none h'] at hbk
  have hb2 : w2.heap[b]? = some (.cells #[.pointer (some ⟨b, 0, none⟩), v] 91 (0, 0)) := by
    rw [hgrow.block b hlt (fun e => hne e.symm)]
    exact hbk
  have d0 : w2.cell? ⟨b, 0, none⟩ = some (.pointer (some ⟨b, 0, none⟩)) := by rw [Lib.cell_of_heap hb2]; rfl
  have d1 : w2.cell? ⟨b, 1, none⟩ = some v := by rw [Lib.cell_of_heap hb2]; rfl
  have f1 : w2.frozen? ⟨b, 1, none⟩ = false := Lib.frozen_of_heap hb2 1
  obtain ⟨ao, n', cap, rfl⟩ : ∃ ao n' cap, v' = .slice ao n' cap := by
    rcases hown'.2 with ⟨hv, _⟩ | ⟨g, cap, cur, hv, _⟩
    · exact ⟨_, _, _, hv⟩
    · exact ⟨_, _, _, hv⟩
  go_wp2
  go_ret2
  refine ⟨rfl, ?_, ?_⟩
  · exact Lib.BuilderAt.put (T := 91) (e := 5) hB hb2 (bs' := bs ++ Lib.strCells s) (by simpa [Lib.strCells_length] using hown') (by decide)
  · refine HWR.out.trans ⟨((Below.refl B w1).grown hgrow (by have := hb1.size; omega) (fun k hk => (hown.lt k hk).1)).setCell (p := ⟨b, 1, none⟩) hB _, fun k cs t fr hk h5 h9 => ?_⟩
    have hklt : k < w1.heap.size := by
      rcases Nat.lt_or_ge k w1.heap.size with g | g
      · exact g
      · rw [Array.getElem?_eq_none g] at hk; cases hk
    have hkb : k ≠ b := by
      rintro rfl
      rw [hbk] at hk; cases hk; exact h9 rfl
    have hkv : some k ≠ v.ownBlock := by
      intro e
      obtain ⟨cells, hc⟩ := Go.Proofs.YtdgifgdadminbaaDoorW.PrintWords.own_typed hown k e.symm
      rw [hc] at hk; cases hk; exact h5 rfl
    exact (Below.heap_setCell w2 ⟨b, 1, none⟩ _ k hkb).trans ((hgrow.block k hklt hkv).trans hk)
end Go.Proofs.YtdgifgdadminbaaDoor
