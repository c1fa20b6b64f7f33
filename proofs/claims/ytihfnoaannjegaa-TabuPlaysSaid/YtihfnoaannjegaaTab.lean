/- The table's map, as a list of entries: what a look-up, a store, a delete and a step of a range do to it, in whatever order the tape hands the entries out. No condition. -/
import Derived.Test.YtihfnoaannjegaaProg
import Derived.Maps.RangeWalk
import Derived.DeepKeys4
import Derived.WideKeyArgs
import Derived.WalkKit
import Derived.Deep.Draws
import Derived.KernelRfl
namespace Go.Proofs.Ytihfnoaannjegaa
open Go.RowKit Go.Maps Go.MapKept
open Go.ChangeMaps (setBlock heap_setBlock_same heap_setBlock_other modify_eq_set)

theorem laidOut : laidOutB Try.prog = true := by kernel_rfl
theorem row51 : (51 : TypeId) < Try.prog.types.size := of_decide_eq_true (by kernel_rfl)
theorem wide51 : (match Try.prog.underlying 51 with | some (.array _ _) | some (.struct _) => true | _ => false) = true := by rw [Try.underlying51]
theorem lawK : Keyed Try.prog 51 := Keyed.of_law (deep_law_laid laidOut (m := 2) (by omega) row51 (by kernel_rfl) wide51)
theorem kt51 : Try.prog.keyType 51 = true := by kernel_rfl
theorem cells51 : Try.prog.cellsOf 51 = 2 := by kernel_rfl
theorem cells3 : Try.prog.cellsOf 3 = 1 := by kernel_rfl
theorem size_types : Try.prog.types.size = 75 := by kernel_rfl

/-- An int64's bounds. -/
def I64 (n : Int) : Prop := -9223372036854775808 ≤ n ∧ n ≤ 9223372036854775807
theorem I64.wf {n : Int} (h : I64 n) : (Lit.int .i64 n).wf = true := WalkArith.wf_i64 h

def key2 (q t : Int) : Value := .agg #[.int .i64 q, .int .i64 t]
theorem lits2 (d : Nat) {q t : Int} (hq : (Lit.int .i64 q).wf = true) (ht : (Lit.int .i64 t).wf = true) : Try.prog.keyLits (d + 2) 51 [.int .i64 q, .int .i64 t] = some [.int .i64 q, .int .i64 t] := by
  simp [Program.keyLits, Try.underlying51, cells51, Try.underlying3, cells3, hq, ht]
theorem keyOf_key2 {q t : Int} (hq : I64 q) (ht : I64 t) : keyOf Try.prog 51 (key2 q t) = some (.string (keyBytes [.int .i64 q, .int .i64 t])) := by
  have hf : (key2 q t).formed Try.prog 51 = true := by simp [key2, Value.formed, Try.underlying51, cells51]
  have hl := lits2 74 hq.wf ht.wf
  unfold keyOf
  rw [Try.underlying51]
  simp only [kt51, hf, Bool.and_self, if_true, size_types]
  show (Try.prog.keyLits 76 51 [.int .i64 q, .int .i64 t]).map _ = _
  rw [hl]; rfl

abbrev Ent := (Int × Int) × Int
def kv (p : Ent) : Value × Value := (key2 p.1.1 p.1.2, .int .i64 p.2)
def okE (p : Ent) : Prop := I64 p.1.1 ∧ I64 p.1.2 ∧ I64 p.2
theorem kv_inj {p p' : Ent} (h : kv p = kv p') : p = p' := by
  obtain ⟨⟨a, b⟩, c⟩ := p
  obtain ⟨⟨a', b'⟩, c'⟩ := p'
  simp [kv, key2] at h
  obtain ⟨⟨rfl, rfl⟩, rfl⟩ := h
  rfl
theorem key2_inj {a b a' b' : Int} (h : key2 a b = key2 a' b') : (a, b) = (a', b') := by
  simp [key2] at h
  obtain ⟨rfl, rfl⟩ := h
  rfl
def ev (e : MapEntry) : Value × Value := (e.key, e.val)

/-- Block b is a map with just these entries. -/
def TabAt (w : World) (b : Nat) (L : List Ent) : Prop :=
  ∃ es clock, w.heap[b]? = some (.map es clock) ∧ Stamped es clock ∧ es.toList.map ev = L.map kv ∧ (∀ p ∈ L, okE p)

section
variable {w : World} {b : Nat} {L : List Ent} {es : Array MapEntry}
theorem TabAt.lt (h : TabAt w b L) : b < w.heap.size := by
  obtain ⟨es, clock, hb, _⟩ := h
  exact (Array.getElem?_eq_some_iff.1 hb).1
theorem TabAt.of_block {w' : World} (h : TabAt w b L) (he : w'.heap[b]? = w.heap[b]?) : TabAt w' b L := by
  obtain ⟨es, clock, hb, r⟩ := h
  exact ⟨es, clock, he.trans hb, r⟩
theorem TabAt.made (w : World) : TabAt (w.alloc (.map #[] 0)) w.heap.size [] :=
  ⟨#[], 0, (MapKept.heap_alloc w _).1, stamped_empty 0, rfl, by simp⟩
theorem TabAt.drewN (h : TabAt w b L) (n : Nat) : TabAt (w.drewN n) b L := h

theorem key_of (hm : es.toList.map ev = L.map kv) {e : MapEntry} (he : e ∈ es.toList) : ∃ p ∈ L, kv p = ev e := by
  have : ev e ∈ L.map kv := by rw [← hm]; exact List.mem_map.2 ⟨e, he, rfl⟩
  obtain ⟨p, hp, h⟩ := List.mem_map.1 this
  exact ⟨p, hp, h⟩
theorem ent_of (hm : es.toList.map ev = L.map kv) {p : Ent} (hp : p ∈ L) : ∃ e ∈ es.toList, ev e = kv p := by
  have : kv p ∈ es.toList.map ev := by rw [hm]; exact List.mem_map.2 ⟨p, hp, rfl⟩
  obtain ⟨e, he, h⟩ := List.mem_map.1 this
  exact ⟨e, he, h⟩
theorem keys_ok (hm : es.toList.map ev = L.map kv) (ho : ∀ p ∈ L, okE p) : ∀ e ∈ es.toList, ∃ l, keyOf Try.prog 51 e.key = some l := by
  intro e he
  obtain ⟨p, hp, h⟩ := key_of hm he
  obtain ⟨h1, h2, _⟩ := ho p hp
  have : e.key = key2 p.1.1 p.1.2 := by have := congrArg Prod.fst h; exact this.symm
  rw [this]
  exact ⟨_, keyOf_key2 h1 h2⟩
theorem at_j (hm : es.toList.map ev = L.map kv) {j : Nat} {e : MapEntry} (hj : es[j]? = some e) : ∃ p, L[j]? = some p ∧ kv p = ev e := by
  have h1 : (es.toList.map ev)[j]? = some (ev e) := by simp [hj]
  rw [hm, List.getElem?_map, Option.map_eq_some_iff] at h1
  exact h1
/-- The keys stand once each. -/
theorem TabAt.nodup (h : TabAt w b L) : (L.map (·.1)).Nodup := by
  obtain ⟨es, clock, _, hs, hm, _⟩ := h
  have h3 := hs.2.2
  have e1 : es.toList.map (·.key) = (L.map (·.1)).map (fun k => key2 k.1 k.2) := by
    have := congrArg (List.map Prod.fst) hm
    simpa [List.map_map, Function.comp_def, ev, kv] using this
  rw [e1, List.Nodup, List.pairwise_map] at h3
  exact h3.imp (fun hne e => hne (by rw [e]))

theorem TabAt.find (h : TabAt w b L) {q t : Int} (hq : I64 q) (ht : I64 t) : ∃ es clock, w.heap[b]? = some (.map es clock) ∧ Stamped es clock ∧ es.toList.map ev = L.map kv ∧ (∀ p ∈ L, okE p) ∧
    (((∀ W : World, (Instr.findKey 51 (key2 q t) es.toList).run Try.prog W = .ok none W) ∧ (∀ e ∈ es.toList, e.key ≠ key2 q t) ∧ ∀ u, ((q, t), u) ∉ L) ∨
     ∃ j e u, (∀ W : World, (Instr.findKey 51 (key2 q t) es.toList).run Try.prog W = .ok (some (j, .int .i64 u)) W) ∧ es[j]? = some e ∧ e.key = key2 q t ∧ e.val = .int .i64 u ∧ L[j]? = some ((q, t), u)) := by
  obtain ⟨es, clock, hb, hs, hm, ho⟩ := h
  refine ⟨es, clock, hb, hs, hm, ho, ?_⟩
  have hk := keyOf_key2 hq ht
  have K := fun W => lawK.find W hk es.toList (keys_ok hm ho)
  by_cases hex : ∀ e ∈ es.toList, e.key ≠ key2 q t
  · refine Or.inl ⟨fun W => ?_, hex, fun u hu => ?_⟩
    · rcases K W with ⟨h1, _⟩ | ⟨j, e, _, h2, h3⟩
      · exact h1
      · exact absurd h3 (hex e (List.mem_of_getElem? h2))
    · obtain ⟨e, he, h⟩ := ent_of hm hu
      exact hex e he (congrArg Prod.fst h)
  · refine Or.inr ?_
    have hn : es.toList.Pairwise (fun x y => x.key ≠ y.key) := ((stamped_iff es clock).1 hs).2.2
    have key : ∀ W, ∃ j e u, (Instr.findKey 51 (key2 q t) es.toList).run Try.prog W = .ok (some (j, .int .i64 u)) W ∧ es[j]? = some e ∧ e.key = key2 q t ∧ e.val = .int .i64 u ∧ L[j]? = some ((q, t), u) := by
      intro W
      rcases K W with ⟨_, h2⟩ | ⟨j, e, h1, h2, h3⟩
      · exact absurd h2 hex
      · have h2' : es[j]? = some e := by simpa using h2
        obtain ⟨⟨⟨q', t'⟩, u⟩, hp, hpe⟩ := at_j hm h2'
        have hv : e.val = .int .i64 u := (congrArg Prod.snd hpe).symm
        have hk2 : key2 q' t' = key2 q t := (congrArg Prod.fst hpe).trans h3
        obtain ⟨rfl, rfl⟩ := Prod.mk.inj (key2_inj hk2)
        exact ⟨j, e, u, by rw [h1, hv], h2', h3, hv, hp⟩
    obtain ⟨j, e, u, _, r2, r3, r4, r5⟩ := key w
    refine ⟨j, e, u, fun W => ?_, r2, r3, r4, r5⟩
    obtain ⟨j', e', u', s1, s2, s3, s4, s5⟩ := key W
    have : j' = j := by
      have a1 : es.toList[j']? = some e' := by simpa using s2
      have a2 : es.toList[j]? = some e := by simpa using r2
      obtain ⟨b1, c1⟩ := List.getElem?_eq_some_iff.1 a1
      obtain ⟨b2, c2⟩ := List.getElem?_eq_some_iff.1 a2
      rw [List.pairwise_iff_getElem] at hn
      rcases Nat.lt_trichotomy j' j with h | h | h
      · exact absurd (by rw [c1, c2, s3, r3]) (hn j' j b1 b2 h)
      · exact h
      · exact absurd (by rw [c1, c2, s3, r3]) (hn j j' b2 b1 h)
    subst this
    rw [r2] at s2; obtain rfl := Option.some.inj s2
    rw [r5] at s5
    have : u = u' := by simpa using s5
    subst this
    exact s1

/-- 'v, ok := m[k]'. -/
theorem TabAt.look (h : TabAt w b L) {q t : Int} (hq : I64 q) (ht : I64 t) : ∃ v ok, I64 v ∧ (∀ n, (Instr.lookup 24 (.map (some b)) (key2 q t) true).run Try.prog (w.drewN n) = .ok (.tuple #[.int .i64 v, .bool ok]) (w.drewN n)) ∧
    ((ok = true ∧ ((q, t), v) ∈ L) ∨ (ok = false ∧ v = 0 ∧ ∀ u, ((q, t), u) ∉ L)) := by
  obtain ⟨es, clock, hb, hs, hm, ho, h | ⟨j, e, u, h1, h2, h3, h4, h5⟩⟩ := h.find hq ht
  · refine ⟨0, false, ⟨by omega, by omega⟩, fun n => ?_, Or.inr ⟨rfl, rfl, h.2.2⟩⟩
    have hb' : (w.drewN n).heap[b]? = some (.map es clock) := hb
    simp [Instr.lookup, run_underlying Try.underlying24, MapKept.run_getObj_map hb', lawK.check _ _ (keyOf_key2 hq ht), h.1, Result.andThen]
  · have hmem : ((q, t), u) ∈ L := List.mem_of_getElem? h5
    refine ⟨u, true, (ho _ hmem).2.2, fun n => ?_, Or.inl ⟨rfl, hmem⟩⟩
    have hb' : (w.drewN n).heap[b]? = some (.map es clock) := hb
    simp [Instr.lookup, run_underlying Try.underlying24, MapKept.run_getObj_map hb', lawK.check _ _ (keyOf_key2 hq ht), h1, Result.andThen]

/-- A nil map. -/
theorem look_nilT (w : World) {q t : Int} (hq : I64 q) (ht : I64 t) : ∀ n, (Instr.lookup 24 (.map none) (key2 q t) true).run Try.prog (w.drewN n) = .ok (.tuple #[.int .i64 0, .bool false]) (w.drewN n) := by
  intro n
  rcases lawK.find (w.drewN n) (keyOf_key2 hq ht) [] (by simp) with ⟨h1, _⟩ | ⟨j, e, _, h2, _⟩
  · have h1' : (Instr.findKey 51 (key2 q t) #[].toList).run Try.prog (w.drewN n) = .ok none (w.drewN n) := h1
    simp [Instr.lookup, run_underlying Try.underlying24, lawK.check _ _ (keyOf_key2 hq ht), h1, Result.andThen]
  · simp at h2

/-- What a store makes of the entries. -/
def PutL (L : List Ent) (k : Int × Int) (u : Int) (L' : List Ent) : Prop :=
  (∃ j u0, L[j]? = some (k, u0) ∧ L' = L.set j (k, u)) ∨ ((∀ u0, (k, u0) ∉ L) ∧ L' = L ++ [(k, u)])

/-- 'm[k] = v'. -/
theorem TabAt.put (h : TabAt w b L) {q t u : Int} (hq : I64 q) (ht : I64 t) (hu : I64 u) : ∃ w1 L', (∀ n, (Instr.mapUpdate 24 (.map (some b)) (key2 q t) (.int .i64 u)).run Try.prog (w.drewN n) = .ok () (w1.drewN n)) ∧
    TabAt w1 b L' ∧ PutL L (q, t) u L' ∧ w.grownBy w1 (some b) ∧ w1.heap.size = w.heap.size := by
  obtain ⟨es, clock, hb, hs, hm, ho, h | ⟨j, e, u0, h1, h2, h3, h4, h5⟩⟩ := h.find hq ht
  · refine ⟨setBlock w b (.map (es.push ⟨key2 q t, .int .i64 u, clock⟩) (clock + 1)), L ++ [((q, t), u)], fun n => ?_, ⟨_, _, heap_setBlock_same hb _, stamped_push hs h.2.1, ?_, ?_⟩, Or.inr ⟨h.2.2, rfl⟩, ⟨rfl, rfl, rfl, by simp [setBlock], fun i _ hi => heap_setBlock_other hb _ (fun e => hi (by rw [e]))⟩, by simp [setBlock]⟩
    · have hb' : (w.drewN n).heap[b]? = some (.map es clock) := hb
      simp [Instr.mapUpdate, run_underlying Try.underlying24, MapKept.run_getObj_map hb', lawK.check _ false (keyOf_key2 hq ht), h.1, MapKept.run_setObj_map _ hb', Result.andThen, setBlock]
      rfl
    · simp [hm, ev, kv]
    · intro p hp
      rcases List.mem_append.1 hp with hp | hp
      · exact ho p hp
      · rw [List.mem_singleton.1 hp]; exact ⟨hq, ht, hu⟩
  · have hjl : j < es.toList.length := (List.getElem?_eq_some_iff.1 (by simpa using h2 : es.toList[j]? = some e)).1
    have hlist : (es.modify j (fun e' => { e' with key := key2 q t, val := .int .i64 u })).toList = es.toList.set j { e with key := key2 q t, val := .int .i64 u } := by
      rw [Array.toList_modify, modify_eq_set _ _ _ e (by simpa using h2)]
    refine ⟨setBlock w b (.map (es.modify j (fun e' => { e' with key := key2 q t, val := .int .i64 u })) clock), L.set j ((q, t), u), fun n => ?_, ⟨_, _, heap_setBlock_same hb _, ?_, ?_, ?_⟩, Or.inl ⟨j, u0, h5, rfl⟩, ⟨rfl, rfl, rfl, by simp [setBlock], fun i _ hi => heap_setBlock_other hb _ (fun e => hi (by rw [e]))⟩, by simp [setBlock]⟩
    · have hb' : (w.drewN n).heap[b]? = some (.map es clock) := hb
      simp [Instr.mapUpdate, run_underlying Try.underlying24, MapKept.run_getObj_map hb', lawK.check _ false (keyOf_key2 hq ht), h1, h2, h3, lawK.stays _ (keyOf_key2 hq ht), MapKept.run_setObj_map _ hb', Result.andThen, setBlock]
      rfl
    · exact stamped_modify hs _ _ (fun _ _ => rfl) (fun e' _ he' => by rw [h2] at he'; obtain rfl := Option.some.inj he'; exact h3.symm)
    · rw [hlist, List.map_set, hm, List.map_set]; rfl
    · intro p hp
      rcases List.mem_or_eq_of_mem_set hp with hp | rfl
      · exact ho p hp
      · exact ⟨hq, ht, hu⟩

/-- 'len(m)'. -/
theorem TabAt.len (h : TabAt w b L) : ∀ n ty, (Builtin.len_ #[24] ty #[.map (some b)]).run Try.prog (w.drewN n) = .ok (.int .i64 L.length) (w.drewN n) := by
  intro n ty
  obtain ⟨es, clock, hb, hs, hm, ho⟩ := h
  have hb' : (w.drewN n).heap[b]? = some (.map es clock) := hb
  have hl : es.size = L.length := by have := congrArg List.length hm; simpa using this
  simp [Builtin.len_, run_underlying Try.underlying24, MapKept.run_getObj_map hb', Result.andThen, hl, goInt]

/-- A range over the map is under way: these entries are still to come. -/
def TabIt (w : World) (b r : Nat) (L left : List Ent) : Prop :=
  ∃ es clock since seen c0, w.heap[b]? = some (.map es clock) ∧ Stamped es clock ∧ es.toList.map ev = L.map kv ∧ (∀ p ∈ L, okE p) ∧
    w.heap[r]? = some (.mapIter (some b) since seen c0) ∧ (∀ x ∈ es.toList, x.born < since) ∧ since ≤ c0 ∧ since ≤ clock ∧ ((leftOf es seen).toList.map ev).Perm (left.map kv)
theorem TabIt.tab {r : Nat} {left : List Ent} (h : TabIt w b r L left) : TabAt w b L := by
  obtain ⟨es, clock, _, _, _, hb, hs, hm, ho, _⟩ := h
  exact ⟨es, clock, hb, hs, hm, ho⟩
theorem TabIt.lt {r : Nat} {left : List Ent} (h : TabIt w b r L left) : r < w.heap.size := by
  obtain ⟨es, clock, _, _, _, _, _, _, _, hr, _⟩ := h
  exact (Array.getElem?_eq_some_iff.1 hr).1
theorem TabIt.ne {r : Nat} {left : List Ent} (h : TabIt w b r L left) : r ≠ b := by
  obtain ⟨es, clock, _, _, _, hb, _, _, _, hr, _⟩ := h
  rintro rfl
  rw [hb] at hr
  cases hr
theorem TabIt.of_blocks {r : Nat} {left : List Ent} {w' : World} (h : TabIt w b r L left) (he : w'.heap[b]? = w.heap[b]?) (he' : w'.heap[r]? = w.heap[r]?) : TabIt w' b r L left := by
  obtain ⟨es, clock, since, seen, c0, hb, hs, hm, ho, hr, rest⟩ := h
  exact ⟨es, clock, since, seen, c0, he.trans hb, hs, hm, ho, he'.trans hr, rest⟩
theorem perm_of_map {l l' : List Ent} (h : (l.map kv).Perm (l'.map kv)) : l.Perm l' := by
  have hinj : ∀ p p', kv p = kv p' → p = p' := fun _ _ => kv_inj
  induction l generalizing l' with
  | nil =>
    have := h.length_eq
    cases l' with
    | nil => exact List.Perm.refl _
    | cons _ _ => simp at this
  | cons a r ih =>
    have hm : kv a ∈ l'.map kv := h.subset (by simp)
    obtain ⟨a', ha', e⟩ := List.mem_map.1 hm
    obtain rfl := hinj _ _ e
    obtain ⟨s, t, rfl⟩ := List.append_of_mem ha'
    have h2 : (kv a' :: r.map kv).Perm (kv a' :: (s ++ t).map kv) := by
      refine h.trans ?_
      simp only [List.map_append, List.map_cons]
      exact List.perm_middle
    exact ((ih ((List.perm_cons _).1 h2)).cons a').trans List.perm_middle.symm
theorem TabIt.cnt {r : Nat} {left : List Ent} (h : TabIt w b r L left) : w.rangeLeft b r = left.length := by
  obtain ⟨es, clock, since, seen, c0, hb, _, _, _, hr, _, _, _, hp⟩ := h
  have := hp.length_eq
  simp at this
  simp [World.rangeLeft, hb, hr, this]
/-- 'range m'. -/
theorem TabAt.range (h : TabAt w b L) : ∃ w1, (Instr.range 24 (.map (some b))).run Try.prog w = .ok (.pointer (some ⟨w.heap.size, 0, none⟩)) w1 ∧ TabIt w1 b w.heap.size L L ∧ w.grownBy w1 none ∧ w1.heap.size = w.heap.size + 1 := by
  have hlt := h.lt
  obtain ⟨es, clock, hb, hs, hm, ho⟩ := h
  refine ⟨_, run_range_map w 24 51 3 b es clock Try.underlying24 hb, ⟨es, clock, clock, #[], clock, ((MapKept.heap_alloc w _).2 b hlt).trans hb, hs, hm, ho, (MapKept.heap_alloc w _).1, hs.1, Nat.le_refl _, Nat.le_refl _, ?_⟩, World.grownBy_alloc w _ none, by simp⟩
  simp only [leftOf]
  have : Array.filter (fun e : MapEntry => !(#[] : Array Nat).contains e.born) es = es := Array.filter_eq_self.2 (fun x _ => by simp)
  rw [this, hm]
theorem left_push {es : Array MapEntry} {seen : Array Nat} {e : MapEntry} (hn : (es.toList.map (·.born)).Nodup) (he : e ∈ (leftOf es seen).toList) : (leftOf es seen).toList.Perm (e :: (leftOf es (seen.push e.born)).toList) := by
  obtain ⟨h1, h2⟩ := mem_left he
  simp only [leftOf, Array.toList_filter, contains_push]
  generalize es.toList = l at *
  clear he es
  induction l with
  | nil => simp at h1
  | cons a r ih =>
    simp only [List.map_cons, List.nodup_cons] at hn
    rcases List.mem_cons.1 h1 with rfl | h1
    · have : r.filter (fun x => !(seen.contains x.born || x.born == e.born)) = r.filter (fun x => !seen.contains x.born) := by
        refine List.filter_congr (fun x hx => ?_)
        have : (x.born == e.born) = false := by
          simp only [beq_eq_false_iff_ne]
          intro e'
          exact hn.1 (List.mem_map.2 ⟨x, hx, e'⟩)
        simp [this]
      rw [List.filter_cons, List.filter_cons]
      simp only [h2, beq_self_eq_true, Bool.or_true, Bool.not_true, Bool.not_false, if_true, Bool.false_eq_true, if_false, this]
      exact List.Perm.refl _
    · have hne : (a.born == e.born) = false := by
        simp only [beq_eq_false_iff_ne]
        intro e'
        exact hn.1 (List.mem_map.2 ⟨e, h1, e'.symm⟩)
      have := ih hn.2 h1
      by_cases hc : seen.contains a.born = true
      · simp only [List.filter_cons, hc, hne]
        simpa using this
      · have hc' : seen.contains a.born = false := by simpa using hc
        simp only [List.filter_cons, hc', hne]
        simp only [Bool.or_self, Bool.not_false, if_true]
        exact (this.cons a).trans (List.Perm.swap _ _ _)
/-- THE STEP. -/
theorem TabIt.next {r : Nat} {left : List Ent} (h : TabIt w b r L left) (ty : TypeId) :
    (left = [] ∧ (Instr.next (.pointer (some ⟨r, 0, none⟩)) false ty).run Try.prog w = .ok (.tuple #[.bool false]) w) ∨
    ∃ p left' w1, left.Perm (p :: left') ∧ p ∈ L ∧ okE p ∧ (Instr.next (.pointer (some ⟨r, 0, none⟩)) false ty).run Try.prog w = .ok (.tuple #[.bool true, key2 p.1.1 p.1.2, .int .i64 p.2]) w1 ∧ TabIt w1 b r L left' ∧ w.grownBy w1 (some r) ∧ w1.heap.size = w.heap.size ∧
      (Instr.entry (.pointer (some ⟨r, 0, none⟩))).run Try.prog w1 = .ok (.tuple #[key2 p.1.1 p.1.2, .int .i64 p.2]) w1 := by
  have hne := h.ne
  obtain ⟨es, clock, since, seen, c0, hb, hs, hm, ho, hr, hold, hsc, hsk, hp⟩ := h
  rcases run_next_at (P := Try.prog) w ty r b since c0 seen es clock hr hb hold hsc with ⟨h0, hrun⟩ | ⟨e, he, w1, hal, hrun⟩
  · refine Or.inl ⟨?_, hrun⟩
    have := hp.length_eq
    simp [h0] at this
    exact List.eq_nil_of_length_eq_zero this.symm
  · obtain ⟨hem, hes⟩ := mem_left he
    obtain ⟨p, hpL, hpe⟩ := key_of hm hem
    have hek : e.key = key2 p.1.1 p.1.2 := (congrArg Prod.fst hpe).symm
    have hev : e.val = .int .i64 p.2 := (congrArg Prod.snd hpe).symm
    have hr1 : w1.heap[r]? = some (.mapIter (some b) since seen c0) := by rcases hal with rfl | rfl <;> exact hr
    have hb1 : w1.heap[b]? = some (.map es clock) := by rcases hal with rfl | rfl <;> exact hb
    have hset := heap_set (o' := .mapIter (some b) since (seen.push e.born) clock) hr1
    have hb' : (setBlock w1 r (.mapIter (some b) since (seen.push e.born) clock)).heap[b]? = some (.map es clock) := (hset.2 b (fun e1 => hne e1.symm)).trans hb1
    have hlp := left_push hs.2.1 he
    have hmem : p ∈ left := by
      have : kv p ∈ left.map kv := hp.subset (by rw [hpe]; exact List.mem_map.2 ⟨e, he, rfl⟩)
      obtain ⟨p', hp', e'⟩ := List.mem_map.1 this
      rw [kv_inj e'] at hp'; exact hp'
    obtain ⟨s, t, rfl⟩ := List.append_of_mem hmem
    refine Or.inr ⟨p, s ++ t, _, List.perm_middle, hpL, ho p hpL, by rw [← hek, ← hev]; exact hrun, ⟨es, clock, since, seen.push e.born, clock, hb', hs, hm, ho, hset.1, hold, hsk, hsk, ?_⟩, ?_, ?_, ?_⟩
    · have h1 : (ev e :: (leftOf es (seen.push e.born)).toList.map ev).Perm (kv p :: (s ++ t).map kv) := by
        refine (hlp.map ev).symm.trans (hp.trans ?_)
        simp only [List.map_append, List.map_cons]
        exact List.perm_middle
      rw [hpe] at h1
      exact (List.perm_cons _).1 h1
    · rcases hal with rfl | rfl <;> exact ⟨rfl, rfl, rfl, by simp [setBlock], fun i _ hi => hset.2 i (fun e1 => hi (by rw [e1]))⟩
    · rcases hal with rfl | rfl <;> simp [setBlock]
    · rw [← hek, ← hev]
      exact run_entry_at _ r b since seen es clock e hset.1 hb' hem hs.2.1

theorem filter_eraseIdx {α : Type} (c : α → Bool) : ∀ (l : List α) (j : Nat) (e : α), l[j]? = some e → c e = false → (l.eraseIdx j).filter c = l.filter c
  | [], _, _, h, _ => by simp at h
  | a :: r, 0, e, h, hc => by
    simp only [List.getElem?_cons_zero, Option.some.injEq] at h
    subst h
    rw [List.eraseIdx_cons_zero, List.filter_cons, hc]
    rfl
  | a :: r, j + 1, e, h, hc => by
    simp only [List.getElem?_cons_succ] at h
    rw [List.eraseIdx_cons_succ, List.filter_cons, List.filter_cons, filter_eraseIdx c r j e h hc]
theorem perm_eraseIdx {α : Type} : ∀ (l : List α) (j : Nat) (e : α), l[j]? = some e → l.Perm (e :: l.eraseIdx j)
  | [], _, _, h => by simp at h
  | a :: r, 0, e, h => by
    simp only [List.getElem?_cons_zero, Option.some.injEq] at h
    subst h
    exact List.Perm.refl _
  | a :: r, j + 1, e, h => by
    simp only [List.getElem?_cons_succ] at h
    exact ((perm_eraseIdx r j e h).cons a).trans (List.Perm.swap _ _ _)
/-- 'delete(m, k)' in the round, of a key that is not still to come. -/
theorem TabIt.drop {r : Nat} {left : List Ent} (h : TabIt w b r L left) {q t u : Int} (hin : ((q, t), u) ∈ L) (hout : ∀ u', ((q, t), u') ∉ left) (ty : TypeId) :
    ∃ w1 L', (Builtin.delete_ #[24, 51] ty #[.map (some b), key2 q t]).run Try.prog w = .ok (.tuple #[]) w1 ∧ TabIt w1 b r L' left ∧ L.Perm (((q, t), u) :: L') ∧ w.grownBy w1 (some b) ∧ w1.heap.size = w.heap.size := by
  have hne := h.ne
  have hnd := h.tab.nodup
  obtain ⟨es, clock, since, seen, c0, hb, hs, hm, ho, hr, hold, hsc, hsk, hp⟩ := h
  obtain ⟨hq, ht, hu⟩ := ho _ hin
  simp only at hq ht hu
  have htab : TabAt w b L := ⟨es, clock, hb, hs, hm, ho⟩
  obtain ⟨es', clock', hb', hs', hm', ho', hf⟩ := htab.find hq ht
  rw [hb] at hb'
  obtain ⟨rfl, rfl⟩ := Obj.map.inj (Option.some.inj hb')
  rcases hf with ⟨_, _, h3⟩ | ⟨j, e, u0, h1, h2, h3, h4, h5⟩
  · exact absurd hin (h3 u)
  · have hu0 : u0 = u := by
      have hm1 : ((q, t), u0) ∈ L := List.mem_of_getElem? h5
      have hn1 : ∀ l : List Ent, (l.map (·.1)).Nodup → ((q, t), u0) ∈ l → ((q, t), u) ∈ l → u0 = u := by
        intro l hn a b
        induction l with
        | nil => simp at a
        | cons x r ih =>
          simp only [List.map_cons, List.nodup_cons] at hn
          rcases List.mem_cons.1 a with ea | a'
          · rcases List.mem_cons.1 b with eb | b'
            · rw [← ea] at eb; exact (congrArg Prod.snd eb).symm
            · exact absurd (List.mem_map.2 ⟨_, b', by rw [← ea]⟩) hn.1
          · rcases List.mem_cons.1 b with eb | b'
            · exact absurd (List.mem_map.2 ⟨_, a', by rw [← eb]⟩) hn.1
            · exact ih hn.2 a' b'
      exact hn1 L hnd hm1 hin
    subst hu0
    have hjl : j < es.toList.length := (List.getElem?_eq_some_iff.1 (by simpa using h2 : es.toList[j]? = some e)).1
    have hjs : j < es.size := by simpa using hjl
    have hsub : (es.eraseIdxIfInBounds j).toList = es.toList.eraseIdx j := by
      unfold Array.eraseIdxIfInBounds
      rw [dif_pos hjs]
      simp
    have hseen : seen.contains e.born = true := by
      cases hc : seen.contains e.born
      · have hmem : e ∈ (leftOf es seen).toList := by
          simp only [leftOf, Array.toList_filter, List.mem_filter]
          exact ⟨List.mem_of_getElem? (by simpa using h2 : es.toList[j]? = some e), by simp only [hc]; rfl⟩
        have : kv ((q, t), u0) ∈ left.map kv := hp.subset (by
          have : ev e = kv ((q, t), u0) := by simp [ev, kv, h3, h4]
          rw [← this]; exact List.mem_map.2 ⟨e, hmem, rfl⟩)
        obtain ⟨p', hp', e'⟩ := List.mem_map.1 this
        rw [kv_inj e'] at hp'
        exact absurd hp' (hout u0)
      · rfl
    have hleft : (leftOf (es.eraseIdxIfInBounds j) seen).toList = (leftOf es seen).toList := by
      simp only [leftOf, Array.toList_filter, hsub]
      exact filter_eraseIdx _ _ j e (by simpa using h2) (by simp only [hseen]; rfl)
    have hset := heap_set (o' := .map (es.eraseIdxIfInBounds j) clock) hb
    refine ⟨setBlock w b (.map (es.eraseIdxIfInBounds j) clock), L.eraseIdx j, ?_, ⟨_, clock, since, seen, c0, hset.1, stamped_erase hs j, ?_, fun p hp' => ho p (List.mem_of_mem_eraseIdx hp'), (hset.2 r hne).trans hr, ?_, hsc, hsk, ?_⟩, ?_, ?_, ?_⟩
    · have hk := keyOf_key2 hq ht
      simp [Builtin.delete_, run_underlying Try.underlying24, MapKept.run_getObj_map hb, lawK.check w _ hk, h1, MapKept.run_setObj_map _ hb, Result.andThen, setBlock]
    · rw [hsub, ChangeMaps.map_eraseIdx, hm, ChangeMaps.map_eraseIdx]
    · intro x hx
      rw [hsub] at hx
      exact hold x (List.mem_of_mem_eraseIdx hx)
    · rw [hleft]; exact hp
    · exact perm_eraseIdx L j _ h5
    · exact ⟨rfl, rfl, rfl, by simp [setBlock], fun i _ hi => hset.2 i (fun e1 => hi (by rw [e1]))⟩
    · simp [setBlock]
end
end Go.Proofs.Ytihfnoaannjegaa
