/- The law on orders, walked: whatever the steps, the call returns true. No condition. -/
import Derived.Test.YtihfnoaannjegaaLe
import Derived.RegionTactic
import Derived.BigRegion
import Derived.ChangeAlike
namespace Go.Proofs.Ytihfnoaannjegaa
open Go.RowKit Go.Maps Go.MapKept

/-! ### plain -/
theorem put_mem {L L' : List Ent} {k : Int × Int} {u : Int} (hn : (L.map (·.1)).Nodup) (h : PutL L k u L') : ∀ k' u', (k', u') ∈ L' ↔ (k' = k ∧ u' = u) ∨ (k' ≠ k ∧ (k', u') ∈ L) := by
  intro k' u'
  rcases h with ⟨j, u0, hj, rfl⟩ | ⟨hno, rfl⟩
  · have hlt : j < L.length := (List.getElem?_eq_some_iff.1 hj).1
    have hn' := hn
    rw [List.Nodup, List.pairwise_map, List.pairwise_iff_getElem] at hn'
    have hjj : L[j] = (k, u0) := (List.getElem?_eq_some_iff.1 hj).2
    constructor
    · intro hm
      obtain ⟨i, hi, e⟩ := List.mem_iff_getElem.1 hm
      rw [List.getElem_set] at e
      split at e
      · cases e; exact Or.inl ⟨rfl, rfl⟩
      · rename_i hne
        have hi' : i < L.length := by simpa using hi
        refine Or.inr ⟨?_, e ▸ List.getElem_mem hi'⟩
        rintro rfl
        rcases Nat.lt_or_gt_of_ne hne with h | h
        · exact hn' j i hlt hi' h (by rw [hjj, e])
        · exact hn' i j hi' hlt h (by rw [hjj, e])
    · rintro (⟨rfl, rfl⟩ | ⟨hne, hm⟩)
      · exact List.mem_iff_getElem.2 ⟨j, by simpa using hlt, by simp⟩
      · obtain ⟨i, hi, e⟩ := List.mem_iff_getElem.1 hm
        refine List.mem_iff_getElem.2 ⟨i, by simpa using hi, ?_⟩
        rw [List.getElem_set, if_neg ?_, e]
        rintro rfl
        rw [hjj] at e
        cases e
        exact hne rfl
  · simp only [List.mem_append, List.mem_singleton, Prod.mk.injEq]
    constructor
    · rintro (h | ⟨rfl, rfl⟩)
      · refine Or.inr ⟨?_, h⟩
        rintro rfl
        exact hno _ h
      · exact Or.inl ⟨rfl, rfl⟩
    · rintro (⟨rfl, rfl⟩ | ⟨_, h⟩)
      · exact Or.inr ⟨rfl, rfl⟩
      · exact Or.inl h

/-- The entries are the longest of each pair's among these steps. -/
def Tb (L : List Ent) (S : List OpR) : Prop := ∀ k u, (k, u) ∈ L ↔ (∃ o ∈ S, (o.q, o.t) = k ∧ o.now = u) ∧ ∀ o ∈ S, (o.q, o.t) = k → o.now ≤ u
theorem Tb.nil : Tb [] [] := by intro k u; simp
/-- Where a step of that pair stands among them, an entry does. -/
theorem Tb.some {L : List Ent} {S : List OpR} (h : Tb L S) {k : Int × Int} {o : OpR} (ho : o ∈ S) (hk : (o.q, o.t) = k) : ∃ u, (k, u) ∈ L := by
  have key : ∀ S' : List OpR, (∃ o ∈ S', (o.q, o.t) = k) → ∃ u, (∃ o ∈ S', (o.q, o.t) = k ∧ o.now = u) ∧ ∀ o ∈ S', (o.q, o.t) = k → o.now ≤ u := by
    intro S'
    induction S' with
    | nil => rintro ⟨o, ho, _⟩; simp at ho
    | cons a r ih =>
      rintro ⟨o, ho, hk⟩
      by_cases hr : ∃ o ∈ r, (o.q, o.t) = k
      · obtain ⟨u, ⟨o1, ho1, hk1, hu1⟩, hmax⟩ := ih hr
        by_cases ha : (a.q, a.t) = k ∧ u < a.now
        · refine ⟨a.now, ⟨a, by simp, ha.1, rfl⟩, ?_⟩
          intro o2 ho2 hk2
          rcases List.mem_cons.1 ho2 with rfl | ho2
          · exact Int.le_refl _
          · have := hmax o2 ho2 hk2; omega
        · refine ⟨u, ⟨o1, by simp [ho1], hk1, hu1⟩, ?_⟩
          intro o2 ho2 hk2
          rcases List.mem_cons.1 ho2 with rfl | ho2
          · have : ¬ u < o2.now := fun h => ha ⟨hk2, h⟩
            omega
          · exact hmax o2 ho2 hk2
      · rcases List.mem_cons.1 ho with rfl | ho
        · refine ⟨o.now, ⟨o, by simp, hk, rfl⟩, ?_⟩
          intro o2 ho2 hk2
          rcases List.mem_cons.1 ho2 with rfl | ho2
          · exact Int.le_refl _
          · exact absurd ⟨o2, ho2, hk2⟩ hr
        · exact absurd ⟨o, ho, hk⟩ hr
  obtain ⟨u, hu⟩ := key S ⟨o, ho, hk⟩
  exact ⟨u, (h k u).2 hu⟩
theorem Tb.step {L L' : List Ent} {S : List OpR} (hn : (L.map (·.1)).Nodup) (h : Tb L S) {o : OpR} (hp : PutMax L (o.q, o.t) o.now L') : Tb L' (S ++ [o]) := by
  intro k u
  rcases hp with ⟨u0, hm, hle, rfl⟩ | ⟨hp, hlt⟩
  · rw [h k u]
    constructor
    · rintro ⟨⟨o1, ho1, hk1, hu1⟩, hmax⟩
      refine ⟨⟨o1, by simp [ho1], hk1, hu1⟩, fun o2 ho2 hk2 => ?_⟩
      rcases List.mem_append.1 ho2 with ho2 | ho2
      · exact hmax o2 ho2 hk2
      · obtain rfl := List.mem_singleton.1 ho2
        obtain ⟨⟨o3, ho3, hk3, hu3⟩, _⟩ := (h _ _).1 hm
        have := hmax o3 ho3 (hk3.trans hk2)
        omega
    · rintro ⟨⟨o1, ho1, hk1, hu1⟩, hmax⟩
      have hmax' : ∀ o2 ∈ S, (o2.q, o2.t) = k → o2.now ≤ u := fun o2 ho2 hk2 => hmax o2 (by simp [ho2]) hk2
      rcases List.mem_append.1 ho1 with ho1 | ho1
      · exact ⟨⟨o1, ho1, hk1, hu1⟩, hmax'⟩
      · obtain rfl := List.mem_singleton.1 ho1
        obtain ⟨⟨o3, ho3, hk3, hu3⟩, _⟩ := (h _ _).1 hm
        have := hmax o3 (by simp [ho3]) (hk3.trans hk1)
        exact ⟨⟨o3, ho3, hk3.trans hk1, by omega⟩, hmax'⟩
  · rw [put_mem hn hp k u]
    constructor
    · rintro (⟨rfl, rfl⟩ | ⟨hne, hm⟩)
      · refine ⟨⟨o, by simp, rfl, rfl⟩, fun o2 ho2 hk2 => ?_⟩
        rcases List.mem_append.1 ho2 with ho2 | ho2
        · obtain ⟨u1, hu1⟩ := h.some ho2 hk2
          have := hlt u1 hu1
          have := ((h _ _).1 hu1).2 o2 ho2 hk2
          omega
        · obtain rfl := List.mem_singleton.1 ho2
          exact Int.le_refl _
      · obtain ⟨⟨o1, ho1, hk1, hu1⟩, hmax⟩ := (h _ _).1 hm
        refine ⟨⟨o1, by simp [ho1], hk1, hu1⟩, fun o2 ho2 hk2 => ?_⟩
        rcases List.mem_append.1 ho2 with ho2 | ho2
        · exact hmax o2 ho2 hk2
        · obtain rfl := List.mem_singleton.1 ho2
          exact absurd hk2.symm hne
    · rintro ⟨⟨o1, ho1, hk1, hu1⟩, hmax⟩
      by_cases hk : k = (o.q, o.t)
      · subst hk
        refine Or.inl ⟨rfl, ?_⟩
        have hge := hmax o (by simp) rfl
        rcases List.mem_append.1 ho1 with ho1 | ho1
        · obtain ⟨u1, hu1'⟩ := h.some ho1 hk1
          have := hlt u1 hu1'
          have := ((h _ _).1 hu1').2 o1 ho1 hk1
          omega
        · obtain rfl := List.mem_singleton.1 ho1
          exact hu1.symm
      · refine Or.inr ⟨hk, (h _ _).2 ⟨?_, fun o2 ho2 hk2 => hmax o2 (by simp [ho2]) hk2⟩⟩
        rcases List.mem_append.1 ho1 with ho1 | ho1
        · exact ⟨o1, ho1, hk1, hu1⟩
        · obtain rfl := List.mem_singleton.1 ho1
          exact absurd hk1.symm hk
theorem nodup_of_keys {L : List Ent} (hn : (L.map (·.1)).Nodup) : L.Nodup := by
  rw [List.Nodup, List.pairwise_map] at hn
  exact hn.imp (fun h e => h (by rw [e]))
theorem Tb.perm {L L' : List Ent} {S S' : List OpR} (h : Tb L S) (h' : Tb L' S') (hn : (L.map (·.1)).Nodup) (hn' : (L'.map (·.1)).Nodup) (hS : ∀ o, o ∈ S ↔ o ∈ S') : L.Perm L' := by
  have hm : ∀ p, p ∈ L ↔ p ∈ L' := by
    rintro ⟨k, u⟩
    rw [h k u, h' k u]
    simp only [hS]
  exact (List.perm_ext_iff_of_nodup (nodup_of_keys hn) (nodup_of_keys hn')).2 hm
/-- The longest, told round by round. -/
def Lg (L : List Ent) (q t : Int) (there : Bool) (longest : Int) : Prop := (there = true ∧ ((q, t), longest) ∈ L) ∨ (there = false ∧ ∀ u, ((q, t), u) ∉ L)
theorem Lg.is {L : List Ent} {q t : Int} {there : Bool} {longest : Int} (h : Lg L q t there longest) (hn : (L.map (·.1)).Nodup) (now : Int) : isT L q t now = (there && decide (now < longest)) := by
  rcases h with ⟨rfl, hm⟩ | ⟨rfl, hm⟩
  · rw [isT, any_of_nodup hn hm (fun u => decide (now < u))]; simp
  · rw [Bool.false_and]
    cases hi : isT L q t now
    · rfl
    · obtain ⟨u, hu, _⟩ := isT_iff.1 hi
      exact absurd hu (hm u)
theorem Lg.other {L L' : List Ent} {q t : Int} {there : Bool} {longest : Int} {k : Int × Int} {u : Int} (h : Lg L q t there longest) (hn : (L.map (·.1)).Nodup) (hp : PutMax L k u L') (hk : k ≠ (q, t)) : Lg L' q t there longest := by
  have hm : ∀ u', ((q, t), u') ∈ L' ↔ ((q, t), u') ∈ L := by
    intro u'
    rcases hp with ⟨_, _, _, rfl⟩ | ⟨hp, _⟩
    · exact Iff.rfl
    · rw [put_mem hn hp]
      constructor
      · rintro (⟨h, _⟩ | ⟨_, h⟩)
        · exact absurd h.symm hk
        · exact h
      · exact fun h => Or.inr ⟨fun e => hk e.symm, h⟩
  rcases h with ⟨rfl, h⟩ | ⟨rfl, h⟩
  · exact Or.inl ⟨rfl, (hm _).2 h⟩
  · exact Or.inr ⟨rfl, fun u' hu' => h u' ((hm _).1 hu')⟩
theorem Lg.less {L L' : List Ent} {q t : Int} {longest : Int} {u : Int} (h : Lg L q t true longest) (hn : (L.map (·.1)).Nodup) (hp : PutMax L (q, t) u L') (hu : u ≤ longest) : Lg L' q t true longest := by
  rcases h with ⟨_, h⟩ | ⟨h, _⟩
  · rcases hp with ⟨_, _, _, rfl⟩ | ⟨hp, hlt⟩
    · exact Or.inl ⟨rfl, h⟩
    · have := hlt _ h; omega
  · cases h
theorem Lg.more {L L' : List Ent} {q t : Int} {there : Bool} {longest : Int} {u : Int} (h : Lg L q t there longest) (hn : (L.map (·.1)).Nodup) (hp : PutMax L (q, t) u L') (hu : there = false ∨ longest < u) : Lg L' q t true u := by
  refine Or.inl ⟨rfl, ?_⟩
  rcases hp with ⟨u0, hm, hle, rfl⟩ | ⟨hp, hlt⟩
  · rcases h with ⟨rfl, h⟩ | ⟨rfl, h⟩
    · have := fst_inj hn hm h
      rcases hu with hu | hu
      · cases hu
      · omega
    · exact absurd hm (h u0)
  · exact (put_mem hn hp _ _).2 (Or.inl ⟨rfl, rfl⟩)

theorem Keep.isT {w w' : World} {g g' : Nat} {m m' : Option Nat} {L L' : List Ent} (h : Keep w w' g m) (hT : IsT w g m L) (hT' : IsT w g' m' L') (hne : g' ≠ g) (hmm : ∀ x, m = some x → m' ≠ some x) : IsT w' g' m' L' := by
  refine hT'.of_block (h.block g' hT'.lt hne ?_) (fun b hb => h.block b (hT'.2.2 b hb).lt ?_ ?_)
  · intro e
    obtain ⟨es, clock, hb, _⟩ := hT.2.2 g' e.symm
    rw [hT'.1] at hb
    cases hb
  · rintro rfl
    obtain ⟨es, clock, hb', _⟩ := hT'.2.2 b hb
    rw [hT.1] at hb'
    cases hb'
  · intro e
    exact hmm b e.symm hb

theorem cell_al {w : World} {p : Addr} {v : Value} (h : w.cell? p = some v) (o : Obj) : (w.alloc o).cell? p = some v := by
  refine (Below.cell ((Below.refl w.heap.size w).alloc (Nat.le_refl _) o) ?_).trans h
  unfold World.cell? at h
  split at h
  · rename_i hh
    exact (Array.getElem?_eq_some_iff.1 hh).1
  · simp at h
theorem two_new (w : World) (o1 o2 : Obj) : ((w.alloc o1).alloc o2).drew.heap[w.heap.size + 1]? = some o2 := by
  have := (MapKept.heap_alloc (w.alloc o1) o2).1
  have e : (w.alloc o1).heap.size = w.heap.size + 1 := by simp
  rw [e] at this
  exact this
theorem Keep.cells {w w' : World} {g i : Nat} {m : Option Nat} {L : List Ent} {cs : Array Value} {ty : TypeId} (h : Keep w w' g m) (hT : IsT w g m L) (hi : w.heap[i]? = some (.cells cs ty (0, 0))) (hne : i ≠ g) : w'.heap[i]? = some (.cells cs ty (0, 0)) := by
  refine (h.block i (Array.getElem?_eq_some_iff.1 hi).1 hne ?_).trans hi
  intro e
  obtain ⟨es, clock, hb, _⟩ := hT.2.2 i e.symm
  rw [hi] at hb
  cases hb
theorem cell_of_heap {w : World} {b : Nat} {cs : Array Value} {ty : TypeId} (h : w.heap[b]? = some (.cells cs ty (0, 0))) (j : Nat) {v : Value} (hv : cs[j]? = some v) : w.cell? ⟨b, j, none⟩ = some v := by
  simp [World.cell?, h, hv]
theorem step_take {L : List Ent} {l : List OpR} {k : Nat} {x : OpR} (hx : l[k]? = some x) (h : Tb L (l.take k ++ [x])) : Tb L (l.take (k + 1)) := by
  rw [List.take_add_one, hx]; exact h
theorem step_rev {L : List Ent} {l : List OpR} {k : Nat} {y : OpR} (hy : l[l.length - 1 - k]? = some y) (hlt : k < l.length) (h : Tb L (l.reverse.take k ++ [y])) : Tb L (l.reverse.take (k + 1)) := by
  rw [List.take_add_one, List.getElem?_reverse hlt, hy]; exact h
/-- The state at a round's head. -/
def InvO (w wr : World) (ga gb : Nat) (l : List OpR) (q t : Int) (k : Nat) (there : Bool) (longest : Int) : Prop :=
  ∃ (ma mb : Option Nat) (La Lb : List Ent), IsT wr ga ma La ∧ IsT wr gb mb Lb ∧ La.length ≤ k ∧ Lb.length ≤ k ∧ Tb La (l.take k) ∧ Tb Lb (l.reverse.take k) ∧ Lg La q t there longest ∧
    (∀ b, ma = some b → w.heap.size ≤ b) ∧ (∀ b, mb = some b → w.heap.size ≤ b) ∧ (∀ x, ma = some x → mb ≠ some x) ∧ Below w.heap.size w wr

set_option maxRecDepth 100000 in
set_option maxHeartbeats 1600000 in
theorem orders_walk (a : Option Addr) (cap : Nat) (l : List OpR) (q t now : Int) (w : World) (hr : Reads opEnc 4 w a l) (hok : ∀ o ∈ l, opOk o) (hq : I64 q) (ht : I64 t) :
    Calls Try.prog 6 #[.slice a l.length cap, .int .i64 q, .int .i64 t, .int .i64 now] w fun e w' => e = .returned (.bool true) ∧ Below w.heap.size w w' := by
  by_cases hlen : 60 < l.length
  · have hd : decide (60 < (l.length : Int)) = true := by simp; omega
    go_enter Try.func6, Try.ntmps6
    go_wp2_with fail
    refine (alive_any _).mono ?_
    rintro e w1 ⟨rfl, hB1⟩
    go_wp2
    go_ret
    exact ⟨rfl, hB1⟩
  · have hd : decide (60 < (l.length : Int)) = false := by simp; omega
    go_enter Try.func6, Try.ntmps6
    go_wp2_with fail
    refine (alive_any _).mono ?_
    rintro e w1 ⟨rfl, hB1⟩
    have hgs := hB1.size
    have hI : InvO w ((w1.alloc (.cells #[.map none] 26)).alloc (.cells #[.map none] 26)) w1.heap.size (w1.heap.size + 1) l q t 0 false 0 := by
      have hsz : (w1.alloc (.cells #[.map none] 26)).heap.size = w1.heap.size + 1 := by simp
      refine ⟨none, none, [], [], ⟨(Below.heap_alloc _ _ _ (by omega)).trans (MapKept.heap_alloc w1 _).1, fun _ => rfl, by simp⟩, ⟨?_, fun _ => rfl, by simp⟩, by simp, by simp, Tb.nil, Tb.nil, Or.inr ⟨rfl, by simp⟩, by simp, by simp, by simp, (hB1.alloc hB1.size _).alloc (by omega) _⟩
      have := (MapKept.heap_alloc (w1.alloc (.cells #[.map none] 26)) (.cells #[.map none] 26)).1
      rw [hsz] at this
      exact this
    go_wp2
    go_loopw [11, 12, 13, 14, 15, 23] (fun lg th _ _ _ i wr => ∃ (k : Nat) (there : Bool) (longest : Int), k ≤ l.length ∧ i = .int .i64 k ∧ lg = .int .i64 longest ∧ th = .bool there ∧ InvO w wr w1.heap.size (w1.heap.size + 1) l q t k there longest) (fun _ _ _ _ _ i _ => l.length - (intOf i).toNat)
    case atStart => exact ⟨0, false, 0, Nat.zero_le _, rfl, rfl, rfl, hI⟩
    case round =>
      obtain ⟨k, there, longest, hk, rfl, rfl, rfl, ma, mb, La, Lb, hTa, hTb, hLa, hLb, hSa, hSb, hLg, hma, hmb, hmm, hB⟩ := hrel
      by_cases hlt : k < l.length
      · obtain ⟨x, hx⟩ : ∃ x, l[k]? = some x := ⟨_, List.getElem?_eq_getElem hlt⟩
        obtain ⟨y, hy⟩ : ∃ y, l[l.length - 1 - k]? = some y := ⟨_, List.getElem?_eq_getElem (by omega)⟩
        obtain ⟨ad, rfl, hc⟩ := (hr.below hB) k x hx
        obtain ⟨_, ⟨⟩, hc'⟩ := (hr.below hB) _ y hy
        obtain ⟨ok0, ok1, ok2, ok3⟩ := hok x (List.mem_of_getElem? hx)
        obtain ⟨ok0', ok1', ok2', ok3'⟩ := hok y (List.mem_of_getElem? hy)
        have hc0 : wr.cell? (ad.add (k * 4)) = some (.int .i64 x.kind) := hc 0 _ rfl
        have hc1 := hc 1 _ rfl
        have hc2 := hc 2 _ rfl
        have hc3 := hc 3 _ rfl
        have hd0 : wr.cell? (ad.add ((l.length - 1 - k) * 4)) = some (.int .i64 y.kind) := hc' 0 _ rfl
        have hd1 := hc' 1 _ rfl
        have hd2 := hc' 2 _ rfl
        have hd3 := hc' 3 _ rfl
        rw [add_fld _ _ _ (by omega)] at hc1 hc2 hc3 hd1 hd2 hd3
        clear hc hc'
        have hd0a := cell_al hd0
        have hd1a := cell_al hd1
        have hd2a := cell_al hd2
        have hd3a := cell_al hd3
        have hd0b := fun o => cell_al (hd0a o)
        have hd1b := fun o => cell_al (hd1a o)
        have hd2b := fun o => cell_al (hd2a o)
        have hd3b := fun o => cell_al (hd3a o)
        have hc0a := cell_al hc0
        have hc1a := cell_al hc1
        have hc2a := cell_al hc2
        have hc3a := cell_al hc3
        have hc0b := fun o => cell_al (hc0a o)
        have hc1b := fun o => cell_al (hc1a o)
        have hc2b := fun o => cell_al (hc2a o)
        have hc3b := fun o => cell_al (hc3a o)
        go_wp2
        go_region
        all_goals clear hc0a hc1a hc2a hc3a hc0b hc1b hc2b hc3b hd0a hd1a hd2a hd3a hd0b hd1b hd2b hd3b hc0 hc1 hc2 hc3 hd0 hd1 hd2 hd3
        · have hBW : Below wr.heap.size wr (((wr.alloc (.cells #[.int .i64 x.kind, .int .i64 x.q, .int .i64 x.t, .int .i64 x.now] 29)).alloc (.cells #[.int .i64 y.kind, .int .i64 y.q, .int .i64 y.t, .int .i64 y.now] 29)).drew) := (((Below.refl wr.heap.size wr).alloc (Nat.le_refl _) _).alloc (by simp) _).drew
          have hA1 : (((wr.alloc (.cells #[.int .i64 x.kind, .int .i64 x.q, .int .i64 x.t, .int .i64 x.now] 29)).alloc (.cells #[.int .i64 y.kind, .int .i64 y.q, .int .i64 y.t, .int .i64 y.now] 29)).drew).heap[wr.heap.size]? = some (.cells #[.int .i64 x.kind, .int .i64 x.q, .int .i64 x.t, .int .i64 x.now] 29 (0, 0)) := (Below.heap_alloc _ _ _ (by simp)).trans (MapKept.heap_alloc wr _).1
          have hA2 : (((wr.alloc (.cells #[.int .i64 x.kind, .int .i64 x.q, .int .i64 x.t, .int .i64 x.now] 29)).alloc (.cells #[.int .i64 y.kind, .int .i64 y.q, .int .i64 y.t, .int .i64 y.now] 29)).drew).heap[wr.heap.size + 1]? = some (.cells #[.int .i64 y.kind, .int .i64 y.q, .int .i64 y.t, .int .i64 y.now] 29 (0, 0)) := two_new _ _ _
          have hTa1 := hTa.below hBW
          have hTb1 := hTb.below hBW
          have hB1' := Below.toB hB hBW (Nat.le_refl _)
          have hnA := hTa.nodup
          have hnB := hTb.nodup
          have hgl : w1.heap.size < wr.heap.size ∧ w1.heap.size + 1 < wr.heap.size := ⟨hTa.lt, hTb.lt⟩
          go_wp2_with fail
          refine (forbid_any _ ma La x.q x.t x.now _ hTa1 ok1 ok2 ok3).mono ?_
          rintro e w2 ⟨rfl, ma2, La2, hTa2, hpa, hma2, hka⟩
          have hTb2 := hka.isT hTa1 hTb1 (by omega) hmm
          have hA3 := hka.cells hTa1 hA1 (by omega)
          have hA4 := hka.cells hTa1 hA2 (by omega)
          have hB2' : Below w.heap.size w w2 := hB1'.trans (hka.below hB1'.size hgs hma)
          have hma3 := own_step hB.size hBW hma hma2
          have hmm2 : ∀ z, ma2 = some z → mb ≠ some z := by
            rintro z rfl
            rcases hma2 with h | ⟨_, z', h, hz⟩
            · exact hmm z h.symm
            · rintro rfl
              cases h
              have := (hTb1.2.2 z rfl).lt
              omega
          have hc1 := cell_of_heap hA3 1 rfl
          have hc2 := cell_of_heap hA3 2 rfl
          have hc3 := cell_of_heap hA3 3 rfl
          have hd1 := cell_of_heap hA4 1 rfl
          have hd2 := cell_of_heap hA4 2 rfl
          have hd3 := cell_of_heap hA4 3 rfl
          have hb2s : wr.heap.size ≤ w2.heap.size := Nat.le_trans hBW.size hka.size
          clear hTa1 hTb1 hB1' hA1 hA2 hka hma2 hBW
          go_wp2_with fail
          refine (forbid_any _ mb Lb y.q y.t y.now _ hTb2 ok1' ok2' ok3').mono ?_
          rintro e w3 ⟨rfl, mb2, Lb2, hTb3, hpb, hmb2, hkb⟩
          have hTa3 := hkb.isT hTb2 hTa2 (by omega) (fun z hz hz' => hmm2 z hz' hz)
          have hA5 := hkb.cells hTb2 hA3 (by omega)
          have hB3' : Below w.heap.size w w3 := hB2'.trans (hkb.below hB2'.size (by omega) hmb)
          have hmb3 : ∀ b, mb2 = some b → w.heap.size ≤ b := own_step hB2'.size (Below.refl _ w2) hmb hmb2
          have hmm3 : ∀ z, ma2 = some z → mb2 ≠ some z := by
            rintro z hz rfl
            rcases hmb2 with h | ⟨_, z', h, hz'⟩
            · exact hmm2 z hz h.symm
            · cases h
              have := (hTa2.2.2 z hz).lt
              omega
          clear hc1 hc2 hc3 hd1 hd2 hd3 hA3 hA4 hkb hmb2 hTa2 hTb2 hB2'
          have hc1 := cell_of_heap hA5 1 rfl
          have hc2 := cell_of_heap hA5 2 rfl
          have hc3 := cell_of_heap hA5 3 rfl
          have hSa2 := step_take hx (hSa.step hnA hpa)
          have hSb2 := step_rev hy hlt (hSb.step hnB hpb)
          have hLa2 := hpa.length
          have hLb2 := hpb.length
          clear hpb hA5 hmm hmm2 hma hmb
          by_cases hxq : x.q = q
          · by_cases hxt : x.t = t
            · have hpa' : PutMax La (q, t) x.now La2 := by rw [← hxq, ← hxt]; exact hpa
              have h1 : (x.q == q) = true := by simpa using hxq
              have h2 : (x.t == t) = true := by simpa using hxt
              clear hxq hxt hpa
              cases there with
              | false =>
                have hLg2 := hLg.more hnA hpa' (Or.inl rfl)
                clear hLg hpa'
                go_wp2
                go_roundw
                case rel => exact ⟨k + 1, true, x.now, by omega, by go_num, rfl, rfl, ma2, mb2, La2, Lb2, hTa3, hTb3, by omega, by omega, hSa2, hSb2, hLg2, hma3, hmb3, hmm3, hB3'⟩
                case measure => simp [intOf]; omega
              | true =>
                by_cases hgt : longest < x.now
                · have hLg2 := hLg.more hnA hpa' (Or.inr hgt)
                  clear hLg hpa'
                  go_wp2
                  go_roundw
                  case rel => exact ⟨k + 1, true, x.now, by omega, by go_num, rfl, rfl, ma2, mb2, La2, Lb2, hTa3, hTb3, by omega, by omega, hSa2, hSb2, hLg2, hma3, hmb3, hmm3, hB3'⟩
                  case measure => simp [intOf]; omega
                · have hLg2 := hLg.less hnA hpa' (by omega)
                  clear hLg hpa'
                  go_wp2
                  go_roundw
                  case rel => exact ⟨k + 1, true, longest, by omega, by go_num, rfl, rfl, ma2, mb2, La2, Lb2, hTa3, hTb3, by omega, by omega, hSa2, hSb2, hLg2, hma3, hmb3, hmm3, hB3'⟩
                  case measure => simp [intOf]; omega
            · have hLg2 := hLg.other hnA hpa (by rintro ⟨⟩; exact hxt rfl)
              have h1 : (x.q == q) = true := by simpa using hxq
              have h2 : (x.t == t) = false := by simpa using hxt
              clear hxq hxt hpa hLg
              go_wp2
              go_roundw
              case rel => exact ⟨k + 1, there, longest, by omega, by go_num, rfl, rfl, ma2, mb2, La2, Lb2, hTa3, hTb3, by omega, by omega, hSa2, hSb2, hLg2, hma3, hmb3, hmm3, hB3'⟩
              case measure => simp [intOf]; omega
          · have hLg2 := hLg.other hnA hpa (by rintro ⟨⟩; exact hxq rfl)
            have h1 : (x.q == q) = false := by simpa using hxq
            clear hxq hpa hLg
            go_wp2
            go_roundw
            case rel => exact ⟨k + 1, there, longest, by omega, by go_num, rfl, rfl, ma2, mb2, La2, Lb2, hTa3, hTb3, by omega, by omega, hSa2, hSb2, hLg2, hma3, hmb3, hmm3, hB3'⟩
            case measure => simp [intOf]; omega
        · have hBW : Below wr.heap.size wr (((wr.alloc (.cells #[.int .i64 y.kind, .int .i64 y.q, .int .i64 y.t, .int .i64 y.now] 29)).alloc (.cells #[.int .i64 x.kind, .int .i64 x.q, .int .i64 x.t, .int .i64 x.now] 29)).drew) := (((Below.refl wr.heap.size wr).alloc (Nat.le_refl _) _).alloc (by simp) _).drew
          have hA1 : (((wr.alloc (.cells #[.int .i64 y.kind, .int .i64 y.q, .int .i64 y.t, .int .i64 y.now] 29)).alloc (.cells #[.int .i64 x.kind, .int .i64 x.q, .int .i64 x.t, .int .i64 x.now] 29)).drew).heap[wr.heap.size]? = some (.cells #[.int .i64 y.kind, .int .i64 y.q, .int .i64 y.t, .int .i64 y.now] 29 (0, 0)) := (Below.heap_alloc _ _ _ (by simp)).trans (MapKept.heap_alloc wr _).1
          have hA2 : (((wr.alloc (.cells #[.int .i64 y.kind, .int .i64 y.q, .int .i64 y.t, .int .i64 y.now] 29)).alloc (.cells #[.int .i64 x.kind, .int .i64 x.q, .int .i64 x.t, .int .i64 x.now] 29)).drew).heap[wr.heap.size + 1]? = some (.cells #[.int .i64 x.kind, .int .i64 x.q, .int .i64 x.t, .int .i64 x.now] 29 (0, 0)) := two_new _ _ _
          have hTa1 := hTa.below hBW
          have hTb1 := hTb.below hBW
          have hB1' := Below.toB hB hBW (Nat.le_refl _)
          have hnA := hTa.nodup
          have hnB := hTb.nodup
          have hgl : w1.heap.size < wr.heap.size ∧ w1.heap.size + 1 < wr.heap.size := ⟨hTa.lt, hTb.lt⟩
          go_wp2_with fail
          refine (forbid_any _ ma La x.q x.t x.now _ hTa1 ok1 ok2 ok3).mono ?_
          rintro e w2 ⟨rfl, ma2, La2, hTa2, hpa, hma2, hka⟩
          have hTb2 := hka.isT hTa1 hTb1 (by omega) hmm
          have hA3 := hka.cells hTa1 hA1 (by omega)
          have hA4 := hka.cells hTa1 hA2 (by omega)
          have hB2' : Below w.heap.size w w2 := hB1'.trans (hka.below hB1'.size hgs hma)
          have hma3 := own_step hB.size hBW hma hma2
          have hmm2 : ∀ z, ma2 = some z → mb ≠ some z := by
            rintro z rfl
            rcases hma2 with h | ⟨_, z', h, hz⟩
            · exact hmm z h.symm
            · rintro rfl
              cases h
              have := (hTb1.2.2 z rfl).lt
              omega
          have hc1 := cell_of_heap hA4 1 rfl
          have hc2 := cell_of_heap hA4 2 rfl
          have hc3 := cell_of_heap hA4 3 rfl
          have hd1 := cell_of_heap hA3 1 rfl
          have hd2 := cell_of_heap hA3 2 rfl
          have hd3 := cell_of_heap hA3 3 rfl
          have hb2s : wr.heap.size ≤ w2.heap.size := Nat.le_trans hBW.size hka.size
          clear hTa1 hTb1 hB1' hA1 hA2 hka hma2 hBW
          go_wp2_with fail
          refine (forbid_any _ mb Lb y.q y.t y.now _ hTb2 ok1' ok2' ok3').mono ?_
          rintro e w3 ⟨rfl, mb2, Lb2, hTb3, hpb, hmb2, hkb⟩
          have hTa3 := hkb.isT hTb2 hTa2 (by omega) (fun z hz hz' => hmm2 z hz' hz)
          have hA5 := hkb.cells hTb2 hA4 (by omega)
          have hB3' : Below w.heap.size w w3 := hB2'.trans (hkb.below hB2'.size (by omega) hmb)
          have hmb3 : ∀ b, mb2 = some b → w.heap.size ≤ b := own_step hB2'.size (Below.refl _ w2) hmb hmb2
          have hmm3 : ∀ z, ma2 = some z → mb2 ≠ some z := by
            rintro z hz rfl
            rcases hmb2 with h | ⟨_, z', h, hz'⟩
            · exact hmm2 z hz h.symm
            · cases h
              have := (hTa2.2.2 z hz).lt
              omega
          clear hc1 hc2 hc3 hd1 hd2 hd3 hA3 hA4 hkb hmb2 hTa2 hTb2 hB2'
          have hc1 := cell_of_heap hA5 1 rfl
          have hc2 := cell_of_heap hA5 2 rfl
          have hc3 := cell_of_heap hA5 3 rfl
          have hSa2 := step_take hx (hSa.step hnA hpa)
          have hSb2 := step_rev hy hlt (hSb.step hnB hpb)
          have hLa2 := hpa.length
          have hLb2 := hpb.length
          clear hpb hA5 hmm hmm2 hma hmb
          by_cases hxq : x.q = q
          · by_cases hxt : x.t = t
            · have hpa' : PutMax La (q, t) x.now La2 := by rw [← hxq, ← hxt]; exact hpa
              have h1 : (x.q == q) = true := by simpa using hxq
              have h2 : (x.t == t) = true := by simpa using hxt
              clear hxq hxt hpa
              cases there with
              | false =>
                have hLg2 := hLg.more hnA hpa' (Or.inl rfl)
                clear hLg hpa'
                go_wp2
                go_roundw
                case rel => exact ⟨k + 1, true, x.now, by omega, by go_num, rfl, rfl, ma2, mb2, La2, Lb2, hTa3, hTb3, by omega, by omega, hSa2, hSb2, hLg2, hma3, hmb3, hmm3, hB3'⟩
                case measure => simp [intOf]; omega
              | true =>
                by_cases hgt : longest < x.now
                · have hLg2 := hLg.more hnA hpa' (Or.inr hgt)
                  clear hLg hpa'
                  go_wp2
                  go_roundw
                  case rel => exact ⟨k + 1, true, x.now, by omega, by go_num, rfl, rfl, ma2, mb2, La2, Lb2, hTa3, hTb3, by omega, by omega, hSa2, hSb2, hLg2, hma3, hmb3, hmm3, hB3'⟩
                  case measure => simp [intOf]; omega
                · have hLg2 := hLg.less hnA hpa' (by omega)
                  clear hLg hpa'
                  go_wp2
                  go_roundw
                  case rel => exact ⟨k + 1, true, longest, by omega, by go_num, rfl, rfl, ma2, mb2, La2, Lb2, hTa3, hTb3, by omega, by omega, hSa2, hSb2, hLg2, hma3, hmb3, hmm3, hB3'⟩
                  case measure => simp [intOf]; omega
            · have hLg2 := hLg.other hnA hpa (by rintro ⟨⟩; exact hxt rfl)
              have h1 : (x.q == q) = true := by simpa using hxq
              have h2 : (x.t == t) = false := by simpa using hxt
              clear hxq hxt hpa hLg
              go_wp2
              go_roundw
              case rel => exact ⟨k + 1, there, longest, by omega, by go_num, rfl, rfl, ma2, mb2, La2, Lb2, hTa3, hTb3, by omega, by omega, hSa2, hSb2, hLg2, hma3, hmb3, hmm3, hB3'⟩
              case measure => simp [intOf]; omega
          · have hLg2 := hLg.other hnA hpa (by rintro ⟨⟩; exact hxq rfl)
            have h1 : (x.q == q) = false := by simpa using hxq
            clear hxq hpa hLg
            go_wp2
            go_roundw
            case rel => exact ⟨k + 1, there, longest, by omega, by go_num, rfl, rfl, ma2, mb2, La2, Lb2, hTa3, hTb3, by omega, by omega, hSa2, hSb2, hLg2, hma3, hmb3, hmm3, hB3'⟩
            case measure => simp [intOf]; omega
      · obtain rfl : k = l.length := by omega
        have hnA := hTa.nodup
        have hnB := hTb.nodup
        rw [List.take_of_length_le (by simp)] at hSa hSb
        have hp := hSa.perm hSb hnA hnB (by simp)
        have hcnt : liveN La now = liveN Lb now := hp.countP_eq _
        have hla := hLg.is hnA now
        have hlb : isT Lb q t now = isT La q t now := by
          rw [Bool.eq_iff_iff, isT_iff, isT_iff]
          simp only [hp.mem_iff]
        have hL1 : La.length ≤ 1000000 := by omega
        have hL2 : Lb.length ≤ 1000000 := by omega
        have Hc := Lib.hid hcnt
        clear hcnt hp hSa hSb hLg
        cases there with
        | false =>
          rw [Bool.false_and] at hla
          rw [hla] at hlb
          go_wp2_with fail
          refine (is_any _ ma La q t now _ hTa hq ht).mono ?_
          rintro e w' ⟨rfl, rfl⟩
          go_wp2_with fail
          refine (is_any _ mb Lb q t now _ hTb hq ht).mono ?_
          rintro e w' ⟨rfl, rfl⟩
          go_wp2_with fail
          refine (is_any _ ma La q t now _ hTa hq ht).mono ?_
          rintro e w' ⟨rfl, rfl⟩
          go_wp2_with fail
          refine (count_any _ ma La now _ hTa hL1).mono ?_
          rintro e w2 ⟨rfl, hb2⟩
          have hB2 := Below.toB hB hb2 (Nat.le_refl _)
          have hTb2 := hTb.below hb2
          go_wp2_with fail
          refine (count_any _ mb Lb now _ hTb2 hL2).mono ?_
          rintro e w3 ⟨rfl, hb3⟩
          have hB3 := Below.toB hB2 hb3 (Nat.le_refl _)
          rw [← Hc.out]
          go_wp2
          go_ret
          exact ⟨by simp, hB3⟩
        | true =>
          rw [Bool.true_and] at hla
          rw [hla] at hlb
          by_cases hnl : now < longest
          all_goals
            first | have hd1 : decide (now < longest) = true := decide_eq_true hnl | have hd1 : decide (now < longest) = false := decide_eq_false hnl
            rw [hd1] at hla hlb
            go_wp2_with fail
            refine (is_any _ ma La q t now _ hTa hq ht).mono ?_
            rintro e w' ⟨rfl, rfl⟩
            go_wp2_with fail
            refine (is_any _ mb Lb q t now _ hTb hq ht).mono ?_
            rintro e w' ⟨rfl, rfl⟩
            go_wp2_with fail
            refine (is_any _ ma La q t now _ hTa hq ht).mono ?_
            rintro e w' ⟨rfl, rfl⟩
            go_wp2_with fail
            refine (count_any _ ma La now _ hTa hL1).mono ?_
            rintro e w2 ⟨rfl, hb2⟩
            have hB2 := Below.toB hB hb2 (Nat.le_refl _)
            have hTb2 := hTb.below hb2
            go_wp2_with fail
            refine (count_any _ mb Lb now _ hTb2 hL2).mono ?_
            rintro e w3 ⟨rfl, hb3⟩
            have hB3 := Below.toB hB2 hb3 (Nat.le_refl _)
            rw [← Hc.out]
            go_wp2
            go_ret
            exact ⟨by simp, hB3⟩
end Go.Proofs.Ytihfnoaannjegaa
