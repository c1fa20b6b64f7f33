/- What the table's methods do to its map. No condition. -/
import Derived.Test.YtihfnoaannjegaaTab
import Derived.Deep.QuietTactic
import Derived.BigQuiet
import Derived.Outline
import Derived.LoopTactic
import Derived.Lib.Hide
import Derived.WalkSpells
import Derived.WalkLawsBesides
namespace Go.Proofs.Ytihfnoaannjegaa
open Go.RowKit Go.Maps Go.MapKept

/-- The table at block g, whose map lies in block m. -/
def IsT (w : World) (g : Nat) (m : Option Nat) (L : List Ent) : Prop :=
  w.heap[g]? = some (.cells #[.map m] 26 (0, 0)) ∧ (m = none → L = []) ∧ ∀ b, m = some b → TabAt w b L
theorem IsT.cell {w : World} {g : Nat} {m : Option Nat} {L : List Ent} (h : IsT w g m L) : w.cell? ⟨g, 0, none⟩ = some (.map m) := by
  simp [World.cell?, h.1]
theorem IsT.frozen {w : World} {g : Nat} {m : Option Nat} {L : List Ent} (h : IsT w g m L) : w.frozen? ⟨g, 0, none⟩ = false := by
  simp [World.frozen?, h.1]
/-- Whether a pair stands there, forbidden. -/
def isT (L : List Ent) (q t now : Int) : Bool := L.any fun p => p.1 == (q, t) && decide (now < p.2)

theorem IsT.look {w : World} {g : Nat} {m : Option Nat} {L : List Ent} (h : IsT w g m L) {q t : Int} (hq : I64 q) (ht : I64 t) : ∃ v ok, I64 v ∧ (∀ n, (Instr.lookup 24 (.map m) (.agg #[.int .i64 q, .int .i64 t]) true).run Try.prog (w.drewN n) = .ok (.tuple #[.int .i64 v, .bool ok]) (w.drewN n)) ∧
    ((ok = true ∧ ((q, t), v) ∈ L) ∨ (ok = false ∧ v = 0 ∧ ∀ u, ((q, t), u) ∉ L)) := by
  cases m with
  | none => exact ⟨0, false, ⟨by omega, by omega⟩, look_nilT w hq ht, Or.inr ⟨rfl, rfl, by rw [h.2.1 rfl]; simp⟩⟩
  | some b => exact (h.2.2 b rfl).look hq ht
theorem any_of_nodup {L : List Ent} (hn : (L.map (·.1)).Nodup) {k : Int × Int} {v : Int} (hm : (k, v) ∈ L) (p : Int → Bool) : (L.any fun e => e.1 == k && p e.2) = p v := by
  induction L with
  | nil => simp at hm
  | cons a r ih =>
    simp only [List.map_cons, List.nodup_cons] at hn
    rcases List.mem_cons.1 hm with rfl | hm
    · have : (r.any fun e => e.1 == k && p e.2) = false := by
        rw [List.any_eq_false]
        intro e he hc
        simp only [Bool.and_eq_true, beq_iff_eq] at hc
        exact hn.1 (List.mem_map.2 ⟨e, he, hc.1⟩)
      simp [this]
    · have hne : (a.1 == k) = false := by
        simp only [beq_eq_false_iff_ne]
        rintro rfl
        exact hn.1 (List.mem_map.2 ⟨_, hm, rfl⟩)
      simp [hne, ih hn.2 hm]
theorem IsT.nodup {w : World} {g : Nat} {m : Option Nat} {L : List Ent} (h : IsT w g m L) : (L.map (·.1)).Nodup := by
  cases m with
  | none => rw [h.2.1 rfl]; simp
  | some b => exact (h.2.2 b rfl).nodup

set_option maxRecDepth 100000 in
theorem is_any (g : Nat) (m : Option Nat) (L : List Ent) (q t now : Int) (w : World) (h : IsT w g m L) (hq : I64 q) (ht : I64 t) :
    Calls Try.prog 13 #[.pointer (some ⟨g, 0, none⟩), .int .i64 q, .int .i64 t, .int .i64 now] w fun e w' => e = .returned (.bool (isT L q t now)) ∧ w = w' := by
  obtain ⟨v, ok, hv, hrun, hcase⟩ := h.look hq ht
  have hrun1 : (Instr.lookup 24 (.map m) (.agg #[.int .i64 q, .int .i64 t]) true).run Try.prog w = .ok (.tuple #[.int .i64 v, .bool ok]) w := hrun 0
  clear hrun
  have hc := h.cell
  have hfin : (ok && decide (now < v)) = isT L q t now := by
    unfold isT
    rcases hcase with ⟨rfl, hm⟩ | ⟨rfl, rfl, hm⟩
    · rw [any_of_nodup h.nodup hm (fun v => decide (now < v))]; simp
    · symm
      simp only [Bool.false_and, List.any_eq_false]
      rintro ⟨k, u⟩ hmem hc
      simp only [Bool.and_eq_true, beq_iff_eq] at hc
      exact hm u (by rw [← hc.1]; exact hmem)
  have Hfin := Lib.hid hfin
  clear hfin hcase
  cases ok with
  | false =>
    go_enter Try.func13, Try.ntmps13
    go_wp2
    go_ret
    exact ⟨by rw [← Hfin.out]; rfl, rfl⟩
  | true =>
    go_enter Try.func13, Try.ntmps13
    go_wp2
    go_ret
    exact ⟨by rw [← Hfin.out]; simp, rfl⟩

/-- How many are forbidden. -/
def liveN (L : List Ent) (now : Int) : Nat := L.countP fun p => decide (now < p.2)

theorem wpList_range_tab {ops : Array Oper} {rest : List Oper} {o : Oper} {a : Act} {Q : Exit → Act → World → Prop} (w : World) (b : Nat) (L : List Ent) (hg : o.guard = none) (x : Operand) (hop : o.op = Op.range 24 x)
    (hm : a.eval x = .map (some b)) (h : TabAt w b L)
    (hK : ∀ w', TabIt w' b w.heap.size L L → w.grownBy w' none → w'.heap.size = w.heap.size + 1 → wpList Try.prog ops Q rest (a.put o.dst (.pointer (some ⟨w.heap.size, 0, none⟩))) w') :
    wpList Try.prog ops Q (o :: rest) a w := by
  refine wpList_plain hg fun K' hK' => ?_
  obtain ⟨w', hrun, r1, r2, r3⟩ := h.range
  unfold Oper.wp
  simp [execOp, hop, hm, hrun, Result.andThen]
  exact hK' _ _ (hK w' r1 r2 r3)
theorem wpList_next_tab {ops : Array Oper} {rest : List Oper} {o : Oper} {a : Act} {Q : Exit → Act → World → Prop} (w : World) (b r : Nat) (L left : List Ent) (hg : o.guard = none) (it : Operand) (hop : o.op = Op.next it false)
    (hit : a.eval it = .pointer (some ⟨r, 0, none⟩)) (h : TabIt w b r L left)
    (hDone : left = [] → wpList Try.prog ops Q rest (a.put o.dst (.tuple #[.bool false])) w)
    (hMore : ∀ (q t u : Int) (left' : List Ent) (w' : World), left.Perm (((q, t), u) :: left') → ((q, t), u) ∈ L → okE ((q, t), u) → TabIt w' b r L left' → w.grownBy w' (some r) → w'.heap.size = w.heap.size →
      (Instr.entry (.pointer (some ⟨r, 0, none⟩))).run Try.prog w' = .ok (.tuple #[.agg #[.int .i64 q, .int .i64 t], .int .i64 u]) w' →
      wpList Try.prog ops Q rest (a.put o.dst (.tuple #[.bool true, .agg #[.int .i64 q, .int .i64 t], .int .i64 u])) w') :
    wpList Try.prog ops Q (o :: rest) a w := by
  refine wpList_plain hg fun K' hK' => ?_
  unfold Oper.wp
  rcases h.next o.type with ⟨h0, hrun⟩ | ⟨p, left', w', hp, hm, ho, hrun, h1, h2, h3, h4⟩
  · simp [execOp, hop, hit, hrun, Result.andThen]
    exact hK' _ _ (hDone h0)
  · simp [execOp, hop, hit, hrun, Result.andThen]
    exact hK' _ _ (hMore p.1.1 p.1.2 p.2 left' w' hp hm ho h1 h2 h3 h4)

/-- What a method leaves as it was: all but the table's block, its map's, and what is new. -/
structure Keep (w w' : World) (g : Nat) (m : Option Nat) : Prop where
  os : w'.os = w.os
  tape : w'.tape = w.tape
  output : w'.output = w.output
  size : w.heap.size ≤ w'.heap.size
  block : ∀ i, i < w.heap.size → i ≠ g → some i ≠ m → w'.heap[i]? = w.heap[i]?

theorem count_nil (g : Nat) (now : Int) (w : World) (h : IsT w g none []) :
    Calls Try.prog 15 #[.pointer (some ⟨g, 0, none⟩), .int .i64 now] w fun e w' => e = .returned (.int .i64 0) ∧ Below w.heap.size w w' := by
  have hc := h.cell
  have hrg := run_range_nilMap (P := Try.prog) w 24 51 3 Try.underlying24
  have hnx : ∀ ty, (Instr.next (.pointer (some ⟨w.heap.size, 0, none⟩)) false ty).run Try.prog (w.alloc (.mapIter none 0 #[] 0)) = _ := fun ty => run_next_nilMap w ty 0 0 #[]
  go_enter Try.func15, Try.ntmps15
  go_wp2
  refine wp_loop_rounds 1 ?_
  rw [rounds_succ]
  go_wp2
  go_ret
  exact ⟨rfl, (Below.refl _ _).alloc (Nat.le_refl _) _⟩

set_option maxRecDepth 100000 in
theorem count_some (g b : Nat) (L : List Ent) (now : Int) (w : World) (h : IsT w g (some b) L) (hL : L.length ≤ 1000000) :
    Calls Try.prog 15 #[.pointer (some ⟨g, 0, none⟩), .int .i64 now] w fun e w' => e = .returned (.int .i64 (liveN L now)) ∧ Below w.heap.size w w' := by
  have hc := h.cell
  have ht := h.2.2 b rfl
  go_enter Try.func15, Try.ntmps15
  go_wp2_with (first | (at_range; refine wpList_range_tab _ b L rfl _ rfl rfl ht ?_; intro w0 hit0 hg0 hs0) | go_in)
  go_frame
  go_loopw [5, 7] (fun n _ wr => ∃ done left, TabIt wr b w.heap.size L left ∧ L.Perm (done ++ left) ∧ n = .int .i64 (liveN done now) ∧ Below w.heap.size w wr)
    (fun _ _ wr => wr.rangeLeft b w.heap.size)
  case atStart => exact ⟨[], L, hit0, List.Perm.refl _, rfl, (Below.refl _ _).grown hg0 (Nat.le_refl _) (by simp)⟩
  case round =>
    obtain ⟨done, left, hit, hperm, rfl, hB⟩ := hrel
    have hlen := hperm.length_eq
    have hcnt : liveN done now ≤ done.length := List.countP_le_length
    simp only [List.length_append] at hlen
    have hbd : liveN done now < 9000000 := by omega
    clear hlen hcnt
    go_wp2_with (first | (at_next; refine wpList_next_tab _ b w.heap.size L left rfl _ rfl rfl hit ?_ ?_) | go_in)
    · intro hl
      subst hl
      have hp2 : liveN done now = liveN L now := by
        unfold liveN
        rw [hperm.countP_eq]
        simp
      have H := Lib.hid hp2
      clear hp2
      go_wp2
      go_ret
      exact ⟨by rw [H.out]; rfl, hB⟩
    · intro q t u left' w1 hp hmem hok hit1 hg1 hs1 hen
      obtain ⟨p, hpe⟩ : ∃ p : Ent, p = ((q, t), u) := ⟨_, rfl⟩
      have hpu : p.2 = u := by rw [hpe]
      rw [← hpe] at hp hmem hok
      have HP := Lib.hid hpu
      clear hpe hpu
      have hB1 : Below w.heap.size w w1 := hB.grown hg1 hB.size (by rintro k ⟨⟩; exact Nat.le_refl _)
      have hperm1 : L.Perm ((done ++ [p]) ++ left') := by
        refine hperm.trans ((hp.append_left done).trans ?_)
        simp
      have hc1 : liveN (done ++ [p]) now = liveN done now + if now < u then 1 else 0 := by
        unfold liveN
        rw [List.countP_append, ← HP.out]
        by_cases hlt : now < p.2 <;> simp [hlt]
      have hm1 : w1.rangeLeft b w.heap.size < wr.rangeLeft b w.heap.size := by
        rw [hit1.cnt, hit.cnt, hp.length_eq]; simp
      have H1 := Lib.hid hc1
      have H2 := Lib.hid hm1
      clear hc1 hm1
      clear hp hmem hok
      by_cases hlt : now < u
      · go_wp2
        go_roundw
        case rel => exact ⟨done ++ [p], left', hit1, hperm1, by rw [H1.out, if_pos hlt]; go_num, hB1⟩
        case measure => exact H2.out
      · go_wp2
        go_roundw
        case rel => exact ⟨done ++ [p], left', hit1, hperm1, by rw [H1.out, if_neg hlt]; rfl, hB1⟩
        case measure => exact H2.out

theorem wpList_delete_tab {ops : Array Oper} {rest : List Oper} {o : Oper} {a : Act} {Q : Exit → Act → World → Prop} (w : World) (b r : Nat) (L left : List Ent) (q t u : Int) (hg : o.guard = none) (m x : Operand)
    (hop : o.op = Op.call { callee := Callee.builtin Builtin.delete, args := #[m, x], argTypes := #[24, 51] })
    (hm : a.eval m = .map (some b)) (hx : a.eval x = .agg #[.int .i64 q, .int .i64 t]) (h : TabIt w b r L left) (hin : ((q, t), u) ∈ L) (hout : ∀ u', ((q, t), u') ∉ left)
    (hK : ∀ L' w', TabIt w' b r L' left → L.Perm (((q, t), u) :: L') → w.grownBy w' (some b) → w'.heap.size = w.heap.size → wpList Try.prog ops Q rest (a.put o.dst (.tuple #[])) w') :
    wpList Try.prog ops Q (o :: rest) a w := by
  refine wpList_plain hg fun K' hK' => ?_
  obtain ⟨w', L', hrun, r1, r2, r3, r4⟩ := h.drop hin hout o.type
  unfold Oper.wp
  unfold key2 at hrun
  simp [execOp, hop, resolve, invoke, builtin, hm, hx, hrun, Result.andThen]
  exact hK' _ _ (hK L' w' r1 r2 r3 r4)

theorem sweep1_any (q t u now : Int) (c : Addr) (w : World) (hc : w.cell? c = some (.int .i64 now)) (hb : c.block < w.heap.size) :
    Calls Try.prog 22 #[.agg #[.int .i64 q, .int .i64 t], .int .i64 u, .pointer (some c)] w fun e w' => e = .returned (.bool (decide (u ≤ now))) ∧ Below w.heap.size w w' := by
  have hc1 : ∀ o, (w.alloc o).cell? c = some (.int .i64 now) := fun o => (Below.cell ((Below.refl w.heap.size w).alloc (Nat.le_refl _) o) hb).trans hc
  go_enter Try.func22, Try.ntmps22
  go_wp2
  go_ret
  exact ⟨rfl, (Below.refl _ _).alloc (Nat.le_refl _) _⟩

theorem countP_sub {α : Type} (p : α → Bool) (l : List α) : l.length = (l.filter p).length + (l.filter fun x => !p x).length := by
  induction l with
  | nil => rfl
  | cons a r ih => cases h : p a <;> simp [h] <;> omega

theorem not_left {Ln kept left left' : List Ent} {q t u : Int} (hn : (Ln.map (·.1)).Nodup) (hk : Ln.Perm (kept ++ left)) (hp : left.Perm (((q, t), u) :: left')) : ∀ u', ((q, t), u') ∉ left' := by
  intro u' hu'
  have h1 : Ln.Perm (kept ++ (((q, t), u) :: left')) := hk.trans (hp.append_left kept)
  have h2 := ((h1.map (·.1)).nodup_iff).1 hn
  rw [List.map_append, List.nodup_append] at h2
  have h3 := h2.2.1
  rw [List.map_cons, List.nodup_cons] at h3
  exact h3.1 (List.mem_map.2 ⟨_, hu', rfl⟩)
theorem del_step {Ln L' done left left' : List Ent} {p : Ent} {now : Int} (hkeep : Ln.Perm ((done.filter fun p => decide (now < p.2)) ++ left)) (hp : left.Perm (p :: left')) (hd : Ln.Perm (p :: L')) (hu : ¬ now < p.2) :
    L'.Perm (((done ++ [p]).filter fun p => decide (now < p.2)) ++ left') := by
  have h1 : (p :: L').Perm (p :: ((done.filter fun p => decide (now < p.2)) ++ left')) :=
    hd.symm.trans (hkeep.trans ((hp.append_left _).trans List.perm_middle))
  have h2 := (List.perm_cons _).1 h1
  rw [List.filter_append]
  simpa [hu] using h2
theorem stay_step {Ln done left left' : List Ent} {p : Ent} {now : Int} (hkeep : Ln.Perm ((done.filter fun p => decide (now < p.2)) ++ left)) (hp : left.Perm (p :: left')) (hu : now < p.2) :
    Ln.Perm (((done ++ [p]).filter fun p => decide (now < p.2)) ++ left') := by
  refine hkeep.trans ((hp.append_left _).trans ?_)
  rw [List.filter_append]
  simp [hu]
theorem perm_step {L done left left' : List Ent} {p : Ent} (hperm : L.Perm (done ++ left)) (hp : left.Perm (p :: left')) : L.Perm ((done ++ [p]) ++ left') := by
  refine hperm.trans ((hp.append_left done).trans ?_)
  simp

theorem block_alloc_below {w1 w2 : World} {o : Obj} (hb : Below (w1.alloc o).heap.size (w1.alloc o) w2) : ∀ i, i < w1.heap.size → w2.heap[i]? = w1.heap[i]? := fun i hi =>
  (hb.block i (by simp; omega)).trans (Below.heap_alloc w1 o i hi)
theorem grown_alloc_below {w w1 w2 : World} {o : Obj} {row : Option Nat} (hg : w.grownBy w1 row) (hb : Below (w1.alloc o).heap.size (w1.alloc o) w2) : w.grownBy w2 row :=
  ⟨hb.os.trans hg.os, hb.tape.trans hg.tape, hb.output.trans hg.output, by have := hb.size; have := hg.size; simp at *; omega, fun i hi hne => (block_alloc_below hb i (Nat.lt_of_lt_of_le hi hg.size)).trans (hg.block i hi hne)⟩
theorem cells_new {w1 w2 : World} {cs : Array Value} {ty : TypeId} (hb : Below (w1.alloc (.cells cs ty)).heap.size (w1.alloc (.cells cs ty)) w2) (j : Nat) : w2.cell? ⟨w1.heap.size, j, none⟩ = cs[j]? := by
  have h1 : w2.heap[w1.heap.size]? = some (.cells cs ty (0, 0)) := (hb.block _ (by simp)).trans (MapKept.heap_alloc w1 _).1
  simp [World.cell?, h1]

set_option maxRecDepth 100000 in
set_option maxHeartbeats 1600000 in
theorem deleteFunc_any (b c : Nat) (L : List Ent) (now : Int) (w : World) (h : TabAt w b L) (hc : w.cell? ⟨c, 0, none⟩ = some (.int .i64 now)) (hcb : c < w.heap.size) (hne : c ≠ b) :
    Calls Try.prog 21 #[.map (some b), .func (.func 22) #[] #[.pointer (some ⟨c, 0, none⟩)]] w fun e w' => e = .returned (.tuple #[]) ∧ (∃ L', TabAt w' b L' ∧ L'.Perm (L.filter fun p => decide (now < p.2))) ∧ w.grownBy w' (some b) := by
  go_enter Try.func21, Try.ntmps21
  go_wp2_with (first | (at_range; refine wpList_range_tab _ b L rfl _ rfl rfl h ?_; intro w0 hit0 hg0 hs0) | go_in)
  go_frame
  go_loopw [4, 5] (fun _ _ wr => ∃ done left Ln, TabIt wr b w.heap.size Ln left ∧ L.Perm (done ++ left) ∧ Ln.Perm ((done.filter fun p => decide (now < p.2)) ++ left) ∧ w.grownBy wr (some b))
    (fun _ _ wr => wr.rangeLeft b w.heap.size)
  case atStart => exact ⟨[], L, L, hit0, List.Perm.refl _, List.Perm.refl _, hg0.but _⟩
  case round =>
    obtain ⟨done, left, Ln, hit, hperm, hkeep, hG⟩ := hrel
    go_wp2_with (first | (at_next; refine wpList_next_tab _ b w.heap.size Ln left rfl _ rfl rfl hit ?_ ?_) | go_in)
    · intro hl
      subst hl
      have hp2 : Ln.Perm (L.filter fun p => decide (now < p.2)) := by
        refine hkeep.trans ?_
        rw [List.append_nil]
        exact (by simpa using (hperm.filter fun p => decide (now < p.2)).symm)
      go_wp2
      go_end0
      exact ⟨rfl, ⟨Ln, hit.tab, hp2⟩, hG⟩
    · intro q t u left' w1 hp hmem hok hit1 hg1 hs1 hen
      have hout := not_left hit.tab.nodup hkeep hp
      have hG1 := hG.andThen hg1 (by rintro j ⟨⟩; exact Or.inl (Nat.le_refl _))
      have hcb1 : c < w1.heap.size := Nat.lt_of_lt_of_le hcb hG1.size
      have hc1 : w1.cell? ⟨c, 0, none⟩ = some (.int .i64 now) := (World.cell?_of_block (w := w) (hG1.block c hcb (by simpa using hne))).trans hc
      have hperm1 := perm_step hperm hp
      have Hp := Lib.hid hp
      have Hk := Lib.hid hkeep
      have Hm := Lib.hid hmem
      have Ho := Lib.hid hout
      clear hp hkeep hmem hout hperm hok
      have hc2 : ∀ o, (w1.alloc o).cell? ⟨c, 0, none⟩ = some (.int .i64 now) := fun o => (Below.cell ((Below.refl w1.heap.size w1).alloc (Nat.le_refl _) o) hcb1).trans hc1
      have Hs := Lib.hid hs1
      clear hs1
      by_cases hlt : now < u
      · have hd : decide (u ≤ now) = false := decide_eq_false (by omega)
        go_wp2_with (first | (go_at_call 22; refine (sweep1_any q t u now ⟨c, 0, none⟩ _ (hc2 _) (by simp; omega)).mono ?_; rintro e w2 ⟨rfl, hb2⟩) | go_in)
        have hit2 : TabIt w2 b w.heap.size Ln left' := hit1.of_blocks (block_alloc_below hb2 b hit1.tab.lt) (block_alloc_below hb2 _ hit1.lt)
        have hG2 : w.grownBy w2 (some b) := grown_alloc_below hG1 hb2
        go_roundw
        case rel => exact ⟨_, _, _, hit2, hperm1, stay_step Hk.out Hp.out hlt, hG2⟩
        case measure => rw [hit2.cnt, hit.cnt, Hp.out.length_eq]; simp
      · have hd : decide (u ≤ now) = true := decide_eq_true (by omega)
        go_wp2_with (first | (go_at_call 22; refine (sweep1_any q t u now ⟨c, 0, none⟩ _ (hc2 _) (by simp; omega)).mono ?_; rintro e w2 ⟨rfl, hb2⟩; have k0 : w2.cell? ⟨w1.heap.size, 0, none⟩ = some (.int .i64 q) := cells_new hb2 0; have k1 : w2.cell? ⟨w1.heap.size, 1, none⟩ = some (.int .i64 t) := cells_new hb2 1; have hit2 : TabIt w2 b w.heap.size Ln left' := hit1.of_blocks (block_alloc_below hb2 b hit1.tab.lt) (block_alloc_below hb2 _ hit1.lt); have hG2 : w.grownBy w2 (some b) := grown_alloc_below hG1 hb2) | (at_delete; refine wpList_delete_tab _ b w.heap.size Ln left' q t u rfl _ _ rfl rfl rfl hit2 Hm.out Ho.out ?_; intro L2 w3 hit3 hpd hg3 hs3; go_frame) | go_in)
        have hG3 := hG2.andThen hg3 (by rintro j ⟨⟩; exact Or.inr rfl)
        have hst := del_step Hk.out Hp.out hpd (Int.not_lt.2 hlt)
        go_roundw
        case rel => exact ⟨_, _, _, hit3, hperm1, hst, hG3⟩
        case measure => rw [hit3.cnt, hit.cnt, Hp.out.length_eq]; simp

theorem deleteFunc_nil (f : Value) (w : World) :
    Calls Try.prog 21 #[.map none, f] w fun e w' => e = .returned (.tuple #[]) ∧ w' = w.alloc (.mapIter none 0 #[] 0) := by
  have hrg := run_range_nilMap (P := Try.prog) w 24 51 3 Try.underlying24
  have hnx : ∀ ty, (Instr.next (.pointer (some ⟨w.heap.size, 0, none⟩)) false ty).run Try.prog (w.alloc (.mapIter none 0 #[] 0)) = _ := fun ty => run_next_nilMap w ty 0 0 #[]
  go_enter Try.func21, Try.ntmps21
  go_wp2
  refine wp_loop_rounds 1 ?_
  rw [rounds_succ]
  go_wp2
  go_end0
  exact ⟨rfl, rfl⟩

theorem len_nilT (w : World) : ∀ ty, (Builtin.len_ #[24] ty #[.map none]).run Try.prog w = .ok (.int .i64 0) w := by
  intro ty
  simp [Builtin.len_, run_underlying Try.underlying24, Result.andThen, goInt]

theorem sweep_nil (g : Nat) (now : Int) (w : World) (h : IsT w g none []) :
    Calls Try.prog 11 #[.pointer (some ⟨g, 0, none⟩), .int .i64 now] w fun e w' => e = .returned (.int .i64 0) ∧ IsT w' g none [] ∧ Below w.heap.size w w' := by
  have hgl : g < w.heap.size := (Array.getElem?_eq_some_iff.1 h.1).1
  have hc : ∀ o, (w.alloc o).cell? ⟨g, 0, none⟩ = some (.map none) := fun o => (Below.cell ((Below.refl w.heap.size w).alloc (Nat.le_refl _) o) hgl).trans h.cell
  have hc2 : ∀ o o', ((w.alloc o).alloc o').cell? ⟨g, 0, none⟩ = some (.map none) := fun o o' => (Below.cell (((Below.refl w.heap.size w).alloc (Nat.le_refl _) o).alloc (by simp) o') hgl).trans h.cell
  have hl := len_nilT
  have hmf : ∀ (fn : Fn) (first cap : Array Value) (w : World), (Instr.makeFunc fn first cap).run Try.prog w = .ok (.func fn first cap) w := fun _ _ _ _ => rfl
  go_enter Try.func11, Try.ntmps11
  go_wp2_with (first | (go_at_call 21; refine (deleteFunc_nil _ _).mono ?_; rintro e w2 ⟨rfl, rfl⟩) | go_in)
  go_ret
  have hB : Below w.heap.size w ((w.alloc (.cells #[.int .i64 now] 3)).alloc (.mapIter none 0 #[] 0)) := ((Below.refl w.heap.size w).alloc (Nat.le_refl _) _).alloc (by simp) _
  exact ⟨rfl, ⟨(hB.block g hgl).trans h.1, fun _ => rfl, by simp⟩, hB⟩

/-- What is left behind a sweep. -/
def liveL (L : List Ent) (now : Int) : List Ent := L.filter fun p => decide (now < p.2)
theorem liveL_length (L : List Ent) (now : Int) : (liveL L now).length = liveN L now := by
  unfold liveL liveN; rw [List.countP_eq_length_filter]

theorem IsT.ne {w : World} {g b : Nat} {L : List Ent} (h : IsT w g (some b) L) : g ≠ b := by
  obtain ⟨es, clock, hb, _⟩ := h.2.2 b rfl
  rintro rfl
  rw [h.1] at hb
  cases hb

set_option maxRecDepth 100000 in
theorem sweep_some (g b : Nat) (L : List Ent) (now : Int) (w : World) (h : IsT w g (some b) L) (hL : L.length ≤ 1000000) :
    Calls Try.prog 11 #[.pointer (some ⟨g, 0, none⟩), .int .i64 now] w fun e w' => e = .returned (.int .i64 (L.length - liveN L now)) ∧ (∃ L', IsT w' g (some b) L' ∧ L'.Perm (liveL L now)) ∧ w.grownBy w' (some b) := by
  have hgl : g < w.heap.size := (Array.getElem?_eq_some_iff.1 h.1).1
  have hgb := h.ne
  have ht := h.2.2 b rfl
  have hbl := ht.lt
  have hc : ∀ o, (w.alloc o).cell? ⟨g, 0, none⟩ = some (.map (some b)) := fun o => (Below.cell ((Below.refl w.heap.size w).alloc (Nat.le_refl _) o) hgl).trans h.cell
  have hta : ∀ o, TabAt (w.alloc o) b L := fun o => ht.of_block (Below.heap_alloc w o b hbl)
  have hl : ∀ o ty, (Builtin.len_ #[24] ty #[.map (some b)]).run Try.prog (w.alloc o) = .ok (.int .i64 L.length) (w.alloc o) := fun o ty => (hta o).len 0 ty
  have hmf : ∀ (fn : Fn) (first cap : Array Value) (w : World), (Instr.makeFunc fn first cap).run Try.prog w = .ok (.func fn first cap) w := fun _ _ _ _ => rfl
  have hle : liveN L now ≤ L.length := List.countP_le_length
  have hb2 : (L.length : Int) - liveN L now ≤ 1000000 := by omega
  have hcn : (w.alloc (.cells #[.int .i64 now] 3)).cell? ⟨w.heap.size, 0, none⟩ = some (.int .i64 now) := by
    have := (MapKept.heap_alloc w (.cells #[.int .i64 now] 3)).1
    unfold World.cell?
    simp only [this]
    rfl
  go_enter Try.func11, Try.ntmps11
  go_wp2_with fail
  refine (deleteFunc_any b w.heap.size L now _ (hta _) hcn (by simp) (by omega)).mono ?_
  rintro e w2 ⟨rfl, ⟨L', ht2, hp⟩, hg2⟩
  have c2 : w2.cell? ⟨g, 0, none⟩ = some (.map (some b)) := (World.cell?_of_block (hg2.block g (by simp; omega) (by simpa using hgb))).trans (hc _)
  have hl2 : ∀ ty, (Builtin.len_ #[24] ty #[.map (some b)]).run Try.prog w2 = .ok (.int .i64 L'.length) w2 := fun ty => ht2.len 0 ty
  have hlen : L'.length = liveN L now := by rw [hp.length_eq]; exact liveL_length L now
  have hlb : L'.length ≤ 1000000 := by omega
  have Hn := Lib.hid hlen
  clear hlen
  go_wp2
  go_ret
  have hga : w.grownBy (w.alloc (.cells #[.int .i64 now] 3)) (some b) := (World.grownBy_alloc w _ none).but _
  have hG : w.grownBy w2 (some b) := hga.andThen hg2 (by rintro j ⟨⟩; exact Or.inr rfl)
  refine ⟨?_, ⟨L', ⟨(hG.block g hgl (by simpa using hgb)).trans h.1, by simp, by rintro _ ⟨⟩; exact ht2⟩, hp⟩, hG⟩
  rw [← Hn.out]
  rfl
end Go.Proofs.Ytihfnoaannjegaa
