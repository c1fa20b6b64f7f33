/- What Forbid does to the table's map. No condition. -/
import Derived.Test.YtihfnoaannjegaaOps
import Derived.StillTailTactics
namespace Go.Proofs.Ytihfnoaannjegaa
open Go.RowKit Go.Maps Go.MapKept

/-- A pair forbidden until u: the later of both counts. -/
def PutMax (L : List Ent) (k : Int × Int) (u : Int) (L' : List Ent) : Prop :=
  (∃ u0, (k, u0) ∈ L ∧ u ≤ u0 ∧ L' = L) ∨ (PutL L k u L' ∧ ∀ u0, (k, u0) ∈ L → u0 < u)

def ForbidPost (g : Nat) (m : Option Nat) (L : List Ent) (k : Int × Int) (u : Int) (w w' : World) : Prop :=
  ∃ m' L', IsT w' g m' L' ∧ PutMax L k u L' ∧ (m' = m ∨ (m = none ∧ ∃ b, m' = some b ∧ w.heap.size ≤ b)) ∧ Keep w w' g m

theorem fst_inj {L : List Ent} (hn : (L.map (·.1)).Nodup) {k : Int × Int} {u v : Int} (hu : (k, u) ∈ L) (hv : (k, v) ∈ L) : u = v := by
  induction L with
  | nil => simp at hu
  | cons x r ih =>
    simp only [List.map_cons, List.nodup_cons] at hn
    rcases List.mem_cons.1 hu with ea | a'
    · rcases List.mem_cons.1 hv with eb | b'
      · rw [← ea] at eb; exact (congrArg Prod.snd eb).symm
      · exact absurd (List.mem_map.2 ⟨_, b', by rw [← ea]⟩) hn.1
    · rcases List.mem_cons.1 hv with eb | b'
      · exact absurd (List.mem_map.2 ⟨_, a', by rw [← eb]⟩) hn.1
      · exact ih hn.2 a' b'
theorem IsT.of_block {w w' : World} {g : Nat} {m : Option Nat} {L : List Ent} (h : IsT w g m L) (he : w'.heap[g]? = w.heap[g]?) (hm : ∀ b, m = some b → w'.heap[b]? = w.heap[b]?) : IsT w' g m L :=
  ⟨he.trans h.1, h.2.1, fun b hb => (h.2.2 b hb).of_block (hm b hb)⟩
theorem IsT.lt {w : World} {g : Nat} {m : Option Nat} {L : List Ent} (h : IsT w g m L) : g < w.heap.size := (Array.getElem?_eq_some_iff.1 h.1).1
theorem IsT.below {w w' : World} {g : Nat} {m : Option Nat} {L : List Ent} (h : IsT w g m L) (hB : Below w.heap.size w w') : IsT w' g m L :=
  h.of_block (hB.block g h.lt) (fun b hb => hB.block b (h.2.2 b hb).lt)
theorem Keep.of_below {w w' : World} {g : Nat} {m : Option Nat} (h : Below w.heap.size w w') : Keep w w' g m := ⟨h.os, h.tape, h.output, h.size, fun i hi _ _ => h.block i hi⟩
theorem keep_post {w W : World} {g b : Nat} {L : List Ent} {k : Int × Int} {u v : Int} (h : IsT w g (some b) L) (hB : Below w.heap.size w W) (hin : (k, v) ∈ L) (huv : u ≤ v) : ForbidPost g (some b) L k u w W :=
  ⟨some b, L, h.below hB, Or.inl ⟨v, hin, huv, rfl⟩, Or.inl rfl, Keep.of_below hB⟩
theorem put_post {w W w1 : World} {g b n : Nat} {L L1 : List Ent} {k : Int × Int} {u : Int} (h : IsT w g (some b) L) (hB : Below w.heap.size w W) (hT : TabAt w1 b L1) (hP : PutL L k u L1) (hu : ∀ u0, (k, u0) ∈ L → u0 < u) (hg : W.grownBy w1 (some b)) :
    ForbidPost g (some b) L k u w (w1.drewN n) := by
  have hgb := h.ne
  have hsz := hB.size
  have hgl := h.lt
  refine ⟨some b, L1, ⟨?_, by simp, ?_⟩, Or.inr ⟨hP, hu⟩, Or.inl rfl, ⟨hg.os.trans hB.os, hg.tape.trans hB.tape, hg.output.trans hB.output, Nat.le_trans hB.size hg.size, fun i hi h1 h2 => (hg.block i (by omega) h2).trans (hB.block i hi)⟩⟩
  · exact ((hg.block g (by omega) (by simpa using hgb)).trans (hB.block g hgl)).trans h.1
  · rintro _ ⟨⟩; exact hT

set_option maxRecDepth 100000 in
theorem forbid_some (g b : Nat) (L : List Ent) (q t u : Int) (w : World) (h : IsT w g (some b) L) (hq : I64 q) (ht : I64 t) (hu : I64 u) :
    Calls Try.prog 9 #[.pointer (some ⟨g, 0, none⟩), .int .i64 q, .int .i64 t, .int .i64 u] w fun e w' => e = .returned (.tuple #[]) ∧ ForbidPost g (some b) L (q, t) u w w' := by
  have hgl : g < w.heap.size := (Array.getElem?_eq_some_iff.1 h.1).1
  have hgb := h.ne
  have hT := h.2.2 b rfl
  have hbl := hT.lt
  have hc := h.cell
  obtain ⟨W, hW⟩ : ∃ W, W = w.alloc (.cells #[.int .i64 q, .int .i64 t] 51) := ⟨_, rfl⟩
  have hBW : Below w.heap.size w W := by rw [hW]; exact (Below.refl _ _).alloc (Nat.le_refl _) _
  have hTW : TabAt W b L := hT.of_block (hBW.block b hbl)
  obtain ⟨v, ok, hv, hrun, hcase⟩ := hTW.look hq ht
  unfold key2 at hrun
  rw [hW] at hrun
  obtain ⟨w1, L1, hput, hT1, hP1, hg1, hs1⟩ := hTW.put hq ht hu
  unfold key2 at hput
  rw [hW] at hput
  have hc2 : ∀ o, (w.alloc o).cell? ⟨g, 0, none⟩ = some (.map (some b)) := fun o => (Below.cell ((Below.refl w.heap.size w).alloc (Nat.le_refl _) o) hgl).trans h.cell
  have heq := fun (w : World) r => run_eql_map_nil (P := Try.prog) w 24 51 3 r Try.underlying24
  have HW := Lib.hid hW
  clear hW
  by_cases hno : ok = true ∧ u ≤ v
  · obtain ⟨rfl, huv⟩ := hno
    have huv' : ¬ v < u := by omega
    go_enter Try.func9, Try.ntmps9
    go_wp2
    go_quiet (fail)
    go_wp2
    go_end0
    refine ⟨rfl, keep_post h (by rw [← HW.out]; exact ⟨hBW.os, hBW.tape, hBW.output, hBW.size, hBW.block⟩) (v := v) ?_ huv⟩
    rcases hcase with h1 | h1
    · exact h1.2
    · cases h1.1
  · by_cases hok : ok = true
    · subst hok
      have huv : v < u := by (have : ¬ u ≤ v := fun h => hno ⟨rfl, h⟩); omega
      clear hno
      go_enter Try.func9, Try.ntmps9
      go_wp2
      go_quiet (fail)
      go_wp2
      go_region
      go_wp2
      go_end0
      refine ⟨rfl, put_post h hBW hT1 hP1 (fun u0 h0 => ?_) hg1⟩
      rcases hcase with h1 | h1
      · rw [fst_inj hT.nodup h0 h1.2]; exact huv
      · cases h1.1
    · obtain rfl : ok = false := by simpa using hok
      clear hno hok
      go_enter Try.func9, Try.ntmps9
      go_wp2
      go_quiet (fail)
      go_wp2
      go_region
      go_wp2
      go_end0
      refine ⟨rfl, put_post h hBW hT1 hP1 (fun u0 h0 => ?_) hg1⟩
      rcases hcase with h1 | h1
      · cases h1.1
      · exact absurd h0 (h1.2.2 u0)

set_option maxRecDepth 100000 in
theorem forbid_none (g : Nat) (q t u : Int) (w : World) (h : IsT w g none []) (hq : I64 q) (ht : I64 t) (hu : I64 u) :
    Calls Try.prog 9 #[.pointer (some ⟨g, 0, none⟩), .int .i64 q, .int .i64 t, .int .i64 u] w fun e w' => e = .returned (.tuple #[]) ∧ ForbidPost g none [] (q, t) u w w' := by
  have hgl := h.lt
  have hc := h.cell
  have hf := h.frozen
  obtain ⟨W1, hW1⟩ : ∃ W, W = (w.setCell ⟨g, 0, none⟩ (.map (some w.heap.size))).alloc (.map #[] 0) := ⟨_, rfl⟩
  obtain ⟨W, hW⟩ : ∃ W, W = W1.alloc (.cells #[.int .i64 q, .int .i64 t] 51) := ⟨_, rfl⟩
  have hsz1 : (w.setCell ⟨g, 0, none⟩ (.map (some w.heap.size))).heap.size = w.heap.size := by simp [World.setCell]
  have hT1 : TabAt W1 w.heap.size [] := by rw [hW1]; have := TabAt.made (w.setCell ⟨g, 0, none⟩ (.map (some w.heap.size))); rw [hsz1] at this; exact this
  have hBW : Below W1.heap.size W1 W := by rw [hW]; exact (Below.refl _ _).alloc (Nat.le_refl _) _
  have hTW : TabAt W w.heap.size [] := hT1.of_block (hBW.block _ hT1.lt)
  have hg1 : W1.heap[g]? = some (.cells #[.map (some w.heap.size)] 26 (0, 0)) := by
    rw [hW1, Below.heap_alloc _ _ _ (by rw [hsz1]; exact hgl)]
    simp [World.setCell, Array.getElem?_modify, h.1]
  have hT2 : IsT W g (some w.heap.size) [] := ⟨(hBW.block g (by have := hT1.lt; omega)).trans hg1, by simp, by rintro _ ⟨⟩; exact hTW⟩
  have hcW := hT2.cell
  have hK : ∀ i, i < w.heap.size → i ≠ g → W.heap[i]? = w.heap[i]? := by
    intro i hi hne
    rw [hBW.block i (by have := hT1.lt; omega), hW1, Below.heap_alloc _ _ _ (by rw [hsz1]; exact hi), Below.heap_setCell _ _ _ _ hne]
  have hKo : W.os = w.os ∧ W.tape = w.tape ∧ W.output = w.output ∧ w.heap.size ≤ W.heap.size := by
    refine ⟨by rw [hW, hW1]; rfl, by rw [hW, hW1]; rfl, by rw [hW, hW1]; rfl, ?_⟩
    have := hBW.size; have := hT1.lt; omega
  obtain ⟨v, ok, hv, hrun, hcase⟩ := hTW.look hq ht
  obtain ⟨w1, L1, hput, hT3, hP1, hgr, hs1⟩ := hTW.put hq ht hu
  obtain rfl : ok = false := by
    rcases hcase with h1 | h1
    · simp at h1
    · exact h1.1
  unfold key2 at hrun hput
  rw [hW, hW1] at hrun hput hcW
  clear hcase
  have HW := Lib.hid hW
  have HW1 := Lib.hid hW1
  clear hW hW1 hsz1
  have hmm := @run_makeMap Try.prog
  have heq := fun (w : World) r => run_eql_map_nil (P := Try.prog) w 24 51 3 r Try.underlying24
  go_enter Try.func9, Try.ntmps9
  go_wp2
  go_quiet (fail)
  go_wp2
  go_region
  go_wp2
  go_end0
  refine ⟨rfl, some w.heap.size, L1, ⟨?_, by simp, by rintro _ ⟨⟩; exact hT3⟩, Or.inr ⟨hP1, by simp⟩, Or.inr ⟨rfl, _, rfl, Nat.le_refl _⟩, ⟨hgr.os.trans hKo.1, hgr.tape.trans hKo.2.1, hgr.output.trans hKo.2.2.1, Nat.le_trans hKo.2.2.2 hgr.size, fun i hi h1 _ => (hgr.block i (by omega) (by simp; omega)).trans (hK i hi h1)⟩⟩
  exact (hgr.block g (by omega) (by simp; omega)).trans hT2.1
end Go.Proofs.Ytihfnoaannjegaa
