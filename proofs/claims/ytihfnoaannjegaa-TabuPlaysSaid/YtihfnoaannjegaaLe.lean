/- The laws on what is forbidden, walked: whatever the steps, the call returns true. No condition. -/
import Derived.Test.YtihfnoaannjegaaLw
namespace Go.Proofs.Ytihfnoaannjegaa
open Go.RowKit Go.Maps Go.MapKept

/-! ### plain -/
theorem isT_iff {L : List Ent} {q t now : Int} : isT L q t now = true ↔ ∃ u, ((q, t), u) ∈ L ∧ now < u := by
  unfold isT
  rw [List.any_eq_true]
  constructor
  · rintro ⟨⟨k, u⟩, hm, hc⟩
    simp only [Bool.and_eq_true, beq_iff_eq, decide_eq_true_eq] at hc
    exact ⟨u, by rw [← hc.1]; exact hm, hc.2⟩
  · rintro ⟨u, hm, hu⟩
    exact ⟨_, hm, by simp [hu]⟩
theorem isT_later {L : List Ent} {q t now later : Int} (h : isT L q t later = true) (hle : now ≤ later) : isT L q t now = true := by
  obtain ⟨u, hm, hu⟩ := isT_iff.1 h
  exact isT_iff.2 ⟨u, hm, by omega⟩
theorem isT_live {L L' : List Ent} {q t now x : Int} (hp : L'.Perm (liveL L now)) (hx : now ≤ x) : isT L' q t x = isT L q t x := by
  rw [Bool.eq_iff_iff, isT_iff, isT_iff]
  constructor
  · rintro ⟨u, hm, hu⟩
    exact ⟨u, (List.mem_filter.1 (hp.subset hm)).1, hu⟩
  · rintro ⟨u, hm, hu⟩
    exact ⟨u, hp.symm.subset (List.mem_filter.2 ⟨hm, by simp; omega⟩), hu⟩
theorem liveN_later (L : List Ent) {now later : Int} (hle : now ≤ later) : liveN L later ≤ liveN L now := by
  unfold liveN
  refine List.countP_mono_left (fun x _ h => ?_)
  simp only [decide_eq_true_eq] at h ⊢
  omega
theorem liveN_live {L L' : List Ent} {now x : Int} (hp : L'.Perm (liveL L now)) (hx : now ≤ x) : liveN L' x = liveN L x := by
  unfold liveN
  rw [hp.countP_eq]
  unfold liveL
  rw [List.countP_filter]
  refine List.countP_congr (fun e _ => ?_)
  simp only [Bool.and_eq_true, decide_eq_true_eq]
  constructor
  · exact fun h => h.1
  · exact fun h => ⟨h, by omega⟩
theorem PutMax.length {L L' : List Ent} {k : Int × Int} {u : Int} (h : PutMax L k u L') : L'.length ≤ L.length + 1 := by
  rcases h with ⟨_, _, _, rfl⟩ | ⟨⟨j, u0, _, rfl⟩ | ⟨_, rfl⟩, _⟩ <;> simp

theorem add_fld (ad : Addr) (n j : Nat) (hj : 0 < j) : ad.add (n + j) = { block := (ad.add n).block, off := (ad.add n).off + j, spot := none } := by
  rw [← Addr.add_add]
  generalize ad.add n = b
  unfold Addr.add
  rw [if_neg (by omega)]
/-- A step. -/
structure OpR where
  kind : Int
  q : Int
  t : Int
  now : Int
instance : Inhabited OpR := ⟨⟨0, 0, 0, 0⟩⟩
def opEnc (o : OpR) : List Value := [.int .i64 o.kind, .int .i64 o.q, .int .i64 o.t, .int .i64 o.now]
def opOk (o : OpR) : Prop := I64 o.kind ∧ I64 o.q ∧ I64 o.t ∧ I64 o.now

theorem IsT.new {w w1 : World} (hB : Below w.heap.size w w1) : IsT (w1.alloc (.cells #[.map none] 26)) w1.heap.size none [] ∧ Below w.heap.size w (w1.alloc (.cells #[.map none] 26)) :=
  ⟨⟨(MapKept.heap_alloc w1 _).1, fun _ => rfl, by simp⟩, hB.alloc hB.size _⟩
theorem own_step {wr W : World} {m m' : Option Nat} {B : Nat} (hB : B ≤ wr.heap.size) (hW : Below wr.heap.size wr W) (hm : ∀ b, m = some b → B ≤ b) (h : m' = m ∨ (m = none ∧ ∃ b, m' = some b ∧ W.heap.size ≤ b)) : ∀ b, m' = some b → B ≤ b := by
  rintro b rfl
  rcases h with h | ⟨_, b', h, hb⟩
  · exact hm b h.symm
  · cases h; exact Nat.le_trans hB (Nat.le_trans hW.size hb)

set_option maxRecDepth 100000 in
set_option maxHeartbeats 1600000 in
theorem ends_walk (a : Option Addr) (cap : Nat) (l : List OpR) (q t now later : Int) (w : World) (hr : Reads opEnc 4 w a l) (hok : ∀ o ∈ l, opOk o) (hq : I64 q) (ht : I64 t) :
    Calls Try.prog 5 #[.slice a l.length cap, .int .i64 q, .int .i64 t, .int .i64 now, .int .i64 later] w fun e w' => e = .returned (.bool true) ∧ Below w.heap.size w w' := by
  by_cases hlen : 100 < l.length
  · have hd : decide (100 < (l.length : Int)) = true := by simp; omega
    go_enter Try.func5, Try.ntmps5
    go_wp2_with fail
    refine (alive_any _).mono ?_
    rintro e w1 ⟨rfl, hB1⟩
    go_wp2
    go_ret
    exact ⟨rfl, hB1⟩
  · have hd : decide (100 < (l.length : Int)) = false := by simp; omega
    by_cases hlater : later < now
    · go_enter Try.func5, Try.ntmps5
      go_wp2_with fail
      refine (alive_any _).mono ?_
      rintro e w1 ⟨rfl, hB1⟩
      go_wp2
      go_ret
      exact ⟨rfl, hB1⟩
    · go_enter Try.func5, Try.ntmps5
      go_wp2_with fail
      refine (alive_any _).mono ?_
      rintro e w1 ⟨rfl, hB1⟩
      obtain ⟨hT1, hB2⟩ := IsT.new hB1
      have hgs := hB1.size
      go_wp2
      go_loopw [13, 29] (fun _ i wr => ∃ (k : Nat) (m : Option Nat) (L : List Ent), k ≤ l.length ∧ i = .int .i64 k ∧ L.length ≤ k ∧ IsT wr w1.heap.size m L ∧ (∀ b, m = some b → w.heap.size ≤ b) ∧ Below w.heap.size w wr) (fun _ i _ => l.length - (intOf i).toNat)
      case atStart => exact ⟨0, none, [], Nat.zero_le _, rfl, by simp, hT1, by simp, hB2⟩
      case round =>
        obtain ⟨k, m, L, hk, rfl, hL, hT, hm, hB⟩ := hrel
        by_cases hlt : k < l.length
        · obtain ⟨x, hx⟩ : ∃ x, l[k]? = some x := ⟨_, List.getElem?_eq_getElem hlt⟩
          obtain ⟨ad, rfl, hc⟩ := (hr.below hB) k x hx
          obtain ⟨ok0, ok1, ok2, ok3⟩ := hok x (List.mem_of_getElem? hx)
          have hc0 : wr.cell? (ad.add (k * 4)) = some (.int .i64 x.kind) := hc 0 _ rfl
          have hc1 := hc 1 _ rfl
          have hc2 := hc 2 _ rfl
          have hc3 := hc 3 _ rfl
          rw [add_fld _ _ _ (by omega)] at hc1 hc2 hc3
          clear hc
          have hBW : Below wr.heap.size wr (wr.alloc (.cells #[.int .i64 x.kind, .int .i64 x.q, .int .i64 x.t, .int .i64 x.now] 29)) := (Below.refl _ _).alloc (Nat.le_refl _) _
          have hTW := hT.below hBW
          go_wp2_with fail
          refine (forbid_any _ m L x.q x.t x.now _ hTW ok1 ok2 ok3).mono ?_
          rintro e w2 ⟨rfl, m2, L2, hT2, hp2, hm2, hk2⟩
          have hL2 := hp2.length
          have hm3 := own_step hB.size hBW hm hm2
          have hB3 : Below w.heap.size w w2 := (Below.toB hB hBW (Nat.le_refl _)).trans (hk2.below (Nat.le_trans hB.size hBW.size) hgs hm)
          clear hm2 hk2 hp2 hTW hBW
          go_wp2
          go_roundw
          case rel => exact ⟨k + 1, m2, L2, by omega, by go_num, by omega, hT2, hm3, hB3⟩
          case measure => simp [intOf]; omega
        · have hl1 : L.length ≤ 1000000 := by omega
          have hle : now ≤ later := by omega
          have hn2 := liveN_later L hle
          have hlat := @isT_later L q t now later
          have hcl : liveN L now ≤ L.length := List.countP_le_length
          have hx1 : ∀ L', L'.Perm (liveL L now) → isT L' q t now = isT L q t now ∧ isT L' q t later = isT L q t later ∧ liveN L' later = liveN L later := fun L' hp => ⟨isT_live hp (Int.le_refl _), isT_live hp hle, liveN_live hp hle⟩
          have Hx := Lib.hid hx1
          clear hx1
          have hcase : (isT L q t now = true ∧ isT L q t later = true) ∨ (isT L q t now = true ∧ isT L q t later = false) ∨ (isT L q t now = false ∧ isT L q t later = false) := by
            cases h2 : isT L q t later
            · cases h1 : isT L q t now
              · exact Or.inr (Or.inr ⟨rfl, rfl⟩)
              · exact Or.inr (Or.inl ⟨rfl, rfl⟩)
            · exact Or.inl ⟨hlat h2 hle, rfl⟩
          clear hlat
          rcases hcase with ⟨h1, h2⟩ | ⟨h1, h2⟩ | ⟨h1, h2⟩
          all_goals
            go_wp2_with fail
            refine (is_any _ m L q t now _ hT hq ht).mono ?_
            rintro e w' ⟨rfl, rfl⟩
            go_wp2_with fail
            refine (is_any _ m L q t later _ hT hq ht).mono ?_
            rintro e w' ⟨rfl, rfl⟩
            go_wp2_with fail
            refine (count_any _ m L later _ hT hl1).mono ?_
            rintro e w2 ⟨rfl, hb2⟩
            have hT2 := hT.below hb2
            have hB2 : Below w.heap.size w w2 := Below.toB hB hb2 (Nat.le_refl _)
            clear hT hB hb2
            go_wp2_with fail
            refine (count_any _ m L now _ hT2 hl1).mono ?_
            rintro e w3 ⟨rfl, hb3⟩
            have hT3 := hT2.below hb3
            have hB3 : Below w.heap.size w w3 := Below.toB hB2 hb3 (Nat.le_refl _)
            clear hT2 hB2 hb3
            go_wp2_with fail
            refine (sweep_any _ m L now _ hT3 hl1).mono ?_
            rintro e w4 ⟨rfl, ⟨L4, hT4, hp4⟩, hk4⟩
            have hB4 : Below w.heap.size w w4 := hB3.trans (hk4.below hB3.size hgs hm)
            obtain ⟨e1, e2, e3⟩ := Hx.out L4 hp4
            have hl4 : L4.length ≤ 1000000 := by (rw [hp4.length_eq, liveL_length]; omega)
            rw [h1] at e1
            rw [h2] at e2
            have E3 := Lib.hid e3
            clear hT3 hB3 hk4 hp4 e3
            go_wp2_with fail
            refine (is_any _ m L4 q t now _ hT4 hq ht).mono ?_
            rintro e w' ⟨rfl, rfl⟩
            go_wp2_with fail
            refine (is_any _ m L4 q t later _ hT4 hq ht).mono ?_
            rintro e w' ⟨rfl, rfl⟩
            go_wp2_with fail
            refine (count_any _ m L4 later _ hT4 hl4).mono ?_
            rintro e w5 ⟨rfl, hb5⟩
            rw [E3.out]
            have hB5 : Below w.heap.size w w5 := Below.toB hB4 hb5 (Nat.le_refl _)
            go_wp2
            go_ret
            exact ⟨by simp, hB5⟩
end Go.Proofs.Ytihfnoaannjegaa
