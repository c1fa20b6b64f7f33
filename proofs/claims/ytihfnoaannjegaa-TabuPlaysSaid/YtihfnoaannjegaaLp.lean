/- The law that plays steps beside the document's list, walked: whatever the steps, the call returns true. No condition. -/
import Derived.Test.YtihfnoaannjegaaLo
import Derived.Test.YtihfnoaannjegaaPTabuPlaysx1
import Derived.Deep.RegionHeld3
namespace Go.Proofs.Ytihfnoaannjegaa
open Go.RowKit Go.Maps Go.MapKept Go.Proofs.YtihfnoaannjegaaW.PrintWords Go.Proofs.Ytihfnoaannjegaa.PTabuPlays

/-! ### plain: the document's list -/
def toE (s : S54) : Ent := ((s.f0, s.f1), s.f2)
def ofE (p : Ent) : S54 := ⟨p.1.1, p.1.2, p.2⟩
theorem toE_inj {a b : S54} (h : toE a = toE b) : a = b := by
  cases a; cases b; simp [toE] at h; simp [h]
/-- The longest of a pair's so far, and u. -/
def refMax : List S54 → Int → Int → Int → Int
  | [], _, _, u => u
  | s :: r, q, t, u => if s.f0 = q ∧ s.f1 = t then (if u < s.f2 then refMax r q t s.f2 else refMax r q t u) else refMax r q t u
def refRest (l : List S54) (q t : Int) : List S54 := l.filter fun s => !(decide (s.f0 = q ∧ s.f1 = t))
def refForbid (l : List S54) (q t u : Int) : List S54 := refRest l q t ++ [⟨q, t, refMax l q t u⟩]
def refLive (l : List S54) (now : Int) : List S54 := l.filter fun s => decide (now < s.f2)
def refIs (l : List S54) (q t now : Int) : Bool := l.any fun s => decide (s.f0 = q ∧ s.f1 = t ∧ now < s.f2)

theorem rd_at (l : List S54) (i : Nat) (s : S54) (h : l[i]? = some s) : rd_T54 l i = s := by
  simp [rd_T54, List.getD, h]
theorem drop_at {α : Type} {l : List α} {i : Nat} {s : α} (h : l[i]? = some s) : l.drop i = s :: l.drop (i + 1) := by
  obtain ⟨hi, e⟩ := List.getElem?_eq_some_iff.1 h
  rw [← e]; exact List.drop_eq_getElem_cons hi

theorem live_l (l : List S54) (now : Int) (hl : l.length ≤ 1000) (d : Nat) : ∀ (k i : Nat) (acc : List S54), i ≤ l.length → l.length - i = d → d < k → acc.length ≤ i → jitneyref20_Live.l0 k l now acc i = some (acc ++ refLive (l.drop i) now) := by
  induction d with
  | zero =>
    intro k i acc hi hd hk ha
    obtain ⟨k, rfl⟩ : ∃ m, k = m + 1 := ⟨k - 1, by omega⟩
    simp only [jitneyref20_Live.l0]
    rw [if_neg (by omega), List.drop_of_length_le (by omega)]
    simp [refLive]
  | succ d ih =>
    intro k i acc hi hd hk ha
    obtain ⟨k, rfl⟩ : ∃ m, k = m + 1 := ⟨k - 1, by omega⟩
    obtain ⟨s, hs⟩ : ∃ s, l[i]? = some s := ⟨_, List.getElem?_eq_getElem (by omega)⟩
    have hr := rd_at l i s hs
    have hw : wrap64 ((i : Int) + 1) = ((i + 1 : Nat) : Int) := by unfold wrap64; omega
    simp only [jitneyref20_Live.l0]
    rw [if_pos (by omega), if_pos (by omega), hr, hw, drop_at hs]
    by_cases hn : now < s.f2
    · rw [if_pos hn, if_pos (by omega), ih k (i + 1) _ (by omega) (by omega) (by omega) (by simp; omega)]
      simp [refLive, hn]
    · rw [if_neg hn, ih k (i + 1) _ (by omega) (by omega) (by omega) (by omega)]
      simp [refLive, hn]
theorem live_f (l : List S54) (now : Int) (hl : l.length ≤ 1000) : jitneyref20_Live.f 1001 l now = some (refLive l now) := by
  have := live_l l now hl l.length 1001 0 [] (Nat.zero_le _) rfl (by omega) (by simp)
  simpa [jitneyref20_Live.f] using this
theorem is_l (l : List S54) (q t now : Int) (hl : l.length ≤ 1000) (d : Nat) : ∀ (k i : Nat), i ≤ l.length → l.length - i = d → d < k → jitneyref20_Is.l0 k l q t now i = some (refIs (l.drop i) q t now) := by
  induction d with
  | zero =>
    intro k i hi hd hk
    obtain ⟨k, rfl⟩ : ∃ m, k = m + 1 := ⟨k - 1, by omega⟩
    simp only [jitneyref20_Is.l0]
    rw [if_neg (by omega), List.drop_of_length_le (by omega)]
    simp [refIs]
  | succ d ih =>
    intro k i hi hd hk
    obtain ⟨k, rfl⟩ : ∃ m, k = m + 1 := ⟨k - 1, by omega⟩
    obtain ⟨s, hs⟩ : ∃ s, l[i]? = some s := ⟨_, List.getElem?_eq_getElem (by omega)⟩
    have hr := rd_at l i s hs
    have hw : wrap64 ((i : Int) + 1) = ((i + 1 : Nat) : Int) := by unfold wrap64; omega
    simp only [jitneyref20_Is.l0]
    rw [if_pos (by omega), if_pos (by omega), hr, hw, drop_at hs, ih k (i + 1) (by omega) (by omega) (by omega)]
    by_cases h1 : s.f0 = q
    · by_cases h2 : s.f1 = t
      · by_cases h3 : now < s.f2 <;> simp [refIs, h1, h2, h3]
      · simp [refIs, h1, h2]
    · simp [refIs, h1]
theorem is_f (l : List S54) (q t now : Int) (hl : l.length ≤ 1000) : jitneyref20_Is.f 1001 l q t now = some (refIs l q t now) := by
  have := is_l l q t now hl l.length 1001 0 (Nat.zero_le _) rfl (by omega)
  simpa [jitneyref20_Is.f] using this
theorem forbid_l (l : List S54) (q t : Int) (hl : l.length ≤ 1000) (d : Nat) : ∀ (k i : Nat) (u : Int) (acc : List S54), i ≤ l.length → l.length - i = d → 2 * d < k → acc.length ≤ i →
    jitneyref20_Forbid.l0 k l q t u acc i = some (acc ++ refRest (l.drop i) q t ++ [⟨q, t, refMax (l.drop i) q t u⟩]) := by
  induction d with
  | zero =>
    intro k i u acc hi hd hk ha
    obtain ⟨k, rfl⟩ : ∃ m, k = m + 1 := ⟨k - 1, by omega⟩
    simp only [jitneyref20_Forbid.l0]
    rw [if_neg (by omega), List.drop_of_length_le (by omega), if_pos (by omega)]
    simp [refRest, refMax]
  | succ d ih =>
    intro k i u acc hi hd hk ha
    obtain ⟨k, rfl⟩ : ∃ m, k = m + 2 := ⟨k - 2, by omega⟩
    obtain ⟨s, hs⟩ : ∃ s, l[i]? = some s := ⟨_, List.getElem?_eq_getElem (by omega)⟩
    have hr := rd_at l i s hs
    have hw : wrap64 ((i : Int) + 1) = ((i + 1 : Nat) : Int) := by unfold wrap64; omega
    have hj : ∀ b : Bool, b = decide (s.f0 = q ∧ s.f1 = t) → jitneyref20_Forbid.j1 (k + 1) l q t u acc i b = some (acc ++ refRest (s :: l.drop (i + 1)) q t ++ [⟨q, t, refMax (s :: l.drop (i + 1)) q t u⟩]) := by
      intro b hb
      simp only [jitneyref20_Forbid.j1]
      by_cases h : s.f0 = q ∧ s.f1 = t
      · rw [if_pos (by rw [hb]; simp [h]), if_pos (by omega), if_pos (by omega), hr, hw]
        by_cases hu : s.f2 > u
        · rw [if_pos hu, ih k (i + 1) _ _ (by omega) (by omega) (by omega) (by omega)]
          simp [refRest, refMax, h, show u < s.f2 from hu]
        · rw [if_neg hu, ih k (i + 1) _ _ (by omega) (by omega) (by omega) (by omega)]
          simp [refRest, refMax, h, show ¬ u < s.f2 from hu]
      · rw [if_neg (by rw [hb]; simp [h]), if_pos (by omega), if_pos (by omega), if_pos (by omega), hr, hw, ih k (i + 1) _ _ (by omega) (by omega) (by omega) (by simp; omega)]
        have e1 : refRest (s :: l.drop (i + 1)) q t = s :: refRest (l.drop (i + 1)) q t := by
          simp only [refRest, List.filter_cons]
          rw [if_pos (by simp only [h]; rfl)]
        have e2 : refMax (s :: l.drop (i + 1)) q t u = refMax (l.drop (i + 1)) q t u := by simp only [refMax]; rw [if_neg h]
        rw [e1, e2]
        simp
    rw [drop_at hs]
    show jitneyref20_Forbid.l0 (k + 1 + 1) l q t u acc i = _
    simp only [jitneyref20_Forbid.l0]
    rw [if_pos (by omega), if_pos (by omega), hr]
    by_cases h1 : s.f0 = q
    · rw [if_pos h1]
      exact hj _ (by by_cases h2 : s.f1 = t <;> simp [h1, h2])
    · rw [if_neg h1]
      exact hj _ (by simp [h1])
theorem forbid_f (l : List S54) (q t u : Int) (hl : l.length ≤ 1000) : jitneyref20_Forbid.f 3001 l q t u = some (refForbid l q t u) := by
  have := forbid_l l q t hl l.length 3001 0 u [] (Nat.zero_le _) rfl (by omega) (by simp)
  simpa [jitneyref20_Forbid.f, refForbid] using this

/-- The document's list beside the table. -/
def Match (L : List Ent) (l : List S54) : Prop := L.Perm (l.map toE)
theorem refMax_none {l : List S54} {q t : Int} (h : ∀ s ∈ l, ¬ (s.f0 = q ∧ s.f1 = t)) (u : Int) : refMax l q t u = u := by
  induction l with
  | nil => rfl
  | cons a r ih =>
    simp only [refMax]
    rw [if_neg (h a (by simp))]
    exact ih (fun s hs => h s (by simp [hs]))
theorem refMax_one {l : List S54} {q t u0 : Int} (hn : ((l.map toE).map (·.1)).Nodup) (hm : ((q, t), u0) ∈ l.map toE) (u : Int) : refMax l q t u = if u < u0 then u0 else u := by
  induction l with
  | nil => simp at hm
  | cons a r ih =>
    simp only [List.map_cons, List.nodup_cons] at hn
    have hr : (toE a).1 = (q, t) → ∀ s ∈ r, ¬ (s.f0 = q ∧ s.f1 = t) := by
      rintro h s hs ⟨h1, h2⟩
      refine hn.1 (List.mem_map.2 ⟨toE s, List.mem_map.2 ⟨s, hs, rfl⟩, ?_⟩)
      rw [h]; simp [toE, h1, h2]
    rcases List.mem_cons.1 hm with e | hm
    · have hk : (toE a).1 = (q, t) := by rw [← e]
      have h0 : a.f0 = q ∧ a.f1 = t := by simp [toE] at hk; exact hk
      have h2 : a.f2 = u0 := by have := congrArg Prod.snd e; simp [toE] at this; exact this.symm
      simp only [refMax]
      rw [if_pos h0, h2]
      split
      · exact refMax_none (hr hk) _
      · exact refMax_none (hr hk) _
    · have hk : ¬ (a.f0 = q ∧ a.f1 = t) := by
        rintro ⟨h1, h2⟩
        exact hn.1 (List.mem_map.2 ⟨_, hm, by simp [toE, h1, h2]⟩)
      simp only [refMax]
      rw [if_neg hk]
      exact ih hn.2 hm
theorem putMax_mem {L L' : List Ent} {k : Int × Int} {u : Int} (hn : (L.map (·.1)).Nodup) (h : PutMax L k u L') (k' : Int × Int) (u' : Int) :
    (k', u') ∈ L' ↔ (k' ≠ k ∧ (k', u') ∈ L) ∨ (k' = k ∧ ((∃ u0, (k, u0) ∈ L ∧ u' = if u < u0 then u0 else u) ∨ ((∀ u0, (k, u0) ∉ L) ∧ u' = u))) := by
  rcases h with ⟨u0, hm, hle, rfl⟩ | ⟨hp, hlt⟩
  · constructor
    · intro h
      by_cases hk : k' = k
      · subst hk
        refine Or.inr ⟨rfl, Or.inl ⟨u', h, ?_⟩⟩
        have := fst_inj hn hm h
        split <;> omega
      · exact Or.inl ⟨hk, h⟩
    · rintro (⟨_, h⟩ | ⟨rfl, ⟨u1, h1, rfl⟩ | ⟨h, _⟩⟩)
      · exact h
      · have := fst_inj hn hm h1
        subst this
        split
        · exact h1
        · have : u0 = u := by omega
          rw [← this]; exact h1
      · exact absurd hm (h u0)
  · rw [put_mem hn hp]
    constructor
    · rintro (⟨rfl, rfl⟩ | ⟨hne, h⟩)
      · refine Or.inr ⟨rfl, ?_⟩
        by_cases hex : ∃ u0, (k', u0) ∈ L
        · obtain ⟨u0, h0⟩ := hex
          have := hlt u0 h0
          exact Or.inl ⟨u0, h0, by rw [if_neg (by omega)]⟩
        · exact Or.inr ⟨fun u0 h0 => hex ⟨u0, h0⟩, rfl⟩
      · exact Or.inl ⟨hne, h⟩
    · rintro (⟨hne, h⟩ | ⟨rfl, ⟨u1, h1, rfl⟩ | ⟨_, rfl⟩⟩)
      · exact Or.inr ⟨hne, h⟩
      · have := hlt u1 h1
        exact Or.inl ⟨rfl, by rw [if_neg (by omega)]⟩
      · exact Or.inl ⟨rfl, rfl⟩
theorem Match.nodup {L : List Ent} {l : List S54} (h : Match L l) (hn : (L.map (·.1)).Nodup) : ((l.map toE).map (·.1)).Nodup := ((h.map (·.1)).nodup_iff).1 hn
theorem mem_rest {l : List S54} {q t : Int} {k : Int × Int} {u : Int} : (k, u) ∈ (refRest l q t).map toE ↔ k ≠ (q, t) ∧ (k, u) ∈ l.map toE := by
  simp only [refRest, List.mem_map, List.mem_filter, Bool.not_eq_true', decide_eq_false_iff_not]
  constructor
  · rintro ⟨s, ⟨hs, hne⟩, e⟩
    refine ⟨?_, s, hs, e⟩
    rintro rfl
    simp [toE] at e
    exact hne e.1
  · rintro ⟨hne, s, hs, e⟩
    refine ⟨s, ⟨hs, ?_⟩, e⟩
    rintro ⟨h1, h2⟩
    simp [toE] at e
    exact hne (by rw [← e.1, h1, h2])
theorem Match.forbid {L L' : List Ent} {l : List S54} {q t u : Int} (h : Match L l) (hn : (L.map (·.1)).Nodup) (hn' : (L'.map (·.1)).Nodup) (hp : PutMax L (q, t) u L') : Match L' (refForbid l q t u) := by
  have hnl := h.nodup hn
  have hnr : (((refForbid l q t u).map toE).map (·.1)).Nodup := by
    unfold refForbid
    rw [List.map_append, List.map_append, List.nodup_append]
    refine ⟨?_, by simp, ?_⟩
    · have : ((refRest l q t).map toE).map (·.1) = (((l.map toE).map (·.1)).filter fun k => !(decide (k.1 = q ∧ k.2 = t))) := by
        simp only [refRest, List.map_map, List.filter_map]
        rfl
      rw [this]
      exact hnl.filter _
    · intro a ha b hb
      simp only [List.map_cons, List.map_nil, List.mem_singleton] at hb
      obtain ⟨⟨k, v⟩, hm, rfl⟩ := List.mem_map.1 ha
      have := (mem_rest.1 hm).1
      rw [hb]
      exact this
  refine (List.perm_ext_iff_of_nodup (nodup_of_keys hn') (nodup_of_keys hnr)).2 ?_
  rintro ⟨k, v⟩
  rw [putMax_mem hn hp]
  unfold refForbid
  rw [List.map_append, List.mem_append, mem_rest]
  have hm : ∀ k v, (k, v) ∈ L ↔ (k, v) ∈ l.map toE := fun k v => h.mem_iff
  simp only [hm, List.map_cons, List.map_nil, List.mem_singleton]
  have e1 : ((k, v) = toE ⟨q, t, refMax l q t u⟩) ↔ (k = (q, t) ∧ v = refMax l q t u) := by simp [toE]
  rw [e1]
  constructor
  · rintro (h1 | ⟨rfl, ⟨u0, h0, rfl⟩ | ⟨hno, rfl⟩⟩)
    · exact Or.inl h1
    · exact Or.inr ⟨rfl, (refMax_one hnl h0 u).symm⟩
    · refine Or.inr ⟨rfl, (refMax_none (fun s hs hk => hno s.f2 (List.mem_map.2 ⟨s, hs, ?_⟩)) v).symm⟩
      simp [toE, hk.1, hk.2]
  · rintro (h1 | ⟨rfl, rfl⟩)
    · exact Or.inl h1
    · refine Or.inr ⟨rfl, ?_⟩
      by_cases hex : ∃ u0, ((q, t), u0) ∈ l.map toE
      · obtain ⟨u0, h0⟩ := hex
        exact Or.inl ⟨u0, h0, refMax_one hnl h0 u⟩
      · refine Or.inr ⟨fun u0 h0 => hex ⟨u0, h0⟩, refMax_none (fun s hs hk => hex ⟨s.f2, List.mem_map.2 ⟨s, hs, ?_⟩⟩) u⟩
        simp [toE, hk.1, hk.2]
theorem live_map (l : List S54) (now : Int) : (refLive l now).map toE = liveL (l.map toE) now := by
  unfold refLive liveL
  rw [List.filter_map]
  rfl
theorem Match.live {L L' : List Ent} {l : List S54} {now : Int} (h : Match L l) (hp : L'.Perm (liveL L now)) : Match L' (refLive l now) := by
  unfold Match
  rw [live_map]
  exact hp.trans (h.filter _)
theorem Match.count {L : List Ent} {l : List S54} (h : Match L l) (now : Int) : liveN L now = (refLive l now).length := by
  have h1 : (refLive l now).length = (liveL (l.map toE) now).length := by rw [← live_map, List.length_map]
  rw [h1, liveL_length]
  exact h.countP_eq _
theorem Match.is {L : List Ent} {l : List S54} (h : Match L l) (q t now : Int) : isT L q t now = refIs l q t now := by
  rw [Bool.eq_iff_iff, isT_iff, refIs, List.any_eq_true]
  constructor
  · rintro ⟨u, hm, hu⟩
    obtain ⟨s, hs, e⟩ := List.mem_map.1 (h.subset hm)
    simp [toE] at e
    exact ⟨s, hs, by simp [e, hu]⟩
  · rintro ⟨s, hs, hc⟩
    simp only [decide_eq_true_eq] at hc
    exact ⟨s.f2, h.symm.subset (List.mem_map.2 ⟨s, hs, by simp [toE, hc.1, hc.2.1]⟩), hc.2.2⟩
theorem Match.length {L : List Ent} {l : List S54} (h : Match L l) : L.length = l.length := by simpa using h.length_eq

theorem R_keepT {w w' : World} {g base : Nat} {m : Option Nat} {L : List Ent} {v : Value} {xs : List S54} {ok : Nat → Prop} (hk : Keep w w' g m) (hT : IsT w g m L) (h : Kd.R k54 54 w base ok v xs) : Kd.R k54 54 w' base ok v xs := by
  refine Kd.R_mono (Kd.R_move (Kd.R_bound h) (fun k hok => ?_)) (fun _ h => h.1)
  obtain ⟨_, _, hlt, q, hq, cells, hc⟩ := hok
  refine hk.block k hlt ?_ ?_
  · rintro rfl
    rw [hT.1] at hc
    have hE : k54.E = [] := rfl
    rw [hE] at hq
    have h54 : q = 54 := by simpa using hq
    subst h54
    simp at hc
  · intro e
    obtain ⟨es, clock, hb, _⟩ := hT.2.2 k e.symm
    rw [hc] at hb
    cases hb

/-- What a round's last test needs, of whatever world it comes to. -/
def HoldP (w : World) (g : Nat) (m : Option Nat) (L : List Ent) (A : Option Addr) (c : Nat) (l : List S54) (B0 : World) (W : World) : Prop :=
  IsT W g m L ∧ Kd.R k54 54 W w.heap.size (fun _ => True) (.slice A l.length c) l ∧ Below w.heap.size w W ∧ Below B0.heap.size B0 W
theorem HoldP.below {w : World} {g : Nat} {m : Option Nat} {L : List Ent} {A : Option Addr} {c : Nat} {l : List S54} {B0 W W' : World} (h : HoldP w g m L A c l B0 W) (hb : Below W.heap.size W W') : HoldP w g m L A c l B0 W' :=
  ⟨h.1.below hb, Kd.R_below h.2.1 hb, Below.toB h.2.2.1 hb (Nat.le_refl _), Below.toB h.2.2.2 hb (Nat.le_refl _)⟩
theorem HoldP.reads {w : World} {g : Nat} {m : Option Nat} {L : List Ent} {A : Option Addr} {c : Nat} {l : List S54} {B0 W : World} (h : HoldP w g m L A c l B0 W) : Kd.C k54 W A l.length l ∧ l.length ≤ c := by
  obtain ⟨_, hle, hC⟩ := Kd.R_reads' h.2.1
  exact ⟨hC, hle⟩
theorem keepP {w : World} {g b : Nat} {m : Option Nat} {L : List Ent} {A : Option Addr} {c : Nat} {l : List S54} {B0 W W' : World} {v1 v2 v3 : Value}
    (h : W.cell? ⟨b, 1, none⟩ = some v1 ∧ W.cell? ⟨b, 2, none⟩ = some v2 ∧ W.cell? ⟨b, 3, none⟩ = some v3 ∧ HoldP w g m L A c l B0 W) (hb : Below W.heap.size W W') :
    W'.cell? ⟨b, 1, none⟩ = some v1 ∧ W'.cell? ⟨b, 2, none⟩ = some v2 ∧ W'.cell? ⟨b, 3, none⟩ = some v3 ∧ HoldP w g m L A c l B0 W' := by
  obtain ⟨h1, h2, h3, h4⟩ := h
  have key : ∀ j v, W.cell? ⟨b, j, none⟩ = some v → W'.cell? ⟨b, j, none⟩ = some v := by
    intro j v hj
    refine (hb.cell ?_).trans hj
    unfold World.cell? at hj
    split at hj
    · rename_i hh
      exact (Array.getElem?_eq_some_iff.1 hh).1
    · simp at hj
  exact ⟨key _ _ h1, key _ _ h2, key _ _ h3, h4.below hb⟩
theorem HoldP.is_of {w : World} {g : Nat} {m : Option Nat} {L : List Ent} {A : Option Addr} {c : Nat} {l : List S54} {B0 W : World} {p q r : Prop} (h : p ∧ q ∧ r ∧ HoldP w g m L A c l B0 W) : IsT W g m L := h.2.2.2.1
theorem HoldP.r_of {w : World} {g : Nat} {m : Option Nat} {L : List Ent} {A : Option Addr} {c : Nat} {l : List S54} {B0 W : World} {p q r : Prop} (h : p ∧ q ∧ r ∧ HoldP w g m L A c l B0 W) : Kd.R k54 54 W w.heap.size (fun _ => True) (.slice A l.length c) l := h.2.2.2.2.1
theorem HoldP.b_of {w : World} {g : Nat} {m : Option Nat} {L : List Ent} {A : Option Addr} {c : Nat} {l : List S54} {B0 W : World} {p q r : Prop} (h : p ∧ q ∧ r ∧ HoldP w g m L A c l B0 W) : Below w.heap.size w W := h.2.2.2.2.2.1
theorem HoldP.c_of {w : World} {g : Nat} {m : Option Nat} {L : List Ent} {A : Option Addr} {c : Nat} {l : List S54} {B0 W : World} {p q r : Prop} (h : p ∧ q ∧ r ∧ HoldP w g m L A c l B0 W) : Kd.C k54 W A l.length l := h.2.2.2.reads.1
theorem below_drawn {w w' : World} (h : Drawn0 w w') : Below w.heap.size w w' := by
  obtain ⟨n, rfl⟩ := h.out
  exact ⟨rfl, rfl, rfl, Nat.le_refl _, fun _ _ => rfl⟩

set_option maxRecDepth 100000 in
set_option maxHeartbeats 3200000 in
theorem plays_walk (a : Option Addr) (cap : Nat) (l : List OpR) (w : World) (hr : Reads opEnc 4 w a l) (hok : ∀ o ∈ l, opOk o) :
    Calls Try.prog 3 #[.slice a l.length cap] w fun e w' => e = .returned (.bool true) ∧ Below w.heap.size w w' := by
  by_cases hlen : 100 < l.length
  · have hd : decide (100 < (l.length : Int)) = true := by simp; omega
    go_enter Try.func3, Try.ntmps3
    go_wp2_with fail
    refine (alive_any _).mono ?_
    rintro e w1 ⟨rfl, hB1⟩
    go_wp2
    go_ret
    exact ⟨rfl, hB1⟩
  · have hd : decide (100 < (l.length : Int)) = false := by simp; omega
    have hu54 := Try.underlying54
    go_enter Try.func3, Try.ntmps3
    go_wp2_with fail
    refine (alive_any _).mono ?_
    rintro e w1 ⟨rfl, hB1⟩
    obtain ⟨hT1, hB2⟩ := IsT.new hB1
    have hgs := hB1.size
    go_wp2_with (first | ((with_reducible refine gate_dst (N := 14) rfl ?_); refine Kd.R_lit k54 _ 54 ?hg (N := 14) ?hd (xs := ([] : List (S54))) (inner := []) (ok := fun _ => True) (okp := fun _ => True) ?hr ?hp (fun _ hk => hk) trivial (Below.refl _ _) (Nat.le_refl _) (by simp) ?_; (case hd => rfl); (case hg => rfl); (case hr => first | (go_simp; done) | (go_simp; rfl)); (case hp => exact (Reps.none _ _)); intro v1 w3 ho hb hg_ hnew_) | go_in)
    obtain ⟨A0, c0, hv0, _, _⟩ := Kd.R_reads ho
    have hIn : ∃ (k : Nat) (m : Option Nat) (L : List Ent) (A : Option Addr) (c : Nat) (xs : List S54), k ≤ l.length ∧ Value.int .i64 0 = .int .i64 k ∧ v1 = .slice A xs.length c ∧ IsT w3 w1.heap.size m L ∧ (∀ b, m = some b → w.heap.size ≤ b) ∧ Match L xs ∧ xs.length ≤ k ∧ Kd.R k54 54 w3 w.heap.size (fun _ => True) (.slice A xs.length c) xs ∧ Below w.heap.size w w3 :=
      ⟨0, none, [], A0, c0, [], Nat.zero_le _, rfl, hv0, hT1.below hb, by simp, List.Perm.refl _, Nat.le_refl _, by rw [← hv0]; exact Kd.R_lower ho (Nat.le_trans hB1.size (by simp)), Below.toB hB2 hb (Nat.le_refl _)⟩
    have HIn := Lib.hid hIn
    clear hIn ho hb hg_ hnew_ hv0 hT1 hB2
    go_loopw [4, 6, 7, 8, 17, 23, 42] (fun v _ _ _ i _ _ wr => ∃ (k : Nat) (m : Option Nat) (L : List Ent) (A : Option Addr) (c : Nat) (xs : List S54), k ≤ l.length ∧ i = .int .i64 k ∧ v = .slice A xs.length c ∧ IsT wr w1.heap.size m L ∧ (∀ b, m = some b → w.heap.size ≤ b) ∧ Match L xs ∧ xs.length ≤ k ∧ Kd.R k54 54 wr w.heap.size (fun _ => True) (.slice A xs.length c) xs ∧ Below w.heap.size w wr) (fun _ _ _ _ i _ _ _ => l.length - (intOf i).toNat)
    case atStart => exact HIn.out
    case round =>
      obtain ⟨k, m, L, A, c, xs, hk, rfl, rfl, hT, hm, hM, hxl, hR, hB⟩ := hrel
      clear HIn
      by_cases hlt : k < l.length
      · obtain ⟨x, hx⟩ : ∃ x, l[k]? = some x := ⟨_, List.getElem?_eq_getElem hlt⟩
        obtain ⟨ad, rfl, hc⟩ := (hr.below hB) k x hx
        obtain ⟨ok0, ok1, ok2, ok3⟩ := hok x (List.mem_of_getElem? hx)
        have hc0 : wr.cell? (ad.add (k * 4)) = some (.int .i64 x.kind) := hc 0 _ rfl
        have hc1 := hc 1 _ rfl
        have hc2 := hc 2 _ rfl
        have hc3 := hc 3 _ rfl
        rw [add_fld _ _ _ (by omega)] at hc1 hc2 hc3
        clear hc
        have hBW : Below wr.heap.size wr (wr.alloc (.cells #[.int .i64 x.kind, .int .i64 x.q, .int .i64 x.t, .int .i64 x.now] 29)) := (Below.refl _ _).alloc (Nat.le_refl _) _
        have hTW := hT.below hBW
        have hRW := Kd.R_below hR hBW
        have hBB := Below.toB hB hBW (Nat.le_refl _)
        have hoW : (wr.alloc (.cells #[.int .i64 x.kind, .int .i64 x.q, .int .i64 x.t, .int .i64 x.now] 29)).heap[wr.heap.size]? = some (.cells #[.int .i64 x.kind, .int .i64 x.q, .int .i64 x.t, .int .i64 x.now] 29 (0, 0)) := (MapKept.heap_alloc wr _).1
        have hgw : w1.heap.size < wr.heap.size := hT.lt
        have hn := hT.nodup
        by_cases k0 : x.kind = 0 ∨ x.kind = 1 ∨ x.kind = 2
        · rcases k0 with k0 | k0 | k0
          · have e0 : (x.kind == 0) = true := by simpa using k0
            clear k0
            have hff := forbid_f xs x.q x.t x.now (by omega)
            have Hff := Lib.hid hff
            clear hff
            go_wp2_with fail
            refine (forbid_any w1.heap.size m L x.q x.t x.now _ hTW ok1 ok2 ok3).mono ?_
            rintro e w2 ⟨rfl, m2, L2, hT2, hp2, hm2, hk2⟩
            have hR2 := R_keepT hk2 hTW hRW
            have ho2 := hk2.cells hTW hoW (by omega)
            have hB2 := hBB.trans (hk2.below hBB.size hgs hm)
            have hM2 := hM.forbid hn hT2.nodup hp2
            have hm3 := own_step hB.size hBW hm hm2
            obtain ⟨_, hle2, hC2⟩ := Kd.R_reads' hR2
            have d1 := cell_of_heap ho2 1 rfl
            have d2 := cell_of_heap ho2 2 rfl
            have d3 := cell_of_heap ho2 3 rfl
            have hs2 : w.heap.size ≤ w2.heap.size := hB2.size
            clear hk2 hp2 hTW hRW hBB hoW hBW hm2
            go_wp2_with fail
            refine (jitneyref20_Forbid.calls 3001 A c xs x.q x.t x.now _ _ hC2 hle2 Hff.out).mono ?_
            rintro e w3 ⟨v0, rfl, hRv, hb3⟩
            obtain ⟨A', c', hv0, _, _⟩ := Kd.R_reads hRv
            have hR3 := Kd.R_lower hRv hs2
            rw [hv0] at hR3 ⊢
            have hT3 := hT2.below hb3
            have ho3 := (hb3.block _ (Array.getElem?_eq_some_iff.1 ho2).1).trans ho2
            have hB3 := Below.toB hB2 hb3 (Nat.le_refl _)
            have hxl3 : (refForbid xs x.q x.t x.now).length ≤ k + 1 := by
              have h1 : (refRest xs x.q x.t).length ≤ xs.length := List.length_filter_le _ _
              unfold refForbid
              rw [List.length_append]
              simp
              omega
            obtain ⟨xs3, hxs3⟩ : ∃ ys, ys = refForbid xs x.q x.t x.now := ⟨_, rfl⟩
            rw [← hxs3] at hM2 hR3 hxl3 ⊢
            clear d1 d2 d3 hC2 hle2 hR2 hT2 hB2 hb3 hv0 hRv hM hR hT hB hc0 hc1 hc2 hc3 Hff
            have d1 := cell_of_heap ho3 1 rfl
            have d2 := cell_of_heap ho3 2 rfl
            have d3 := cell_of_heap ho3 3 rfl
            have Hx := Lib.hid hxs3
            clear hxs3
            go_wp2
            have hfin : HoldP w w1.heap.size m2 L2 A' c' xs3 w3 w3 := ⟨hT3, hR3, hB3, Below.refl _ _⟩
            have hS0 : w3.cell? ⟨wr.heap.size, 1, none⟩ = some (.int .i64 x.q) ∧ w3.cell? ⟨wr.heap.size, 2, none⟩ = some (.int .i64 x.t) ∧ w3.cell? ⟨wr.heap.size, 3, none⟩ = some (.int .i64 x.now) ∧ HoldP w w1.heap.size m2 L2 A' c' xs3 w3 w3 :=
              ⟨cell_of_heap ho3 1 rfl, cell_of_heap ho3 2 rfl, cell_of_heap ho3 3 rfl, hfin⟩
            have hfi : jitneyref20_Is.f 1001 xs3 x.q x.t x.now = some (isT L2 x.q x.t x.now) := by rw [is_f _ _ _ _ (by omega), hM2.is]
            have hfl := live_f xs3 x.now (by omega)
            have hLl : L2.length ≤ 1000000 := by rw [hM2.length]; omega
            have hcq : ((liveN L2 x.now : Int) != ((refLive xs3 x.now).length : Int)) = false := by rw [hM2.count]; simp
            have Hfi := Lib.hid hfi
            have Hfl := Lib.hid hfl
            have Hm := Lib.hid (p := ∀ b, m2 = some b → w.heap.size ≤ b) hm3
            clear hfi hfl
            go_region_held3 (fun w' => w'.cell? ⟨wr.heap.size, 1, none⟩ = some (.int .i64 x.q) ∧ w'.cell? ⟨wr.heap.size, 2, none⟩ = some (.int .i64 x.t) ∧ w'.cell? ⟨wr.heap.size, 3, none⟩ = some (.int .i64 x.now) ∧ HoldP w w1.heap.size m2 L2 A' c' xs3 w3 w')
              (first | assumption | exact keepP hS0 ((Below.refl _ _).drew) | exact keepP (by assumption) (by assumption))
              (first | (go_at_call 13; refine (is_any w1.heap.size m2 L2 x.q x.t x.now _ ?_ ok1 ok2).mono ?_; (exact (HoldP.is_of (by assumption))); rintro e w' ⟨rfl, rfl⟩) | (go_at_call 14; refine (jitneyref20_Is.calls 1001 A' c' xs3 x.q x.t x.now _ _ ?_ ?_ Hfi.out).mono ?_; (exact HoldP.c_of (by assumption)); (exact hfin.reads.2); rintro e w' ⟨rfl, hdr⟩; have hbX := below_drawn hdr) | (go_at_call 15; refine (count_any w1.heap.size m2 L2 x.now _ ?_ hLl).mono ?_; (exact HoldP.is_of (by assumption)); rintro e w' ⟨rfl, hbX⟩) | (go_at_call 12; refine (jitneyref20_Live.calls 1001 A' c' xs3 x.now _ _ ?_ ?_ Hfl.out).mono ?_; (exact HoldP.c_of (by assumption)); (exact hfin.reads.2); rintro e w' ⟨v0, rfl, hRv, hbX⟩; obtain ⟨A9, c9, rfl, _, _⟩ := Kd.R_reads hRv))
            all_goals
              go_wp2
              go_roundw
              case rel => exact ⟨k + 1, m2, L2, A', c', xs3, by omega, by go_num, rfl, HoldP.is_of (by assumption), Hm.out, hM2, by omega, HoldP.r_of (by assumption), HoldP.b_of (by assumption)⟩
              case measure => simp [intOf]; omega
          · have e0 : (x.kind == 0) = false := by simp; omega
            have e1 : (x.kind == 1) = true := by simpa using k0
            clear k0
            have hff := forbid_f xs x.q x.t x.now (by omega)
            have Hff := Lib.hid hff
            clear hff
            go_wp2_with fail
            refine (forbid_any w1.heap.size m L x.q x.t x.now _ hTW ok1 ok2 ok3).mono ?_
            rintro e w2 ⟨rfl, m2, L2, hT2, hp2, hm2, hk2⟩
            have hR2 := R_keepT hk2 hTW hRW
            have ho2 := hk2.cells hTW hoW (by omega)
            have hB2 := hBB.trans (hk2.below hBB.size hgs hm)
            have hM2 := hM.forbid hn hT2.nodup hp2
            have hm3 := own_step hB.size hBW hm hm2
            obtain ⟨_, hle2, hC2⟩ := Kd.R_reads' hR2
            have d1 := cell_of_heap ho2 1 rfl
            have d2 := cell_of_heap ho2 2 rfl
            have d3 := cell_of_heap ho2 3 rfl
            have hs2 : w.heap.size ≤ w2.heap.size := hB2.size
            clear hk2 hp2 hTW hRW hBB hoW hBW hm2
            go_wp2_with fail
            refine (jitneyref20_Forbid.calls 3001 A c xs x.q x.t x.now _ _ hC2 hle2 Hff.out).mono ?_
            rintro e w3 ⟨v0, rfl, hRv, hb3⟩
            obtain ⟨A', c', hv0, _, _⟩ := Kd.R_reads hRv
            have hR3 := Kd.R_lower hRv hs2
            rw [hv0] at hR3 ⊢
            have hT3 := hT2.below hb3
            have ho3 := (hb3.block _ (Array.getElem?_eq_some_iff.1 ho2).1).trans ho2
            have hB3 := Below.toB hB2 hb3 (Nat.le_refl _)
            have hxl3 : (refForbid xs x.q x.t x.now).length ≤ k + 1 := by
              have h1 : (refRest xs x.q x.t).length ≤ xs.length := List.length_filter_le _ _
              unfold refForbid
              rw [List.length_append]
              simp
              omega
            obtain ⟨xs3, hxs3⟩ : ∃ ys, ys = refForbid xs x.q x.t x.now := ⟨_, rfl⟩
            rw [← hxs3] at hM2 hR3 hxl3 ⊢
            clear d1 d2 d3 hC2 hle2 hR2 hT2 hB2 hb3 hv0 hRv hM hR hT hB hc0 hc1 hc2 hc3 Hff
            have d1 := cell_of_heap ho3 1 rfl
            have d2 := cell_of_heap ho3 2 rfl
            have d3 := cell_of_heap ho3 3 rfl
            have Hx := Lib.hid hxs3
            clear hxs3
            go_wp2
            have hfin : HoldP w w1.heap.size m2 L2 A' c' xs3 w3 w3 := ⟨hT3, hR3, hB3, Below.refl _ _⟩
            have hS0 : w3.cell? ⟨wr.heap.size, 1, none⟩ = some (.int .i64 x.q) ∧ w3.cell? ⟨wr.heap.size, 2, none⟩ = some (.int .i64 x.t) ∧ w3.cell? ⟨wr.heap.size, 3, none⟩ = some (.int .i64 x.now) ∧ HoldP w w1.heap.size m2 L2 A' c' xs3 w3 w3 :=
              ⟨cell_of_heap ho3 1 rfl, cell_of_heap ho3 2 rfl, cell_of_heap ho3 3 rfl, hfin⟩
            have hfi : jitneyref20_Is.f 1001 xs3 x.q x.t x.now = some (isT L2 x.q x.t x.now) := by rw [is_f _ _ _ _ (by omega), hM2.is]
            have hfl := live_f xs3 x.now (by omega)
            have hLl : L2.length ≤ 1000000 := by rw [hM2.length]; omega
            have hcq : ((liveN L2 x.now : Int) != ((refLive xs3 x.now).length : Int)) = false := by rw [hM2.count]; simp
            have Hfi := Lib.hid hfi
            have Hfl := Lib.hid hfl
            have Hm := Lib.hid (p := ∀ b, m2 = some b → w.heap.size ≤ b) hm3
            clear hfi hfl
            go_region_held3 (fun w' => w'.cell? ⟨wr.heap.size, 1, none⟩ = some (.int .i64 x.q) ∧ w'.cell? ⟨wr.heap.size, 2, none⟩ = some (.int .i64 x.t) ∧ w'.cell? ⟨wr.heap.size, 3, none⟩ = some (.int .i64 x.now) ∧ HoldP w w1.heap.size m2 L2 A' c' xs3 w3 w')
              (first | assumption | exact keepP hS0 ((Below.refl _ _).drew) | exact keepP (by assumption) (by assumption))
              (first | (go_at_call 13; refine (is_any w1.heap.size m2 L2 x.q x.t x.now _ ?_ ok1 ok2).mono ?_; (exact (HoldP.is_of (by assumption))); rintro e w' ⟨rfl, rfl⟩) | (go_at_call 14; refine (jitneyref20_Is.calls 1001 A' c' xs3 x.q x.t x.now _ _ ?_ ?_ Hfi.out).mono ?_; (exact HoldP.c_of (by assumption)); (exact hfin.reads.2); rintro e w' ⟨rfl, hdr⟩; have hbX := below_drawn hdr) | (go_at_call 15; refine (count_any w1.heap.size m2 L2 x.now _ ?_ hLl).mono ?_; (exact HoldP.is_of (by assumption)); rintro e w' ⟨rfl, hbX⟩) | (go_at_call 12; refine (jitneyref20_Live.calls 1001 A' c' xs3 x.now _ _ ?_ ?_ Hfl.out).mono ?_; (exact HoldP.c_of (by assumption)); (exact hfin.reads.2); rintro e w' ⟨v0, rfl, hRv, hbX⟩; obtain ⟨A9, c9, rfl, _, _⟩ := Kd.R_reads hRv))
            all_goals
              go_wp2
              go_roundw
              case rel => exact ⟨k + 1, m2, L2, A', c', xs3, by omega, by go_num, rfl, HoldP.is_of (by assumption), Hm.out, hM2, by omega, HoldP.r_of (by assumption), HoldP.b_of (by assumption)⟩
              case measure => simp [intOf]; omega
          · have e0 : (x.kind == 0) = false := by simp; omega
            have e1 : (x.kind == 1) = false := by simp; omega
            have e2 : (x.kind == 2) = true := by simpa using k0
            clear k0
            have hff := forbid_f xs x.q x.t x.now (by omega)
            have Hff := Lib.hid hff
            clear hff
            go_wp2_with fail
            refine (forbid_any w1.heap.size m L x.q x.t x.now _ hTW ok1 ok2 ok3).mono ?_
            rintro e w2 ⟨rfl, m2, L2, hT2, hp2, hm2, hk2⟩
            have hR2 := R_keepT hk2 hTW hRW
            have ho2 := hk2.cells hTW hoW (by omega)
            have hB2 := hBB.trans (hk2.below hBB.size hgs hm)
            have hM2 := hM.forbid hn hT2.nodup hp2
            have hm3 := own_step hB.size hBW hm hm2
            obtain ⟨_, hle2, hC2⟩ := Kd.R_reads' hR2
            have d1 := cell_of_heap ho2 1 rfl
            have d2 := cell_of_heap ho2 2 rfl
            have d3 := cell_of_heap ho2 3 rfl
            have hs2 : w.heap.size ≤ w2.heap.size := hB2.size
            clear hk2 hp2 hTW hRW hBB hoW hBW hm2
            go_wp2_with fail
            refine (jitneyref20_Forbid.calls 3001 A c xs x.q x.t x.now _ _ hC2 hle2 Hff.out).mono ?_
            rintro e w3 ⟨v0, rfl, hRv, hb3⟩
            obtain ⟨A', c', hv0, _, _⟩ := Kd.R_reads hRv
            have hR3 := Kd.R_lower hRv hs2
            rw [hv0] at hR3 ⊢
            have hT3 := hT2.below hb3
            have ho3 := (hb3.block _ (Array.getElem?_eq_some_iff.1 ho2).1).trans ho2
            have hB3 := Below.toB hB2 hb3 (Nat.le_refl _)
            have hxl3 : (refForbid xs x.q x.t x.now).length ≤ k + 1 := by
              have h1 : (refRest xs x.q x.t).length ≤ xs.length := List.length_filter_le _ _
              unfold refForbid
              rw [List.length_append]
              simp
              omega
            obtain ⟨xs3, hxs3⟩ : ∃ ys, ys = refForbid xs x.q x.t x.now := ⟨_, rfl⟩
            rw [← hxs3] at hM2 hR3 hxl3 ⊢
            clear d1 d2 d3 hC2 hle2 hR2 hT2 hB2 hb3 hv0 hRv hM hR hT hB hc0 hc1 hc2 hc3 Hff
            have d1 := cell_of_heap ho3 1 rfl
            have d2 := cell_of_heap ho3 2 rfl
            have d3 := cell_of_heap ho3 3 rfl
            have Hx := Lib.hid hxs3
            clear hxs3
            go_wp2
            have hfin : HoldP w w1.heap.size m2 L2 A' c' xs3 w3 w3 := ⟨hT3, hR3, hB3, Below.refl _ _⟩
            have hS0 : w3.cell? ⟨wr.heap.size, 1, none⟩ = some (.int .i64 x.q) ∧ w3.cell? ⟨wr.heap.size, 2, none⟩ = some (.int .i64 x.t) ∧ w3.cell? ⟨wr.heap.size, 3, none⟩ = some (.int .i64 x.now) ∧ HoldP w w1.heap.size m2 L2 A' c' xs3 w3 w3 :=
              ⟨cell_of_heap ho3 1 rfl, cell_of_heap ho3 2 rfl, cell_of_heap ho3 3 rfl, hfin⟩
            have hfi : jitneyref20_Is.f 1001 xs3 x.q x.t x.now = some (isT L2 x.q x.t x.now) := by rw [is_f _ _ _ _ (by omega), hM2.is]
            have hfl := live_f xs3 x.now (by omega)
            have hLl : L2.length ≤ 1000000 := by rw [hM2.length]; omega
            have hcq : ((liveN L2 x.now : Int) != ((refLive xs3 x.now).length : Int)) = false := by rw [hM2.count]; simp
            have Hfi := Lib.hid hfi
            have Hfl := Lib.hid hfl
            have Hm := Lib.hid (p := ∀ b, m2 = some b → w.heap.size ≤ b) hm3
            clear hfi hfl
            go_region_held3 (fun w' => w'.cell? ⟨wr.heap.size, 1, none⟩ = some (.int .i64 x.q) ∧ w'.cell? ⟨wr.heap.size, 2, none⟩ = some (.int .i64 x.t) ∧ w'.cell? ⟨wr.heap.size, 3, none⟩ = some (.int .i64 x.now) ∧ HoldP w w1.heap.size m2 L2 A' c' xs3 w3 w')
              (first | assumption | exact keepP hS0 ((Below.refl _ _).drew) | exact keepP (by assumption) (by assumption))
              (first | (go_at_call 13; refine (is_any w1.heap.size m2 L2 x.q x.t x.now _ ?_ ok1 ok2).mono ?_; (exact (HoldP.is_of (by assumption))); rintro e w' ⟨rfl, rfl⟩) | (go_at_call 14; refine (jitneyref20_Is.calls 1001 A' c' xs3 x.q x.t x.now _ _ ?_ ?_ Hfi.out).mono ?_; (exact HoldP.c_of (by assumption)); (exact hfin.reads.2); rintro e w' ⟨rfl, hdr⟩; have hbX := below_drawn hdr) | (go_at_call 15; refine (count_any w1.heap.size m2 L2 x.now _ ?_ hLl).mono ?_; (exact HoldP.is_of (by assumption)); rintro e w' ⟨rfl, hbX⟩) | (go_at_call 12; refine (jitneyref20_Live.calls 1001 A' c' xs3 x.now _ _ ?_ ?_ Hfl.out).mono ?_; (exact HoldP.c_of (by assumption)); (exact hfin.reads.2); rintro e w' ⟨v0, rfl, hRv, hbX⟩; obtain ⟨A9, c9, rfl, _, _⟩ := Kd.R_reads hRv))
            all_goals
              go_wp2
              go_roundw
              case rel => exact ⟨k + 1, m2, L2, A', c', xs3, by omega, by go_num, rfl, HoldP.is_of (by assumption), Hm.out, hM2, by omega, HoldP.r_of (by assumption), HoldP.b_of (by assumption)⟩
              case measure => simp [intOf]; omega
        · have e0 : (x.kind == 0) = false := by simp; omega
          have e1 : (x.kind == 1) = false := by simp; omega
          have e2 : (x.kind == 2) = false := by simp; omega
          by_cases k4 : x.kind = 4
          · have e4 : (x.kind == 4) = true := by simpa using k4
            clear k4
            have hLl : L.length ≤ 1000000 := by rw [hM.length]; omega
            have hfl := live_f xs x.now (by omega)
            have hcl : liveN L x.now ≤ L.length := List.countP_le_length
            have hrl : (refLive xs x.now).length ≤ xs.length := List.length_filter_le _ _
            have hq0 : (((L.length : Int) - (liveN L x.now : Int)) != ((xs.length : Int) - ((refLive xs x.now).length : Int))) = false := by rw [hM.count, hM.length]; simp
            have Hfl := Lib.hid hfl
            clear hfl
            go_wp2_with fail
            refine (sweep_any w1.heap.size m L x.now _ hTW hLl).mono ?_
            rintro e w2 ⟨rfl, ⟨L2, hT2, hp2⟩, hk2⟩
            have hR2 := R_keepT hk2 hTW hRW
            have ho2 := hk2.cells hTW hoW (by omega)
            have hB2 := hBB.trans (hk2.below hBB.size hgs hm)
            have hM2 := hM.live hp2
            obtain ⟨_, hle2, hC2⟩ := Kd.R_reads' hR2
            have d1 := cell_of_heap ho2 1 rfl
            have d2 := cell_of_heap ho2 2 rfl
            have d3 := cell_of_heap ho2 3 rfl
            have hs2 : w.heap.size ≤ w2.heap.size := hB2.size
            clear hk2 hp2 hTW hRW hBB hoW hBW
            go_wp2_with fail
            refine (jitneyref20_Live.calls 1001 A c xs x.now _ _ hC2 hle2 Hfl.out).mono ?_
            rintro e w3 ⟨v0, rfl, hRv, hb3⟩
            obtain ⟨A', c', hv0, _, _⟩ := Kd.R_reads hRv
            have hR3 := Kd.R_lower hRv hs2
            rw [hv0] at hR3 ⊢
            have hT3 := hT2.below hb3
            have ho3 := (hb3.block _ (Array.getElem?_eq_some_iff.1 ho2).1).trans ho2
            have hB3 := Below.toB hB2 hb3 (Nat.le_refl _)
            have hxl3 : (refLive xs x.now).length ≤ k := by omega
            obtain ⟨xs3, hxs3⟩ : ∃ ys, ys = refLive xs x.now := ⟨_, rfl⟩
            rw [← hxs3] at hM2 hR3 hxl3 hrl hq0 ⊢
            clear d1 d2 d3 hC2 hle2 hR2 hT2 hB2 hb3 hv0 hRv hM hR hT hB hc0 hc1 hc2 hc3 hcl hLl Hfl
            have d1 := cell_of_heap ho3 1 rfl
            have d2 := cell_of_heap ho3 2 rfl
            have d3 := cell_of_heap ho3 3 rfl
            have Hx := Lib.hid hxs3
            clear hxs3
            go_wp2
            have hfin : HoldP w w1.heap.size m L2 A' c' xs3 w3 w3 := ⟨hT3, hR3, hB3, Below.refl _ _⟩
            have hS0 : w3.cell? ⟨wr.heap.size, 1, none⟩ = some (.int .i64 x.q) ∧ w3.cell? ⟨wr.heap.size, 2, none⟩ = some (.int .i64 x.t) ∧ w3.cell? ⟨wr.heap.size, 3, none⟩ = some (.int .i64 x.now) ∧ HoldP w w1.heap.size m L2 A' c' xs3 w3 w3 :=
              ⟨cell_of_heap ho3 1 rfl, cell_of_heap ho3 2 rfl, cell_of_heap ho3 3 rfl, hfin⟩
            have hfi : jitneyref20_Is.f 1001 xs3 x.q x.t x.now = some (isT L2 x.q x.t x.now) := by rw [is_f _ _ _ _ (by omega), hM2.is]
            have hfl := live_f xs3 x.now (by omega)
            have hLl : L2.length ≤ 1000000 := by rw [hM2.length]; omega
            have hcq : ((liveN L2 x.now : Int) != ((refLive xs3 x.now).length : Int)) = false := by rw [hM2.count]; simp
            have Hfi := Lib.hid hfi
            have Hfl := Lib.hid hfl
            have Hm := Lib.hid (p := ∀ b, m = some b → w.heap.size ≤ b) hm
            clear hfi hfl
            go_region_held3 (fun w' => w'.cell? ⟨wr.heap.size, 1, none⟩ = some (.int .i64 x.q) ∧ w'.cell? ⟨wr.heap.size, 2, none⟩ = some (.int .i64 x.t) ∧ w'.cell? ⟨wr.heap.size, 3, none⟩ = some (.int .i64 x.now) ∧ HoldP w w1.heap.size m L2 A' c' xs3 w3 w')
              (first | assumption | exact keepP hS0 ((Below.refl _ _).drew) | exact keepP (by assumption) (by assumption))
              (first | (go_at_call 13; refine (is_any w1.heap.size m L2 x.q x.t x.now _ ?_ ok1 ok2).mono ?_; (exact (HoldP.is_of (by assumption))); rintro e w' ⟨rfl, rfl⟩) | (go_at_call 14; refine (jitneyref20_Is.calls 1001 A' c' xs3 x.q x.t x.now _ _ ?_ ?_ Hfi.out).mono ?_; (exact HoldP.c_of (by assumption)); (exact hfin.reads.2); rintro e w' ⟨rfl, hdr⟩; have hbX := below_drawn hdr) | (go_at_call 15; refine (count_any w1.heap.size m L2 x.now _ ?_ hLl).mono ?_; (exact HoldP.is_of (by assumption)); rintro e w' ⟨rfl, hbX⟩) | (go_at_call 12; refine (jitneyref20_Live.calls 1001 A' c' xs3 x.now _ _ ?_ ?_ Hfl.out).mono ?_; (exact HoldP.c_of (by assumption)); (exact hfin.reads.2); rintro e w' ⟨v0, rfl, hRv, hbX⟩; obtain ⟨A9, c9, rfl, _, _⟩ := Kd.R_reads hRv))
            all_goals
              go_wp2
              go_roundw
              case rel => exact ⟨k + 1, m, L2, A', c', xs3, by omega, by go_num, rfl, HoldP.is_of (by assumption), Hm.out, hM2, by omega, HoldP.r_of (by assumption), HoldP.b_of (by assumption)⟩
              case measure => simp [intOf]; omega
          · have e4 : (x.kind == 4) = false := by simpa using k4
            go_wp2
            have hfin : HoldP w w1.heap.size m L A c xs (wr.alloc (.cells #[.int .i64 x.kind, .int .i64 x.q, .int .i64 x.t, .int .i64 x.now] 29)) (wr.alloc (.cells #[.int .i64 x.kind, .int .i64 x.q, .int .i64 x.t, .int .i64 x.now] 29)) := ⟨hTW, hRW, hBB, Below.refl _ _⟩
            have hS0 : (wr.alloc (.cells #[.int .i64 x.kind, .int .i64 x.q, .int .i64 x.t, .int .i64 x.now] 29)).cell? ⟨wr.heap.size, 1, none⟩ = some (.int .i64 x.q) ∧ (wr.alloc (.cells #[.int .i64 x.kind, .int .i64 x.q, .int .i64 x.t, .int .i64 x.now] 29)).cell? ⟨wr.heap.size, 2, none⟩ = some (.int .i64 x.t) ∧ (wr.alloc (.cells #[.int .i64 x.kind, .int .i64 x.q, .int .i64 x.t, .int .i64 x.now] 29)).cell? ⟨wr.heap.size, 3, none⟩ = some (.int .i64 x.now) ∧ HoldP w w1.heap.size m L A c xs (wr.alloc (.cells #[.int .i64 x.kind, .int .i64 x.q, .int .i64 x.t, .int .i64 x.now] 29)) (wr.alloc (.cells #[.int .i64 x.kind, .int .i64 x.q, .int .i64 x.t, .int .i64 x.now] 29)) :=
              ⟨cell_of_heap hoW 1 rfl, cell_of_heap hoW 2 rfl, cell_of_heap hoW 3 rfl, hfin⟩
            have hfi : jitneyref20_Is.f 1001 xs x.q x.t x.now = some (isT L x.q x.t x.now) := by rw [is_f _ _ _ _ (by omega), hM.is]
            have hfl := live_f xs x.now (by omega)
            have hLl : L.length ≤ 1000000 := by rw [hM.length]; omega
            have hcq : ((liveN L x.now : Int) != ((refLive xs x.now).length : Int)) = false := by rw [hM.count]; simp
            have Hfi := Lib.hid hfi
            have Hfl := Lib.hid hfl
            have Hm := Lib.hid (p := ∀ b, m = some b → w.heap.size ≤ b) hm
            clear hfi hfl
            go_region_held3 (fun w' => w'.cell? ⟨wr.heap.size, 1, none⟩ = some (.int .i64 x.q) ∧ w'.cell? ⟨wr.heap.size, 2, none⟩ = some (.int .i64 x.t) ∧ w'.cell? ⟨wr.heap.size, 3, none⟩ = some (.int .i64 x.now) ∧ HoldP w w1.heap.size m L A c xs (wr.alloc (.cells #[.int .i64 x.kind, .int .i64 x.q, .int .i64 x.t, .int .i64 x.now] 29)) w')
              (first | assumption | exact keepP hS0 ((Below.refl _ _).drew) | exact keepP (by assumption) (by assumption))
              (first | (go_at_call 13; refine (is_any w1.heap.size m L x.q x.t x.now _ ?_ ok1 ok2).mono ?_; (exact (HoldP.is_of (by assumption))); rintro e w' ⟨rfl, rfl⟩) | (go_at_call 14; refine (jitneyref20_Is.calls 1001 A c xs x.q x.t x.now _ _ ?_ ?_ Hfi.out).mono ?_; (exact HoldP.c_of (by assumption)); (exact hfin.reads.2); rintro e w' ⟨rfl, hdr⟩; have hbX := below_drawn hdr) | (go_at_call 15; refine (count_any w1.heap.size m L x.now _ ?_ hLl).mono ?_; (exact HoldP.is_of (by assumption)); rintro e w' ⟨rfl, hbX⟩) | (go_at_call 12; refine (jitneyref20_Live.calls 1001 A c xs x.now _ _ ?_ ?_ Hfl.out).mono ?_; (exact HoldP.c_of (by assumption)); (exact hfin.reads.2); rintro e w' ⟨v0, rfl, hRv, hbX⟩; obtain ⟨A9, c9, rfl, _, _⟩ := Kd.R_reads hRv))
            all_goals
              go_wp2
              go_roundw
              case rel => exact ⟨k + 1, m, L, A, c, xs, by omega, by go_num, rfl, HoldP.is_of (by assumption), Hm.out, hM, by omega, HoldP.r_of (by assumption), HoldP.b_of (by assumption)⟩
              case measure => simp [intOf]; omega
      · go_wp2
        go_ret
        exact ⟨rfl, hB⟩
end Go.Proofs.Ytihfnoaannjegaa
