/- What Whole, Words and Lines of deci answer. Written by this session. -/
import Derived.Test.YtdgifgdadminbaaDoorD1
set_option linter.unusedSimpArgs false
set_option linter.unusedVariables false
set_option maxRecDepth 100000
namespace Go.Proofs.YtdgifgdadminbaaDoor
open Go.RowKit Go.Proofs.YtdgifgdadminbaaDoorW.PrintWords Sp
open PFileParses (val13 digits_f value_f power_f mul_f word_f wrap_id ba_len toList_data)

theorem hpre_c (s : ByteArray) (w : World) :
    Calls Tryd.prog 129 #[.string s, .string ⟨#[45]⟩] w fun e w' => e = .returned (.bool (negOf s.data.toList)) ∧ w' = w := by
  refine (Tryd.strings_HasPrefix s ⟨#[45]⟩ w).mono ?_
  rintro e w' ⟨rfl, rfl⟩
  refine ⟨?_, rfl⟩
  show Ending.returned (.bool (Lib.hasPrefix s.data.toList [45])) = _
  rw [hasPre_eq]
theorem neg_iff (l : List UInt8) : negOf l = true ↔ l.head? = some 45 := by
  unfold negOf
  exact beq_iff_eq
theorem head_at (s : ByteArray) (h : 0 < s.size) : s.data.toList.head? = some (s[0]'h) := by
  have hl : 0 < s.data.toList.length := by rw [ba_len]; exact h
  rw [List.head?_eq_getElem?, List.getElem?_eq_getElem hl]
  rfl
theorem whole_bad {s : ByteArray} (h : (1 < s.size ∧ s.data.toList.head? = some 48) ∨ s.data.toList.head? = some 45) : wholeS s = (0, 21) := by
  unfold wholeS wholeL
  rw [if_pos]
  rw [ba_len]
  exact h
theorem whole_good {s : ByteArray} (h : ¬ ((1 < s.size ∧ s.data.toList.head? = some 48) ∨ s.data.toList.head? = some 45)) : wholeS s = readS s := by
  unfold wholeS wholeL
  rw [if_neg]
  · rfl
  · rw [ba_len]
    exact h

set_option maxHeartbeats 4000000 in
theorem whole_walk (s : ByteArray) (w : World) (hE : Env w) (hs : s.size < 4294967281) :
    Calls Tryd.prog 104 #[.string s] w fun e w' => e = .returned (.tuple #[.int .i64 (wholeS s).1, .int .i64 (wholeS s).2]) ∧ Drawn0 w w' := by
  obtain ⟨B, hB0⟩ : ∃ B, negOf s.data.toList = B := ⟨_, rfl⟩
  have hp := hpre_c s
  rw [hB0] at hp
  have hB := Lib.hid hB0
  clear hB0
  have hr := read_walk s
  unfold readAns at hr
  have fin : ¬ (1 < s.size ∧ s.data.toList.head? = some 48) → B = false → wholeS s = readS s := by
    intro h1 h2
    refine whole_good ?_
    rintro (h | h)
    · exact h1 h
    · have := (neg_iff _).2 h
      rw [hB.out, h2] at this
      cases this
  have bad : B = true → wholeS s = (0, 21) := fun h => whole_bad (.inr ((neg_iff _).1 (by rw [hB.out]; exact h)))
  have FIN := Lib.hid fin
  have BAD := Lib.hid bad
  clear fin bad
  by_cases h1 : 1 < s.size
  · have hb1 : decide ((1 : Int) < (s.size : Int)) = true := decide_eq_true (by omega)
    have hh := head_at s (by omega)
    obtain ⟨c, hc⟩ : ∃ c, (s[0]'(by omega)) = c := ⟨_, rfl⟩
    rw [hc] at hh
    obtain ⟨Z, hZ0⟩ : ∃ Z, ((c.toNat : Int) == 48) = Z := ⟨_, rfl⟩
    have hZ := Lib.hid hZ0
    have HH := Lib.hid hh
    clear hh
    have hcz : (((s[0]'(by omega)).toNat : Int) == 48) = Z := by rw [hc]; exact hZ0
    clear hZ0 hc
    cases Z
    · have h0 : ¬ (1 < s.size ∧ s.data.toList.head? = some 48) := by
        rintro ⟨_, h⟩
        rw [HH.out] at h
        have := hZ.out
        rw [Option.some.inj h] at this
        cases this
      have H0 := Lib.hid h0
      clear h0
      go_enter Tryd.func104, Tryd.ntmps104
      go_wp2_with fail
      refine (hp _).mono ?_
      rintro e w' ⟨rfl, rfl⟩
      cases B
      · have e := FIN.out H0.out rfl
        go_wp2_with fail
        refine (hr _ hE hs).mono ?_
        rintro e w1 ⟨rfl, hd⟩
        go_wp2_with fail
        go_ret2
        exact ⟨by rw [e]; rfl, hd⟩
      · have e := BAD.out rfl
        go_wp2_with fail
        go_ret2
        exact ⟨by rw [e]; rfl, Drawn0.refl _⟩
    · have e : wholeS s = (0, 21) := by
        refine whole_bad (.inl ⟨h1, ?_⟩)
        rw [HH.out]
        have h := hZ.out
        have h2 : c.toNat = 48 := by have := beq_iff_eq.1 h; omega
        congr 1
        exact UInt8.toNat_inj.1 h2
      go_enter Tryd.func104, Tryd.ntmps104
      go_wp2_with fail
      go_ret2
      exact ⟨by rw [e]; rfl, Drawn0.refl _⟩
  · have hb1 : decide ((1 : Int) < (s.size : Int)) = false := decide_eq_false (by omega)
    go_enter Tryd.func104, Tryd.ntmps104
    go_wp2_with fail
    refine (hp _).mono ?_
    rintro e w' ⟨rfl, rfl⟩
    cases B
    · have e := FIN.out (fun h => h1 h.1) rfl
      go_wp2_with fail
      refine (hr _ hE hs).mono ?_
      rintro e w1 ⟨rfl, hd⟩
      go_wp2_with fail
      go_ret2
      exact ⟨by rw [e]; rfl, hd⟩
    · have e := BAD.out rfl
      go_wp2_with fail
      go_ret2
      exact ⟨by rw [e]; rfl, Drawn0.refl _⟩

theorem split_c (s : ByteArray) (c : UInt8) (w : World) (hE : Env w) (hs : s.size < 4294967281) :
    Calls Tryd.prog 67 #[.string s, .string ⟨#[c]⟩] w fun e w' => ∃ xs A, xs = (cutAt c s.data.toList).map mk ∧ e = .returned (.slice A xs.length xs.length) ∧ Kd.R Kd.string 9 w' w.heap.size (fun _ => True) (.slice A xs.length xs.length) xs ∧ Below w.heap.size w w' := by
  obtain ⟨m, hm⟩ := hE.m
  refine (Tryd.strings_Split s ⟨#[c]⟩ m w hs hm (Nat.le_refl 1)).mono ?_
  rintro e w' ⟨rfl, rfl⟩
  have hl : ((cutAt c s.data.toList).map mk).length = Lib.countB s ⟨#[c]⟩ + 1 := by rw [List.length_map, cutAt_count, countB_one]
  have hcnt : Lib.countB s ⟨#[c]⟩ ≤ s.size := Lib.countB_le ⟨#[c]⟩ (Nat.le_refl 1) s.size s (Nat.le_refl _)
  refine ⟨_, some ⟨w.heap.size, 0, none⟩, rfl, by rw [hl], ?_, (Below.refl _ _).alloc (Nat.le_refl _) _⟩
  refine Kd.R_of_own ?_ (fun _ _ => trivial)
  rw [split_one]
  refine ⟨by simp [encs], .inr ⟨w.heap.size, _, _, rfl, Nat.le_refl _, heap_alloc_new w _, Nat.le_refl _, ?_, ?_, ?_⟩⟩
  · rw [hl]
    simp only [maxLen]
    omega
  · simp
  · simp [encs]
    exact List.take_of_length_le (by simp)

theorem word_c (s : ByteArray) (w : World) (hs : s.size < 4294967281) : Calls Tryd.prog 117 #[.string s] w fun e w' => e = .returned (.bool (wordB s)) ∧ Drawn0 w w' := by
  obtain ⟨k, hk⟩ := word_f s (by omega)
  exact PFileParses.deci_word.calls k s _ w hk

theorem cutAt_len (c : UInt8) : ∀ l : List UInt8, ∀ x ∈ cutAt c l, x.length ≤ l.length
  | [], x, h => by
    simp [cutAt] at h
    simp [h]
  | b :: r, x, h => by
    have ih := cutAt_len c r
    unfold cutAt at h
    split at h
    · rcases List.mem_cons.1 h with rfl | h
      · simp
      · have := ih x h; simp only [List.length_cons]; omega
    · revert ih h
      cases cutAt c r with
      | nil =>
        intro ih h
        simp at h
        simp [h]
      | cons y ys =>
        intro ih h
        rcases List.mem_cons.1 h with rfl | h
        · have := ih y (by simp); simp only [List.length_cons]; omega
        · have := ih x (by simp [h]); simp only [List.length_cons]; omega

theorem drawn_below {B : Nat} {a b c : World} (h : Below B a b) (k : Drawn0 b c) : Below B a c := by
  obtain ⟨n, rfl⟩ := k.out
  exact pw_below_drewN h n
theorem R_drawn {α : Type} {d : Kd α} {e : Nat} {w w1 : World} {base : Nat} {ok : Nat → Prop} {v : Value} {xs : List α} (h : d.R e w base ok v xs) (k : Drawn0 w w1) : d.R e w1 base ok v xs := by
  obtain ⟨n, rfl⟩ := k.out
  exact Kd.R_drewN h n

set_option maxHeartbeats 4000000 in
theorem words_walk (s : ByteArray) (w : World) (hE : Env w) (hs : s.size < 4294967281) :
    Calls Tryd.prog 90 #[.string s] w fun e w' => ∃ v, e = .returned (.tuple #[v, .int .i64 (wordsS s).2]) ∧ Kd.R Kd.string 9 w' w.heap.size (fun _ => True) v (wordsS s).1 ∧ Below w.heap.size w w' := by
  by_cases h0 : s.size = 0
  · have e : s = ⟨#[]⟩ := by
      have : s.data.toList = [] := List.length_eq_zero_iff.1 (by rw [ba_len]; exact h0)
      exact ByteArray.ext (Array.toList_inj.1 this)
    subst e
    go_enter Tryd.func90, Tryd.ntmps90
    go_wp2
    go_ret2
    exact ⟨_, rfl, Kd.R_nil _ _ _ _ _, Below.refl _ _⟩
  · have hne : (s.toList.isEmpty) = false := by
      rw [toList_data]
      have := ba_len s
      cases hl : s.data.toList with
      | nil => rw [hl] at this; simp at this; omega
      | cons => rfl
    go_enter Tryd.func90, Tryd.ntmps90
    go_wp2_with fail
    refine (split_c s 32 _ hE hs).mono ?_
    rintro e w1 ⟨xs, A, hxs, rfl, hR, hb⟩
    have HXS := Lib.hid hxs
    have HR := Lib.hid hR
    clear hR hxs
    have hlen : xs.length ≤ 4294967281 := by
      have := cutAt_count 32 s.data.toList
      have h2 : s.data.toList.count 32 ≤ s.data.toList.length := List.count_le_length
      rw [HXS.out, List.length_map, this]
      rw [ba_len] at h2
      omega
    have hsz : ∀ x ∈ xs, x.size < 4294967281 := by
      intro x hx
      rw [HXS.out] at hx
      obtain ⟨l, hl, rfl⟩ := List.mem_map.1 hx
      have := cutAt_len 32 _ l hl
      rw [mk_size]
      rw [ba_len] at this
      omega
    have HSZ := Lib.hid hsz
    clear hsz
    go_wp2_with fail
    go_loopw [6, 13] (fun _ i wr => ∃ k : Nat, k ≤ xs.length ∧ i = .int .i64 k ∧ (xs.take k).all wordB = true ∧ Drawn0 w1 wr) (fun _ i _ => xs.length - (intOf i).toNat)
    case atStart => exact ⟨0, Nat.zero_le _, rfl, rfl, Drawn0.refl _⟩
    case round =>
      obtain ⟨k, hk, rfl, hall, hd⟩ := hrel
      have HALL := Lib.hid hall
      clear hall
      have hR1 := R_drawn HR.out hd
      have hB1 := drawn_below hb hd
      by_cases hlt : k < xs.length
      · obtain ⟨_, _, hC⟩ := Kd.R_reads' hR1
        obtain ⟨ad, rfl, hc⟩ := Kd.at_string hC k (by omega) (by omega)
        rw [Int.toNat_natCast] at hc
        have hrd : rdOf ByteArray.empty xs (k : Int) = xs[k]'hlt := by
          unfold rdOf
          rw [Int.toNat_natCast, List.getD_eq_getElem?_getD, List.getElem?_eq_getElem hlt]
          rfl
        rw [hrd] at hc
        have hxk := HSZ.out (xs[k]'hlt) (List.getElem_mem hlt)
        have hHR1 := Lib.hid hR1
        clear hC hrd hR1
        go_wp2_with fail
        refine (word_c (xs[k]'hlt) _ hxk).mono ?_
        rintro e w2 ⟨rfl, hd2⟩
        obtain ⟨W, hW0⟩ : ∃ W, wordB (xs[k]'hlt) = W := ⟨_, rfl⟩
        rw [hW0]
        have hW := Lib.hid hW0
        clear hW0
        cases W
        · go_wp2_with fail
          go_ret2
          have : wordsS s = ([], 21) := by
            unfold wordsS
            rw [if_neg h0, if_neg]
            rw [← HXS.out, List.all_eq_true]
            intro h
            have := h _ (List.getElem_mem hlt)
            rw [hW.out] at this
            cases this
          rw [this]
          exact ⟨_, rfl, Kd.R_nil _ _ _ _ _, drawn_below hB1 hd2⟩
        · go_wp2_with fail
          go_roundw
          case rel =>
            refine ⟨k + 1, by omega, by go_num, ?_, Drawn0.trans hd hd2⟩
            rw [List.take_succ_eq_append_getElem hlt, List.all_append, HALL.out]
            simp [hW.out]
          case measure => simp [intOf]; omega
      · have hk' : k = xs.length := by omega
        go_wp2_with fail
        go_ret2
        have : wordsS s = (xs, 0) := by
          unfold wordsS
          rw [if_neg h0, ← HXS.out, if_pos]
          have := HALL.out
          rw [hk', List.take_length] at this
          exact this
        rw [this]
        exact ⟨_, rfl, hR1, hB1⟩


/-- Lines' answer by the last letter. -/
theorem lines_nl (s : ByteArray) (h1 : ¬ 1048576 < s.size) (l : List UInt8) (e : s.data.toList = l ++ [10]) : linesS s = ((cutAt 10 l).map mk, 0) := by
  unfold linesS
  rw [if_neg h1, e, cutAt_snoc, if_pos (by simp)]
  simp
theorem cutAt_last (c : UInt8) : ∀ l : List UInt8, l ≠ [] → (cutAt c l).getLast? = some [] → ∃ r, l = r ++ [c]
  | [], h, _ => absurd rfl h
  | b :: r, _, hl => by
    unfold cutAt at hl
    split at hl
    · next hb =>
      subst hb
      cases r with
      | nil => exact ⟨[], rfl⟩
      | cons x xs =>
        rw [List.getLast?_cons_of_ne_nil (cutAt_ne _ _)] at hl
        obtain ⟨q, hq⟩ := cutAt_last b (x :: xs) (by simp) hl
        exact ⟨b :: q, by rw [hq]; rfl⟩
    · next hb =>
      have hn := cutAt_ne c r
      have ih := cutAt_last c r
      revert hn hl ih
      cases hcr : cutAt c r with
      | nil => intro _ h _; exact absurd rfl h
      | cons x xs =>
        intro hl _ ih
        cases xs with
        | nil => simp at hl
        | cons y ys =>
          have hr : r ≠ [] := by rintro rfl; simp [cutAt] at hcr
          rw [List.getLast?_cons_of_ne_nil (by simp)] at hl
          obtain ⟨q, hq⟩ := ih hr (by rw [List.getLast?_cons_of_ne_nil (by simp)]; exact hl)
          exact ⟨b :: q, by rw [hq]; rfl⟩
theorem lines_short (s : ByteArray) (h1 : ¬ 1048576 < s.size) (h0 : s.data.toList ≠ []) (h : ∀ l, s.data.toList ≠ l ++ [10]) : linesS s = ([], 20) := by
  unfold linesS
  rw [if_neg h1, if_neg]
  intro hl
  obtain ⟨r, hr⟩ := cutAt_last 10 _ h0 hl
  exact h r hr
theorem suffix_cases (l : List UInt8) : (∃ r, l = r ++ [10] ∧ Lib.hasSuffix l [10] = true ∧ Lib.trimSuffix l [10] = r) ∨ ((∀ r, l ≠ r ++ [10]) ∧ Lib.hasSuffix l [10] = false ∧ Lib.trimSuffix l [10] = l) := by
  unfold Lib.trimSuffix
  cases h : Lib.hasSuffix l [10]
  · right
    refine ⟨?_, rfl, rfl⟩
    rintro r rfl
    have : Lib.hasSuffix (r ++ [10]) [10] = true := by
      unfold Lib.hasSuffix
      rw [List.isSuffixOf_iff_suffix]
      exact ⟨r, rfl⟩
    rw [this] at h
    cases h
  · left
    obtain ⟨r, rfl⟩ := List.isSuffixOf_iff_suffix.1 h
    exact ⟨r, rfl, rfl, by simp⟩

set_option maxHeartbeats 4000000 in
theorem lines_walk (s : ByteArray) (w : World) (hE : Env w) (hs : s.size < 4294967281) :
    Calls Tryd.prog 31 #[.string s] w fun e w' => ∃ v, e = .returned (.tuple #[v, .int .i64 (linesS s).2]) ∧ Kd.R Kd.string 9 w' w.heap.size (fun _ => True) v (linesS s).1 ∧ Below w.heap.size w w' := by
  by_cases h1 : 1048576 < s.size
  · have hb1 : decide ((1048576 : Int) < (s.size : Int)) = true := decide_eq_true (by omega)
    go_enter Tryd.func31, Tryd.ntmps31
    go_wp2_with fail
    go_ret2
    have : linesS s = ([], 2) := by unfold linesS; rw [if_pos h1]
    rw [this]
    exact ⟨_, rfl, Kd.R_nil _ _ _ _ _, Below.refl _ _⟩
  · have hb1 : decide ((1048576 : Int) < (s.size : Int)) = false := decide_eq_false (by omega)
    by_cases h0 : s.data.toList = []
    · have e : s = ⟨#[]⟩ := ByteArray.ext (Array.toList_inj.1 h0)
      subst e
      have : linesS ⟨#[]⟩ = ([], 0) := by decide
      have HT := Lib.hid this
      clear this
      go_enter Tryd.func31, Tryd.ntmps31
      go_wp2_with fail
      refine (Tryd.strings_CutSuffix ⟨#[]⟩ ⟨#[10]⟩ _ (by decide)).mono ?_
      rintro e w' ⟨rfl, rfl⟩
      go_wp2_with fail
      go_ret2
      rw [HT.out]
      exact ⟨_, rfl, Kd.R_nil _ _ _ _ _, Below.refl _ _⟩
    · have hne : (s.toList.isEmpty) = false := by
        rw [toList_data]
        cases hl : s.data.toList with
        | nil => exact absurd hl h0
        | cons => rfl
      rcases suffix_cases s.data.toList with ⟨r, hr, hs1, hs2⟩ | ⟨hr, hs1, hs2⟩
      · have hl := lines_nl s h1 r hr
        have HL := Lib.hid hl
        clear hl
        have hrs : (mk r).size < 4294967281 := by
          have := congrArg List.length hr
          rw [ba_len] at this
          simp at this
          rw [mk_size]
          omega
        have hC := fun w => Tryd.strings_CutSuffix s ⟨#[10]⟩ w (by omega)
        have e1 : (⟨#[10]⟩ : ByteArray).data.toList = [10] := rfl
        simp only [e1, hs1, hs2] at hC
        have HR := Lib.hid hr
        clear hr hs1 hs2
        go_enter Tryd.func31, Tryd.ntmps31
        go_wp2_with fail
        refine (hC _).mono ?_
        rintro e w' ⟨rfl, rfl⟩
        go_wp2_with fail
        refine (split_c (mk r) 10 _ hE hrs).mono ?_
        rintro e w1 ⟨xs, A, hxs, rfl, hR, hb⟩
        rw [data_mk] at hxs
        have HX := Lib.hid hxs
        have HR := Lib.hid hR
        clear hR hxs
        go_wp2_with fail
        go_ret2
        rw [HL.out, ← HX.out]
        exact ⟨_, rfl, HR.out, hb⟩
      · have hl := lines_short s h1 h0 hr
        have HL := Lib.hid hl
        clear hl hr
        have hC := fun w => Tryd.strings_CutSuffix s ⟨#[10]⟩ w (by omega)
        have e1 : (⟨#[10]⟩ : ByteArray).data.toList = [10] := rfl
        simp only [e1, hs1, hs2] at hC
        clear hs1 hs2
        go_enter Tryd.func31, Tryd.ntmps31
        go_wp2_with fail
        refine (hC _).mono ?_
        rintro e w' ⟨rfl, rfl⟩
        go_wp2_with fail
        go_ret2
        rw [HL.out]
        exact ⟨_, rfl, Kd.R_nil _ _ _ _ _, Below.refl _ _⟩
end Go.Proofs.YtdgifgdadminbaaDoor
