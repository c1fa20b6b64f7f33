/- A text that is read is at least as long as what its plan is printed as; the laws on texts of layer file, as lists. No program here. Written by this session. -/
import Derived.Test.YtdgifgdadminbaaDoorSl
namespace Go.Proofs.YtdgifgdadminbaaDoor
open Sp Go.Lib

theorem cutAt_sum (c : UInt8) : ∀ l : List UInt8, ((cutAt c l).map fun x => x.length + 1).sum = l.length + 1
  | [] => rfl
  | b :: r => by
    have ih := cutAt_sum c r
    have hn := cutAt_ne c r
    unfold cutAt
    split
    · simp only [List.map_cons, List.sum_cons, ih, List.length_nil, List.length_cons]; omega
    · revert ih hn
      cases cutAt c r with
      | nil => intro _ h; exact absurd rfl h
      | cons x xs =>
        intro ih _
        simp only [List.map_cons, List.sum_cons, List.length_cons] at ih ⊢
        omega
def bulk (ls : List ByteArray) : Nat := (ls.map fun x => x.size + 1).sum
theorem bulk_mk (ls : List (List UInt8)) : bulk (ls.map mk) = (ls.map fun x => x.length + 1).sum := by
  unfold bulk
  rw [List.map_map]
  refine congrArg List.sum (List.map_congr_left fun x _ => ?_)
  show (mk x).size + 1 = x.length + 1
  rw [mk_size]
theorem linesS_inv {s : ByteArray} {ls : List ByteArray} (h : linesS s = (ls, 0)) : s.size ≤ 1048576 ∧ bulk ls = s.size := by
  unfold linesS at h
  split at h
  · cases h
  · rename_i h1
    refine ⟨by omega, ?_⟩
    split at h
    · rename_i h2
      cases h
      rw [bulk_mk]
      have h3 := cutAt_sum 10 s.data.toList
      obtain ⟨r, hr⟩ : ∃ r, cutAt 10 s.data.toList = r ++ [[]] := List.getLast?_eq_some_iff.1 h2
      rw [hr] at h3 ⊢
      rw [List.dropLast_concat]
      rw [List.map_append, List.sum_append] at h3
      simp only [List.map_cons, List.map_nil, List.sum_cons, List.sum_nil, List.length_nil] at h3
      have : s.data.toList.length = s.size := (size_eq s).symm
      omega
    · cases h
theorem nextS_inv {lines : List ByteArray} {i : Nat} {a : List UInt8} {ws : List ByteArray} (h : nextS lines i (mk a) = .ok ws) :
    ∃ l, lines[i]? = some l ∧ l.size = a.length + bulk ws ∧ ws.length ≤ 4096 := by
  unfold nextS at h
  split at h
  · cases h
  · rename_i l hl
    split at h
    · cases h
    · rename_i h1
      split at h
      · cases h
      · rename_i h2
        cases h
        refine ⟨l, hl, ?_, by rw [List.length_tail]; omega⟩
        have e : (wordsS l).1 = mk a :: (wordsS l).1.tail := by
          revert h1
          cases (wordsS l).1 with
          | nil => simp
          | cons x xs =>
            intro h1
            have : x = mk a := by
              by_cases hx : x = mk a
              · exact hx
              · exact absurd (Or.inr (Or.inr (by simpa using hx))) h1
            rw [this]
            rfl
        have hc : (wordsS l).1 = (cutAt 32 l.data.toList).map mk := by
          unfold wordsS at h1 ⊢
          split
          · rename_i h0
            simp [h0] at h1
          · rename_i h0
            rw [if_neg h0] at h1
            split
            · rfl
            · rename_i h3
              rw [if_neg h3] at h1
              simp at h1
        have hs := cutAt_sum 32 l.data.toList
        rw [← bulk_mk, ← hc, e] at hs
        unfold bulk at hs ⊢
        rw [List.map_cons, List.sum_cons, mk_size] at hs
        have : l.data.toList.length = l.size := (size_eq l).symm
        omega

theorem digits_short (l : List UInt8) : ∀ n : Nat, (∀ b ∈ l, isD b = true) → l.foldl (fun n b => n * 10 + (b.toNat - 48)) n < (n + 1) * 10 ^ l.length := by
  induction l with
  | nil => intro n _; simp
  | cons b l ih =>
    intro n h
    have hb := h b (by simp)
    simp only [isD, Bool.and_eq_true, decide_eq_true_eq] at hb
    have := ih (n * 10 + (b.toNat - 48)) (fun x hx => h x (by simp [hx]))
    simp only [List.foldl_cons, List.length_cons]
    refine Nat.lt_of_lt_of_le this ?_
    rw [Nat.pow_succ, Nat.mul_comm (10 ^ l.length) 10, ← Nat.mul_assoc]
    exact Nat.mul_le_mul_right _ (by omega)
theorem val_short {l : List UInt8} (h : ∀ b ∈ l, isD b = true) (hp : 1 ≤ l.length) : (decDigits (val l)).length ≤ l.length := by
  rw [decDigits_length]
  have h1 := digits_short l 0 h
  obtain ⟨k, hk⟩ : ∃ k, l.length = k + 1 := ⟨l.length - 1, by omega⟩
  rw [hk] at h1 ⊢
  exact nDigits_le k _ (by simpa [val] using h1)
/-- What is read as a number that is not negative is at least as long as its numeral. -/
theorem readL_inv {l : List UInt8} {n : Int} (h : readL l = (n, 0)) (h0 : 0 ≤ n) : Ok n ∧ (itoa n).length ≤ l.length := by
  unfold readL at h
  have key : ∀ r : List UInt8, ∀ v : Int, r.all isD = true → 1 ≤ r.length → v.natAbs = val r → r.length ≤ l.length → (if v < -1099511627776 ∨ 1099511627776 < v then ((0 : Int), (23 : Int)) else (v, 0)) = (n, 0) → Ok n ∧ (itoa n).length ≤ l.length := by
    intro r v h1 h2 h3 h4 h5
    split at h5
    · cases h5
    · rename_i hb
      have e : v = n := congrArg Prod.fst h5
      subst e
      have hok : Ok v := ⟨h0, by omega⟩
      refine ⟨hok, ?_⟩
      rw [itoa_ok hok, show v.toNat = v.natAbs by omega, h3]
      exact Nat.le_trans (val_short (List.all_eq_true.1 h1) h2) h4
  by_cases hneg : (l.head? == some 45) = true
  · rw [hneg] at h
    simp only [if_true] at h
    split at h
    · rename_i hd
      simp only [Bool.and_eq_true, decide_eq_true_eq] at hd
      have : l.tail.length ≤ l.length := by rw [List.length_tail]; omega
      exact key _ _ hd.1.1 hd.1.2 (by omega) this h
    · cases h
  · rw [Bool.not_eq_true] at hneg
    rw [hneg] at h
    simp only [Bool.false_eq_true, if_false] at h
    split at h
    · rename_i hd
      simp only [Bool.and_eq_true, decide_eq_true_eq] at hd
      exact key _ _ hd.1.1 hd.1.2 (by omega) (Nat.le_refl _) h
    · cases h
theorem ba_length (s : ByteArray) : s.data.toList.length = s.size := (size_eq s).symm
theorem wholeS_inv {s : ByteArray} (h : (wholeS s).2 = 0) : Ok (wholeS s).1 ∧ (itoa (wholeS s).1).length ≤ s.size := by
  have h0 := wholeS_sign s h
  rw [← ba_length]
  unfold wholeS wholeL at h h0 ⊢
  split
  · rename_i hc
    rw [if_pos hc] at h
    cases h
  · rename_i hc
    rw [if_neg hc] at h h0
    exact readL_inv (by rw [← h]) h0
theorem longS_inv {s : ByteArray} (h : (longS s).2 = 0) : Ok (longS s).1 ∧ (itoa (longS s).1).length ≤ s.size := by
  rw [← ba_length]
  unfold longS at h ⊢
  split
  · rename_i hc
    rw [if_pos hc] at h
    cases h
  · rename_i hc
    rw [if_neg hc] at h
    exact readL_inv (l := s.data.toList) (by rw [← h]; rfl) (by omega)
theorem readAll_inv {f : ByteArray → Int × Int} {ws : List ByteArray} {ns : List Int} (hf : ∀ s, (f s).2 = 0 → Ok (f s).1 ∧ (itoa (f s).1).length ≤ s.size) (h : readAll f ws = .ok ns) :
    ns.length = ws.length ∧ (∀ n ∈ ns, Ok n) ∧ ((ns.map itoa).map fun x => x.length + 1).sum ≤ bulk ws := by
  unfold readAll at h
  split at h
  · cases h
  · rename_i hn
    cases h
    have hall : ∀ x ∈ ws, (f x).2 = 0 := by
      intro x hx
      have := List.find?_eq_none.1 hn x hx
      simpa using this
    clear hn
    refine ⟨by rw [List.length_map], ?_, ?_⟩
    · intro n hn
      obtain ⟨x, hx, rfl⟩ := List.mem_map.1 hn
      exact (hf x (hall x hx)).1
    · unfold bulk
      induction ws with
      | nil => exact Nat.le_refl _
      | cons x ws ih =>
        have h1 := (hf x (hall x (by simp))).2
        have h2 := ih (fun y hy => hall y (by simp [hy]))
        simp only [List.map_cons, List.sum_cons]
        omega
theorem lineB_length (a : List UInt8) (ws : List (List UInt8)) : (lineB a ws).length = a.length + (ws.map fun x => x.length + 1).sum := by
  unfold lineB
  rw [List.length_append]
  congr 1
  induction ws with
  | nil => rfl
  | cons w ws ih => simp only [List.flatMap_cons, List.length_append, List.map_cons, List.sum_cons, List.length_cons, ih]

/-- What a line that is read gives, and how long it is. -/
def Fits (lines : List ByteArray) (i : Nat) (a : List UInt8) (ns : List Int) : Prop := ∃ l, lines[i]? = some l ∧ (lineW a ns).length ≤ l.size
theorem fits_of {lines : List ByteArray} {i : Nat} {a : List UInt8} {ws : List ByteArray} {ns : List Int} {f : ByteArray → Int × Int} (hf : ∀ s, (f s).2 = 0 → Ok (f s).1 ∧ (itoa (f s).1).length ≤ s.size)
    (h1 : nextS lines i (mk a) = .ok ws) (h2 : readAll f ws = .ok ns) : Fits lines i a ns ∧ ns.length = ws.length ∧ ns.length ≤ 4096 ∧ ∀ n ∈ ns, Ok n := by
  obtain ⟨l, hl, hs, hm⟩ := nextS_inv h1
  obtain ⟨g1, g2, g3⟩ := readAll_inv hf h2
  refine ⟨⟨l, hl, ?_⟩, g1, by omega, g2⟩
  unfold lineW
  rw [lineB_length, hs]
  omega
theorem routeS_inv {lines : List ByteArray} {i : Nat} {x : List Int × List Int} (h : routeS lines i = .ok x) :
    Fits lines i bRoute x.1 ∧ Fits lines (i + 1) bTimes x.2 ∧ x.1 ≠ [] ∧ (x.2.length = x.1.length ∨ x.2 = []) ∧ x.1.length ≤ 4096 ∧ (∀ n ∈ x.1, Ok n) ∧ ∀ n ∈ x.2, Ok n := by
  unfold routeS at h
  split at h
  · cases h
  · rename_i ws hws
    split at h
    · cases h
    · rename_i hne
      split at h
      · cases h
      · rename_i row hrow
        split at h
        · cases h
        · rename_i more hmore
          split at h
          · cases h
          · rename_i hlen
            split at h
            · cases h
            · rename_i ts hts
              cases h
              obtain ⟨a1, a2, a3, a4⟩ := fits_of (fun s => wholeS_inv) (a := bRoute) hws hrow
              obtain ⟨b1, b2, b3, b4⟩ := fits_of (fun s => longS_inv) (a := bTimes) hmore hts
              refine ⟨a1, b1, ?_, ?_, a3, a4, b4⟩
              · intro e
                dsimp only at e
                rw [e] at a2
                exact hne (List.length_eq_zero_iff.1 a2.symm)
              · dsimp only
                rw [← List.length_eq_zero_iff]
                omega
theorem routesS_inv {lines : List ByteArray} : ∀ (k : Nat) (x : List (List Int) × List (List Int)), routesS lines k = .ok x → x.1.length = k ∧ x.2.length = k ∧ ∀ j y, (x.1.zip x.2)[j]? = some y → routeS lines (1 + 2 * j) = .ok y
  | 0, x, h => by
    cases h
    exact ⟨rfl, rfl, fun j y hy => by simp at hy⟩
  | k + 1, x, h => by
    unfold routesS at h
    split at h
    · cases h
    · rename_i z hz
      split at h
      · cases h
      · rename_i y hy
        cases h
        obtain ⟨l1, l2, hj⟩ := routesS_inv k z hz
        refine ⟨by simp [l1], by simp [l2], fun j q hq => ?_⟩
        dsimp only at hq
        rw [List.zip_append (by omega)] at hq
        by_cases hjk : j < k
        · rw [List.getElem?_append_left (by rw [List.length_zip]; omega)] at hq
          exact hj j q hq
        · rw [List.getElem?_append_right (by rw [List.length_zip]; omega), List.length_zip] at hq
          have e : j - min z.1.length z.2.length = 0 := by
            have := (List.getElem?_eq_some_iff.1 hq).1
            simp at this
            omega
          rw [e] at hq
          cases hq
          have : j = k := by omega
          rw [this]
          exact hy

set_option maxHeartbeats 1000000 in
/-- Each line of what is printed is at most as long as the line that was read. -/
theorem planS_inv {lines : List ByteArray} {p : Pl} (h : planS lines = .ok p) : Good p ∧ lines.length = 2 + 2 * p.routes.length ∧ ∀ (j : Nat) (l : List UInt8), (linesP p)[j]? = some l → ∃ x : ByteArray, lines[j]? = some x ∧ l.length ≤ x.size := by
  unfold planS at h
  split at h
  · cases h
  · rename_i ws hws
    split at h
    · rename_i a b
      split at h
      · cases h
      · rename_i ha
        split at h
        · cases h
        · rename_i hb
          split at h
          · cases h
          · rename_i hm
            split at h
            · cases h
            · rename_i x hx
              split at h
              · cases h
              · rename_i ls hls
                split at h
                · cases h
                · rename_i left hleft
                  split at h
                  · cases h
                  · rename_i hlen
                    cases h
                    have ha' : (wholeS a).2 = 0 := by omega
                    have hb' : (longS b).2 = 0 := by omega
                    obtain ⟨oa, la⟩ := wholeS_inv ha'
                    obtain ⟨ob, lb⟩ := longS_inv hb'
                    obtain ⟨f1, f2, f3, f4⟩ := fits_of (fun s => wholeS_inv) (a := bLeft) hls hleft
                    obtain ⟨l0, hl0, hs0, _⟩ := nextS_inv (a := bPlan) hws
                    obtain ⟨r1, r2, r3⟩ := routesS_inv _ _ hx
                    obtain ⟨m, hmm⟩ : ∃ m, (wholeS a).1.toNat = m := ⟨_, rfl⟩
                    have hma : (wholeS a).1 = (m : Int) := by have := oa.1; omega
                    have hrow : ∀ y ∈ x.1.zip x.2, ∃ j, routeS lines (1 + 2 * j) = .ok y := by
                      intro y hy
                      obtain ⟨j, hj⟩ := List.getElem?_of_mem hy
                      exact ⟨j, r3 j y hj⟩
                    have hr1 : ∀ r ∈ x.1, ∃ t, (r, t) ∈ x.1.zip x.2 := by
                      intro r hr
                      have : r ∈ (x.1.zip x.2).map Prod.fst := by rw [List.map_fst_zip (by omega)]; exact hr
                      obtain ⟨⟨r', t⟩, hy, e⟩ := List.mem_map.1 this
                      cases e
                      exact ⟨t, hy⟩
                    have hr2 : ∀ t ∈ x.2, ∃ r, (r, t) ∈ x.1.zip x.2 := by
                      intro t ht
                      have : t ∈ (x.1.zip x.2).map Prod.snd := by rw [List.map_snd_zip (by omega)]; exact ht
                      obtain ⟨⟨r, t'⟩, hy, e⟩ := List.mem_map.1 this
                      cases e
                      exact ⟨r, hy⟩
                    have hg : Good ⟨x.1, x.2, left, (longS b).1⟩ := by
                      refine ⟨by show x.1.length ≤ 64; omega, f3, ?_, by show x.2.length = x.1.length; omega, ?_, ?_, ?_, f4, ob⟩
                      · intro r hr
                        obtain ⟨t, ht⟩ := hr1 r hr
                        obtain ⟨j, hj⟩ := hrow _ ht
                        exact (routeS_inv hj).2.2.2.2.1
                      · intro y hy
                        obtain ⟨j, hj⟩ := hrow y hy
                        exact ⟨(routeS_inv hj).2.2.1, (routeS_inv hj).2.2.2.1⟩
                      · intro r hr
                        obtain ⟨t, ht⟩ := hr1 r hr
                        obtain ⟨j, hj⟩ := hrow _ ht
                        exact (routeS_inv hj).2.2.2.2.2.1
                      · intro t ht
                        obtain ⟨r, hr⟩ := hr2 t ht
                        obtain ⟨j, hj⟩ := hrow _ hr
                        exact (routeS_inv hj).2.2.2.2.2.2
                    have hlast : lines.length = 2 + 2 * m := by
                      obtain ⟨l, hl, _⟩ := f1
                      have := (List.getElem?_eq_some_iff.1 hl).1
                      omega
                    refine ⟨hg, by rw [hlast]; show 2 + 2 * m = 2 + 2 * x.1.length; omega, ?_⟩
                    intro j l hj
                    have hjl : j < 2 + 2 * x.1.length := by
                      have := (List.getElem?_eq_some_iff.1 hj).1
                      rw [linesP_length hg] at this
                      exact this
                    by_cases j0 : j = 0
                    · subst j0
                      rw [linesP_zero] at hj
                      cases hj
                      refine ⟨l0, hl0, ?_⟩
                      unfold lineW
                      rw [lineB_length, hs0]
                      have e1 : ((x.1.length : Nat) : Int) = (wholeS a).1 := by rw [hma]; omega
                      simp only [e1, bulk, List.map_cons, List.map_nil, List.sum_cons, List.sum_nil]
                      omega
                    · by_cases jl : j = 1 + 2 * x.1.length
                      · subst jl
                        have hq := linesP_left hg
                        dsimp only at hq
                        rw [hq] at hj
                        cases hj
                        rw [r1]
                        exact f1
                      · obtain ⟨k, hk⟩ : ∃ k, k = (j - 1) / 2 := ⟨_, rfl⟩
                        have hpl := hg.pairs_len
                        dsimp only at hpl
                        obtain ⟨e1, e2⟩ := linesP_route hg (k := k) (by rw [hpl]; omega)
                        have hrk := routeS_inv (r3 k _ (List.getElem?_eq_getElem (l := x.1.zip x.2) (i := k) (by
                          have : (x.1.zip x.2).length = x.1.length := hpl
                          omega)))
                        rcases (show j = 1 + 2 * k ∨ j = 1 + 2 * k + 1 by omega) with rfl | rfl
                        · rw [e1] at hj
                          cases hj
                          exact hrk.1
                        · rw [e2] at hj
                          cases hj
                          exact hrk.2.1
    · cases h

theorem joinL_length (ls : List (List UInt8)) : (joinL ls).length = (ls.map fun x => x.length + 1).sum := by
  induction ls with
  | nil => rfl
  | cons l ls ih => rw [joinL_cons, List.length_append, List.length_cons, ih, List.map_cons, List.sum_cons]; omega
theorem sum_le : ∀ (as : List (List UInt8)) (bs : List ByteArray), as.length ≤ bs.length → (∀ (j : Nat) (l : List UInt8), as[j]? = some l → ∃ x : ByteArray, bs[j]? = some x ∧ l.length ≤ x.size) → (as.map fun x => x.length + 1).sum ≤ bulk bs
  | [], bs, _, _ => by simp
  | a :: as, [], h, _ => by simp at h
  | a :: as, b :: bs, h, hf => by
    obtain ⟨x, hx, hl⟩ := hf 0 a rfl
    cases hx
    have := sum_le as bs (by simpa using h) (fun j l hj => hf (j + 1) l (by simpa using hj))
    unfold bulk at this ⊢
    simp only [List.map_cons, List.sum_cons]
    omega

/-- What Parse answers: the plan, an error's line and number. -/
def parseS (s : ByteArray) : Except (Int × Int) Pl := if (linesS s).2 ≠ 0 then .error (0, (linesS s).2) else planS (linesS s).1
theorem parseS_inv {s : ByteArray} {p : Pl} (h : parseS s = .ok p) : Good p ∧ (textP p).length ≤ s.size := by
  unfold parseS at h
  split at h
  · cases h
  · rename_i h0
    have hl := linesS_inv (s := s) (ls := (linesS s).1) (by rw [← Decidable.not_not.1 h0])
    obtain ⟨h1, h2, h3⟩ := planS_inv h
    refine ⟨h1, ?_⟩
    unfold textP
    rw [joinL_length, ← hl.2]
    exact sum_le _ _ (by rw [h2, linesP_length h1]; exact Nat.le_refl _) h3

theorem lineW_free {a : List UInt8} {ns : List Int} (ha : Wd a) (h : ∀ n ∈ ns, Ok n) : (10 : UInt8) ∉ lineW a ns := lineB_free10 a _ ha (itoas_wd h)
theorem linesP_free {p : Pl} (hg : Good p) : ∀ l ∈ linesP p, (10 : UInt8) ∉ l := by
  intro l hl
  unfold linesP at hl
  rcases List.mem_cons.1 hl with rfl | hl
  · refine lineW_free wd_plan ?_
    intro n hn
    rcases List.mem_cons.1 hn with rfl | hn
    · exact hg.cars_ok
    · rw [List.mem_singleton.1 hn]; exact hg.c
  · rcases List.mem_append.1 hl with hl | hl
    · unfold two at hl
      obtain ⟨x, hx, hl⟩ := List.mem_flatMap.1 hl
      obtain ⟨m1, m2⟩ := Good.mem_pairs hx
      rcases List.mem_cons.1 hl with rfl | hl
      · exact lineW_free wd_route (hg.r _ m1)
      · rw [List.mem_singleton.1 hl]
        exact lineW_free wd_times (hg.t _ m2)
    · rw [List.mem_singleton.1 hl]
      exact lineW_free wd_left hg.l
theorem parseS_join {ls : List (List UInt8)} (h : ∀ l ∈ ls, (10 : UInt8) ∉ l) (hs : (joinL ls).length ≤ 1048576) : parseS (mk (joinL ls)) = planS (ls.map mk) := by
  unfold parseS
  rw [linesS_join ls h hs, if_neg (by simp)]
/-- What is printed is read as it. -/
theorem parse_text {p : Pl} (hg : Good p) (hs : (textP p).length ≤ 1048576) : parseS (mk (textP p)) = .ok p := by
  unfold textP at hs ⊢
  rw [parseS_join (linesP_free hg) hs, planS_all hg (fun j _ => by rw [List.getElem?_map]), if_neg]
  rw [List.length_map, linesP_length hg]
  omega
/-- The last line left out. -/
theorem parse_short {p : Pl} (hg : Good p) (hs : (textP p).length ≤ 1048576) : parseS (mk (joinL (linesP p).dropLast)) = .error (2 + 2 * (p.routes.length : Int), 20) := by
  have hd : (joinL (linesP p).dropLast).length ≤ 1048576 := by
    refine Nat.le_trans ?_ hs
    unfold textP
    have h1 : linesP p = (linesP p).dropLast ++ [(linesP p).getLast (by unfold linesP; simp)] := (List.dropLast_concat_getLast _).symm
    conv => rhs; rw [h1]
    rw [joinL_append, List.length_append]
    omega
  have hlen := linesP_length hg
  rw [parseS_join (fun l hl => linesP_free hg l (List.dropLast_subset _ hl)) hd]
  refine planS_short hg (fun j hj => ?_) ?_
  · rw [List.getElem?_map, List.getElem?_dropLast, if_pos (by omega)]
  · refine List.getElem?_eq_none ?_
    rw [List.length_map, List.length_dropLast]
    omega
/-- A line more. -/
theorem parse_more {p : Pl} (hg : Good p) (hs : (textP p).length ≤ 1048500) : parseS (mk (textP p ++ [108, 101, 102, 116, 10])) = .error (3 + 2 * (p.routes.length : Int), 22) := by
  have e : textP p ++ [108, 101, 102, 116, 10] = joinL (linesP p ++ [bLeft]) := by
    rw [joinL_append]
    rfl
  have hlen := linesP_length hg
  rw [e, parseS_join, planS_all hg, if_pos]
  · simp only [List.length_map, List.length_append, List.length_cons, List.length_nil]; omega
  · intro j hj
    rw [List.getElem?_map, List.getElem?_append_left (by omega)]
  · intro l hl
    rcases List.mem_append.1 hl with hl | hl
    · exact linesP_free hg l hl
    · rw [List.mem_singleton.1 hl]; decide
  · rw [← e, List.length_append]
    simp only [List.length_cons, List.length_nil]
    omega
/-- A blank ahead of line i. -/
theorem parse_blank {p : Pl} (hg : Good p) (hs : (textP p).length ≤ 1048500) {i : Nat} (hi : i < 2 + 2 * p.routes.length) {a b : List (List UInt8)} {l : List UInt8} (e : linesP p = a ++ l :: b) (ha : a.length = i) :
    parseS (mk (joinL a ++ 32 :: joinL (l :: b))) = .error ((i : Int) + 1, 21) := by
  have e2 : joinL a ++ 32 :: joinL (l :: b) = joinL (a ++ (32 :: l) :: b) := by
    rw [joinL_append, joinL_cons, joinL_cons]
    rfl
  have hf := linesP_free hg
  rw [e] at hf
  rw [e2, parseS_join]
  · refine planS_blank hg (l := l) (fun j hj => ?_) hi ?_
    · rw [List.getElem?_map, e, List.getElem?_append_left (by omega), List.getElem?_append_left (by omega)]
    · rw [List.getElem?_map, List.getElem?_append_right (by omega), ha, Nat.sub_self]
      rfl
  · intro q hq
    rcases List.mem_append.1 hq with hq | hq
    · exact hf q (by simp [hq])
    · rcases List.mem_cons.1 hq with rfl | hq
      · intro hm
        rcases List.mem_cons.1 hm with h | h
        · exact absurd h (by decide)
        · exact hf l (by simp) h
      · exact hf q (by simp [hq])
  · have e3 : (joinL (a ++ (32 :: l) :: b)).length = (textP p).length + 1 := by
      unfold textP
      rw [e, joinL_append, joinL_append, joinL_cons, joinL_cons]
      simp only [List.length_append, List.length_cons]
      omega
    omega
theorem text_inj {p q : Pl} (hp : Good p) (hq : Good q) (hs : (textP p).length ≤ 1048576) (h : textP p = textP q) : p = q := by
  have h1 := parse_text hp hs
  have h2 := parse_text hq (by rw [← h]; exact hs)
  rw [h, h2] at h1
  cases h1
  rfl
end Go.Proofs.YtdgifgdadminbaaDoor
