/- FileLines: its walk. Written by this session. -/
import Derived.Test.YtdgifgdadminbaaDoorYf
import Derived.Test.YtdgifgdadminbaaDoorS1
import Derived.Laws.BitsLemmas
import Derived.Deep.RegionWith
set_option linter.unusedSimpArgs false
set_option linter.unusedVariables false
set_option maxRecDepth 100000
namespace Go.Proofs.YtdgifgdadminbaaDoor
open Go.RowKit Go.Proofs.YtdgifgdadminbaaDoorW.PrintWords Sp
open PFileParses (wrap_id ba_len toList_data info3 info2 info9 rd_L1 rd_L2 at_L1 at_L2)

theorem and1023 (a : Int) : 0 ≤ Go.bits .and .i64 a 1023 ∧ Go.bits .and .i64 a 1023 ≤ 1023 := by
  have h : Go.bits .and .i64 a 1023 = IntKind.i64.wrap (((BitVec.ofInt 64 a &&& BitVec.ofInt 64 1023).toNat : Nat) : Int) := rfl
  have h2 : (BitVec.ofInt 64 a &&& BitVec.ofInt 64 1023).toNat ≤ 1023 := by
    rw [BitVec.toNat_and]
    exact Nat.le_trans Nat.and_le_right (by decide)
  rw [h, IntKind.wrap_i64]
  omega
structure Few (p : Pl) : Prop where
  r : ∀ r ∈ p.routes, r.length ≤ 60
  t : ∀ r ∈ p.times, r.length ≤ 60
  nr : p.routes.length ≤ 70
  nt : p.times.length ≤ 70
  nl : p.left.length ≤ 60
theorem few_iff (p : Pl) : fewB p = true → Few p := by
  unfold fewB shortB
  simp only [Bool.and_eq_true, List.all_eq_true, decide_eq_true_eq]
  rintro ⟨⟨h1, h2⟩, ⟨h3, h4⟩, h5⟩
  exact ⟨h1, h2, h3, h4, h5⟩
theorem txt_few (p : Pl) (hg : Good p) (hf : Few p) : ∀ k, k ≤ (pairs p).length → (txt p k).length ≤ 100 + 2600 * k
  | 0, _ => by
    rw [txt_zero, List.length_append]
    have := lineW_len (a := bPlan) (ns := [(p.routes.length : Int), p.cost]) (by
      intro n hn
      rcases List.mem_cons.1 hn with rfl | hn
      · exact ok_I64 hg.cars_ok
      · rw [List.mem_singleton.1 hn]; exact ok_I64 hg.c)
    simp only [List.length_cons, List.length_nil, bPlan] at this ⊢
    omega
  | k + 1, h => by
    have ih := txt_few p hg hf k (by omega)
    have hm := List.getElem_mem (l := pairs p) (n := k) (by omega)
    obtain ⟨m1, m2⟩ := Good.mem_pairs hm
    have r1 := lineW_len (a := bRoute) (fun n hn => ok_I64 (hg.r _ m1 n hn))
    have r2 := lineW_len (a := bTimes) (fun n hn => ok_I64 (hg.t _ m2 n hn))
    have l1 := hf.r _ m1
    have l2 := hf.t _ m2
    rw [txt_succ p k (by omega)]
    simp only [List.length_append, List.length_cons, List.length_nil]
    have b1 : bRoute.length = 5 := rfl
    have b2 : bTimes.length = 5 := rfl
    omega
theorem text_few (p : Pl) (hg : Good p) (hf : Few p) : (textP p).length ≤ 1000000 := by
  rw [← txt_all p]
  have h1 := txt_few p hg hf (pairs p).length (Nat.le_refl _)
  have h2 := hg.pairs_len
  have h3 := hg.cars
  have h4 := lineW_len (a := bLeft) (fun n hn => ok_I64 (hg.l n hn))
  have h5 := hf.nl
  have b1 : bLeft.length = 4 := rfl
  simp only [List.length_append, List.length_cons, List.length_nil]
  omega
theorem byte_eq {s : ByteArray} {k : Nat} {h : k < s.size} {h' : k < s.data.toList.length} (hb : (((s[k]'h).toNat : Int) == 10) = true) : s.data.toList[k]'h' = 10 := by
  have h1 : (((s[k]'h).toNat : Int)) = 10 := by simpa using hb
  have h2 : (s.data.toList[k]'h').toNat = 10 := by
    have : (s.data.toList[k]'h').toNat = (s[k]'h).toNat := rfl
    omega
  exact UInt8.toNat_inj.1 h2
theorem byte_ne {s : ByteArray} {k : Nat} {h : k < s.size} {h' : k < s.data.toList.length} (hb : (((s[k]'h).toNat : Int) == 10) = false) : ¬ s.data.toList[k]'h' = 10 := by
  intro e
  have h1 : ¬ (((s[k]'h).toNat : Int)) = 10 := by simpa using hb
  have : (s.data.toList[k]'h').toNat = (s[k]'h).toNat := rfl
  rw [e] at this
  exact h1 (by rw [← this]; rfl)
theorem linesP_ne (p : Pl) : linesP p ≠ [] := by unfold linesP; simp

theorem bcell {W w1 : World} (hb : Below W.heap.size W w1) : (∀ b o, b < W.heap.size → w1.cell? ⟨b, o, none⟩ = W.cell? ⟨b, o, none⟩) ∧ (∀ b o, b < W.heap.size → w1.frozen? ⟨b, o, none⟩ = W.frozen? ⟨b, o, none⟩) :=
  ⟨fun b o h => hb.cell (p := ⟨b, o, none⟩) h, fun b o h => hb.frozen (p := ⟨b, o, none⟩) h⟩
theorem extract_take (s : ByteArray) (j : Nat) : (s.extract 0 j).data.toList = s.data.toList.take j := Lib.extract_from_zero s j
theorem extract_drop (s : ByteArray) (j : Nat) : (s.extract j s.size).data.toList = s.data.toList.drop j := Lib.extract_to_end s j
theorem ba_mk {s : ByteArray} {l : List UInt8} (h : s.data.toList = l) : s = mk l := by rw [← h, mk_data]

set_option maxHeartbeats 8000000 in
theorem fileLines_walk (rv tv lv : Value) (p : Pl) (at0 : Int) (w : World) (hp : PlanAt rv tv lv p w) (hE : Env w) :
    Calls Tryd.prog 4 #[.agg #[rv, tv, lv, .int .i64 p.cost], .int .i64 at0] w fun e w' => e = .returned (.bool true) ∧ Below w.heap.size w w' := by
  obtain ⟨⟨A1, c1, rfl, l1, h1⟩, ⟨A2, c2, rfl, l2, h2⟩, ⟨A3, c3, rfl, l3, h3⟩⟩ := hp
  have hr := h1.2.1
  have ht := h2.2.1
  obtain ⟨W, hW⟩ : ∃ W, W = w.alloc (.cells #[.slice A1 p.routes.length c1, .slice A2 p.times.length c2, .slice A3 p.left.length c3, .int .i64 p.cost] 27) := ⟨_, rfl⟩
  have hB : Below w.heap.size w W := by rw [hW]; exact (Below.refl w.heap.size w).alloc (Nat.le_refl _) _
  have hn : W.heap[w.heap.size]? = some (.cells #[.slice A1 p.routes.length c1, .slice A2 p.times.length c2, .slice A3 p.left.length c3, .int .i64 p.cost] 27 (0, 0)) := by rw [hW]; exact heap_alloc_new w _
  have hsz : w.heap.size < W.heap.size := by rw [hW]; simp
  have hP : PlanAt (.slice A1 p.routes.length c1) (.slice A2 p.times.length c2) (.slice A3 p.left.length c3) p W := ⟨⟨A1, c1, rfl, l1, Kd.C_below h1 hB⟩, ⟨A2, c2, rfl, l2, Kd.C_below h2 hB⟩, ⟨A3, c3, rfl, l3, Kd.C_below h3 hB⟩⟩
  have hEW := hE.below hB hE.size
  have h3s := hE.size
  have hA := alive_c W hEW
  have HA := Lib.hid hA
  have HP := Lib.hid hP
  have HN := Lib.hid hn
  have HB := Lib.hid hB
  have HW := Lib.hid hW
  have HE := Lib.hid hEW
  clear hP hn hB hW hEW hE hA h1 h2 h3
  go_enter Tryd.func4, Tryd.ntmps4
  go_upto_region 1 with fail
  rw [← HW.out]
  go_wp2_with fail
  refine HA.out.mono ?_
  rintro e w1 ⟨rfl, hb1⟩
  have HB1 := Lib.hid hb1
  have hz1 := hb1.size
  obtain ⟨c0, c1', c2', c3'⟩ := box_below HN.out hb1
  have hF := few_c _ _ _ p w1 (HP.out.below hb1) hr ht
  obtain ⟨bF, hbF⟩ : ∃ b, fewB p = b := ⟨_, rfl⟩
  rw [hbF] at hF
  have HF := Lib.hid hF
  have HBF := Lib.hid hbF
  clear hb1 hF hbF hr ht
  go_wp2_with fail
  refine HF.out.mono ?_
  rintro e w2 ⟨rfl, hb2⟩
  have hb12 := HB1.out.trans (hb2.mono hz1)
  have HB2 := Lib.hid hb12
  have hz2 := hb12.size
  clear hb2 hb12 c0 c1' c2' c3' hz1 HF
  cases bF
  · go_wp2_with fail
    go_ret
    exact ⟨rfl, HB.out.trans (HB2.out.mono (by omega))⟩
  · obtain ⟨c0, c1', c2', c3'⟩ := box_below HN.out HB2.out
    have hPr := print_c _ _ _ p w2 (HP.out.below HB2.out) (HE.out.below HB2.out (by omega))
    unfold printQ at hPr
    rcases printS_cases p with ⟨hg, hs⟩ | ⟨hng, hs1, hs2⟩
    · rw [hs] at hPr
      dsimp only at hPr
      have HPr := Lib.hid hPr
      have HG := Lib.hid hg
      clear hPr hg hs
      go_wp2_with fail
      refine HPr.out.mono ?_
      rintro e w3 ⟨rfl, hb3⟩
      have hb13 := HB2.out.trans (hb3.mono hz2)
      have HB3 := Lib.hid hb13
      have hz3 := hb13.size
      clear hb3 hb13 c0 c1' c2' c3' HPr
      have hlen := text_few p HG.out (few_iff p HBF.out)
      have hcnt := joinL_count (linesP p) (linesP_free HG.out)
      rw [linesP_length HG.out] at hcnt
      obtain ⟨s, hs⟩ : ∃ s, s = mk (textP p) := ⟨_, rfl⟩
      have hsl : s.size ≤ 1000000 := by rw [hs, mk_size]; exact hlen
      have hsd : s.data.toList = joinL (linesP p) := by rw [hs, data_mk]; rfl
      rw [← hs]
      have HS := Lib.hid hs
      have HSD := Lib.hid hsd
      have HCN := Lib.hid hcnt
      have hcars := HG.out.cars
      clear hs hsd hlen hcnt
      go_wp2_with fail
      go_loop [7, 8, 30] (fun n _ i => ∃ k : Nat, k ≤ s.size ∧ i = .int .i64 k ∧ n = .int .i64 ((s.data.toList.take k).count 10 : Nat)) (fun _ _ i => s.size - (intOf i).toNat)
      case atStart => exact ⟨0, Nat.zero_le _, rfl, rfl⟩
      case round =>
        obtain ⟨k, hk, rfl, rfl⟩ := hrel
        by_cases hlt : k < s.size
        · have hkl : k < s.data.toList.length := by rw [ba_len]; exact hlt
          have htc := take_count s.data.toList k hkl
          have hcl : (s.data.toList.take k).count 10 ≤ 1000000 := Nat.le_trans List.count_le_length (by rw [List.length_take]; omega)
          have HTC := Lib.hid htc
          clear htc
          go_wp2_with fail
          · have hb := (by assumption : (((s[k]'hlt).toNat : Int) == 10) = true)
            refine ⟨⟨k + 1, by omega, by go_num, ?_⟩, by simp [intOf]; omega⟩
            rw [HTC.out, if_pos (byte_eq hb)]
            go_num
          · have hb := (by assumption : (((s[k]'hlt).toNat : Int) == 10) = false)
            refine ⟨⟨k + 1, by omega, by go_num, ?_⟩, by simp [intOf]; omega⟩
            rw [HTC.out, if_neg (byte_ne hb)]
            go_num
        · have hks : k = s.size := by omega
          have hcn : (s.data.toList.take k).count 10 = 2 + 2 * p.routes.length := by
            rw [hks, List.take_of_length_le (by rw [ba_len]; exact Nat.le_refl _), HSD.out]
            exact HCN.out
          rw [hcn]
          obtain ⟨N, hN⟩ : ∃ N, N = 2 + 2 * p.routes.length := ⟨_, rfl⟩
          rw [← hN]
          have hN2 : 2 ≤ N := by omega
          have hN3 : N ≤ 130 := by omega
          have HNN := Lib.hid hN
          clear hcn hN hks
          obtain ⟨x0, x1⟩ := and1023 at0
          go_wp2_with fail
          obtain ⟨a0, ha0⟩ : ∃ a0 : Nat, Go.bits .and .i64 at0 1023 % (N : Int) = (a0 : Int) := ⟨(Go.bits .and .i64 at0 1023 % (N : Int)).toNat, by
            rw [Int.toNat_of_nonneg (Int.emod_nonneg _ (by omega))]⟩
          have ha1 : a0 < N := by
            have := Int.emod_lt_of_pos (Go.bits .and .i64 at0 1023) (show (0 : Int) < (N : Int) by omega)
            omega
          rw [ha0]
          clear ha0
          have hne := linesP_ne p
          have hll := linesP_length HG.out
          obtain ⟨LS, hLS⟩ : ∃ LS, LS = linesP p := ⟨_, rfl⟩
          have hsd := HSD.out
          rw [← hLS] at hne hll hsd
          have hss : (joinL LS).length = s.size := by rw [← hsd, ba_len]
          have HLS := Lib.hid hLS
          have HLL := Lib.hid hll
          have HSD2 := Lib.hid hsd
          have HSS := Lib.hid hss
          have hstart : ∃ l b, LS = l :: b := by
            cases LS with
            | nil => exact absurd rfl hne
            | cons l b => exact ⟨l, b, rfl⟩
          obtain ⟨l0, b0, hl0⟩ := hstart
          have HL0 := Lib.hid hl0
          clear hLS hll hsd hss hne hl0
          go_loop [9, 10, 46] (fun m _ i => ∃ (j k : Nat) (a : List (List UInt8)) (l : List UInt8) (b : List (List UInt8)) (r r' : List UInt8), Place LS j k a l b r r' ∧ k ≤ a0 ∧ (k = a0 → r = []) ∧ i = .int .i64 j ∧ m = .int .i64 k) (fun _ _ i => s.size - (intOf i).toNat)
          case atStart => exact ⟨0, 0, [], l0, b0, [], l0, by rw [HL0.out]; exact Place.start, Nat.zero_le _, fun _ => rfl, rfl, rfl⟩
          case round =>
            obtain ⟨j, k2, a, l, b, r, r', hpl, hka, hkr, rfl, rfl⟩ := hrel
            have hjl := hpl.lt
            rw [HSS.out] at hjl
            have HPL := Lib.hid hpl
            by_cases hk : k2 = a0
            · subst hk
              have hr0 := hkr rfl
              subst hr0
              obtain ⟨ht1, ht2⟩ := hpl.take_
              have HT1 := Lib.hid ht1
              have HT2 := Lib.hid ht2
              clear ht1 ht2 hkr hpl
              have hj0 : (j : Int) ≤ (s.size : Int) := by omega
              have hS : s.extract 0 j ++ ⟨#[32]⟩ ++ s.extract j s.size = mk (joinL a ++ 32 :: joinL (l :: b)) := by
                refine ba_mk ?_
                rw [cat_list, cat_list, extract_take, extract_drop, HSD2.out, HT1.out, HT2.out, List.append_assoc]
                rfl
              have hk2 : k2 < 2 + 2 * p.routes.length := by rw [← HNN.out]; exact ha1
              have hpe := parse_blank HG.out (by have := text_few p HG.out (few_iff p HBF.out); omega) (i := k2) hk2 (a := a) (b := b) (l := l) (by rw [← HLS.out]; exact HPL.out.all) HPL.out.len
              rw [← hS] at hpe
              have hszS : (s.extract 0 j ++ ⟨#[32]⟩ ++ s.extract j s.size).size < 4294967281 := by
                rw [cat_size, cat_size]
                have e1 : (s.extract 0 j).size ≤ s.size := by simp [ByteArray.size_extract]; omega
                have e2 : (s.extract j s.size).size ≤ s.size := by simp [ByteArray.size_extract]
                have e3 : (ByteArray.mk #[32]).size = 1 := rfl
                omega
              have hPE := fun w' (hb : Below w3.heap.size w3 w') => parse_err hpe w' ((HE.out.below HB3.out (by omega)).below hb (by omega)) hszS
              dsimp only at hPE
              have hPE2 := fun w' (hb : Below w3.heap.size w3 w') => (hPE w' hb).mono (fun e w4 (hh : _ ∧ _) => And.intro hh.1 (And.intro hh.2 (And.intro (box_below HN.out (HB3.out.trans ((hb.trans (hh.2.mono hb.size)).mono hz3))) (Lib.hid (HB.out.trans ((HB3.out.mono (by omega)).trans ((hb.trans (hh.2.mono hb.size)).mono (by omega))))))))
              have HPE := Lib.hid hPE2
              clear hPE2
              clear hS hk2 hpe hszS hPE
              go_upto_region 21 with fail
              go_region_with (go_at_call 12; refine (HPE.out _ ?_).mono ?_; (first | exact (Below.refl _ _).drew | exact ((Below.refl _ _).alloc (Nat.le_refl _) _).drew); rintro e w4 ⟨rfl, hb4, ⟨q0, q1, q2, q3⟩, HF4⟩; obtain ⟨hcl, hfz⟩ := bcell hb4; have hzz := hb4.size; clear hb4)
              all_goals (have hN := HNN.out; have hzz2 : w3.heap.size ≤ w4.heap.size := by (first | exact hzz | (simp at hzz; omega)))
              all_goals have hwz : w.heap.size < w3.heap.size := by omega
              all_goals have hwz4 : w.heap.size < w4.heap.size := by omega
              all_goals clear hcl hfz hzz
              all_goals have hq : ((N : Int) == 2 + 2 * (p.routes.length : Int)) = true := by simp; omega
              all_goals clear hN
              all_goals go_wp2_with fail
              all_goals go_ret
              all_goals refine ⟨rfl, ?_⟩
              all_goals repeat (first | exact HF4.out | refine Below.drew ?_ | refine Below.alloc ?_ (by omega) _ | refine Below.setCell ?_ (by simp; omega) _)
            · have hb : ((k2 : Int) == (a0 : Int)) = false := by simp; omega
              have hk2 : k2 < a0 := by omega
              have hjl' : j < s.data.toList.length := by rw [ba_len]; exact hjl
              have hat := hpl.at_ (by rw [HSS.out]; exact hjl)
              have hat2 : s.data.toList[j]'hjl' = (r' ++ 10 :: joinL b).head (by simp) := by
                rw [← hat]
                congr 1
              cases r' with
              | nil =>
                have hbt : (((s[j]'hjl).toNat : Int) == 10) = true := by
                  have : (s[j]'hjl).toNat = (s.data.toList[j]'hjl').toNat := rfl
                  rw [this, hat2]
                  rfl
                have hall := hpl.all
                have hlen := hpl.len
                have hll2 := HLL.out
                have hNN2 := HNN.out
                obtain ⟨l2, b2, hb2⟩ : ∃ l2 b2, b = l2 :: b2 := by
                  cases b with
                  | nil =>
                    rw [hall, List.length_append] at hll2
                    simp only [List.length_cons, List.length_nil] at hll2
                    omega
                  | cons l2 b2 => exact ⟨l2, b2, rfl⟩
                have hnx := Lib.hid (hpl.next hb2)
                clear hat hat2 hall hlen hll2 hNN2 hb2 hpl hkr
                go_wp2_with fail
                go_round
                case rel => exact ⟨j + 1, k2 + 1, _, _, _, _, _, hnx.out, by omega, fun _ => rfl, by go_num, by go_num⟩
                case measure => simp [intOf]; omega
              | cons c r'' =>
                have hc : c ≠ 10 := by
                  rintro rfl
                  have h10 := linesP_free HG.out l (by rw [← HLS.out, hpl.all]; simp)
                  rw [hpl.cut] at h10
                  exact h10 (by simp)
                have hbt : (((s[j]'hjl).toNat : Int) == 10) = false := by
                  have h1 : (s[j]'hjl).toNat = (s.data.toList[j]'hjl').toNat := rfl
                  have h2 : s.data.toList[j]'hjl' = c := by rw [hat2]; rfl
                  rw [h1, h2]
                  refine beq_eq_false_iff_ne.2 (fun e => hc ?_)
                  refine UInt8.toNat_inj.1 ?_
                  show c.toNat = 10
                  omega
                have hmo := Lib.hid hpl.more
                clear hat hat2 hc hpl hkr
                go_wp2_with fail
                go_round
                case rel => exact ⟨j + 1, k2, _, _, _, _, _, hmo.out, by omega, fun h => by omega, by go_num, rfl⟩
                case measure => simp [intOf]; omega
    · have hs2' : ((printS p).2 != 0) = true := by simpa using hs2
      rw [hs1] at hPr
      have hem : (mk []).toList.isEmpty = true := by rw [toList_data, data_mk]; rfl
      have HPr := Lib.hid hPr
      clear hPr hs1 hs2 hng
      go_wp2_with fail
      refine HPr.out.mono ?_
      rintro e w3 ⟨rfl, hb3⟩
      have HB3 := Lib.hid (HB2.out.trans (hb3.mono hz2))
      clear hb3 c0 c1' c2' c3' HPr
      go_wp2_with fail
      go_ret
      exact ⟨rfl, HB.out.trans (HB3.out.mono (by omega))⟩
end Go.Proofs.YtdgifgdadminbaaDoor
