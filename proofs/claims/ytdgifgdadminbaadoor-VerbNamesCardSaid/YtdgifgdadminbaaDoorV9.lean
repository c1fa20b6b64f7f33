/- The document's Print of commands. Written by v9.py of this session. -/
import Derived.Test.YtdgifgdadminbaaDoorV8
set_option linter.unusedSimpArgs false
set_option linter.unusedVariables false
set_option maxRecDepth 100000
namespace Go.Proofs.YtdgifgdadminbaaDoor
open Go.RowKit Go.Proofs.YtdgifgdadminbaaDoorW.PrintWords Sp
open PFileParses (wrap_id ba_len bt_nat toList_data info3 info2 info9)

theorem cells105 {w w' : World} {b : Nat} {v0 v1 v2 v3 v4 v5 : Value} (h : w.heap[b]? = some (.cells #[v0, v1, v2, v3, v4, v5] 105 (0, 0))) (hb : Below w.heap.size w w') :
    w'.cell? ⟨b, 0, none⟩ = some v0 ∧ w'.cell? ⟨b, 1, none⟩ = some v1 ∧ w'.cell? ⟨b, 2, none⟩ = some v2 ∧ w'.cell? ⟨b, 3, none⟩ = some v3 ∧ w'.cell? ⟨b, 4, none⟩ = some v4 ∧ w'.cell? ⟨b, 5, none⟩ = some v5 := by
  have hlt : b < w.heap.size := by
    rcases Nat.lt_or_ge b w.heap.size with g | g
    · exact g
    · rw [Array.getElem?_eq_none g] at h; cases h
  have h := (hb.block b hlt).trans h
  exact ⟨cell_of_heap h 0 rfl, cell_of_heap h 1 rfl, cell_of_heap h 2 rfl, cell_of_heap h 3 rfl, cell_of_heap h 4 rfl, cell_of_heap h 5 rfl⟩
theorem ba_eq {a b : ByteArray} (h : a.data.toList = b.data.toList) : a = b := by rw [← mk_data a, ← mk_data b, h]
theorem rd_T105_at (xs : List Cmd) (i : Nat) (h : i < xs.length) : PVerbPrints.rd_T105 (xs.map to105) (i : Int) = to105 (xs[i]'h) := by
  unfold PVerbPrints.rd_T105
  rw [Int.toNat_natCast, List.getD_eq_getElem?_getD, List.getElem?_map, List.getElem?_eq_getElem h]
  rfl
theorem itoa_size {n : Int} (h : I64 n) : (mk (Lib.itoa n)).size ≤ 20 := by rw [mk_size]; exact itoa_len h
theorem nameB_size (k : Int) : (mk (nameL k)).size ≤ 7 := by rw [mk_size]; exact nameL_len k

set_option maxHeartbeats 16000000 in
theorem refPrintV_c (cs : List Cmd) (A : Option Addr) (cap : Nat) (w : World) (hE : EnvV w) (hC : PVerbPrints.k105.C w A cs.length (cs.map to105)) (hF : ∀ c ∈ cs, Fit c) (hl : cs.length ≤ 1000000) :
    Calls Tryd.prog 23 #[.slice A cs.length cap] w fun e w' => printVQ cs w e w' := by
  have h3 := hE.size
  have HE := Lib.hid hE
  have HC := Lib.hid hC
  have HF := Lib.hid hF
  clear hE hC hF
  go_enter Tryd.func23, Tryd.ntmps23
  go_wp2_with fail
  go_loopw [4, 5] (fun o i wr => ∃ k : Nat, k ≤ cs.length ∧ i = .int .i64 k ∧ o = .string (mk ((cs.take k).flatMap textV)) ∧ (∀ c ∈ cs.take k, checkS c = 0) ∧ Below w.heap.size w wr) (fun _ i _ => cs.length - (intOf i).toNat)
  case atStart => exact ⟨0, Nat.zero_le _, rfl, rfl, by simp, Below.refl _ _⟩
  case round =>
    obtain ⟨k, hk, rfl, rfl, hok, hbe⟩ := hrel
    have HOK := Lib.hid hok
    have HB := Lib.hid hbe
    have hzr := hbe.size
    clear hok hbe
    by_cases hlt : k < cs.length
    · obtain ⟨ad, A4, c4, hAe, q0, q1, q2, q3, q4, q5, hl4, hC4⟩ := PVerbPrints.at_T105 (Kd.C_below HC.out HB.out) k (by omega) (by omega)
      subst hAe
      rw [rd_T105_at cs k hlt] at q0 q1 q2 q3 q4 q5 hl4 hC4
      rw [Int.toNat_natCast] at q0 q1 q2 q3 q4 q5
      have hFk := HF.out (cs[k]'hlt) (List.getElem_mem hlt)
      have htk : cs.take (k + 1) = cs.take k ++ [cs[k]'hlt] := List.take_succ_eq_append_getElem hlt
      have hbad := printV_bad hlt HOK.out
      obtain ⟨c, hc⟩ : ∃ c, c = cs[k]'hlt := ⟨_, rfl⟩
      rw [← hc] at q0 q1 q2 q3 q4 q5 hl4 hC4 hFk htk hbad
      unfold to105 at q0 q1 q2 q3 q4 q5 hl4 hC4
      dsimp only at q0 q1 q2 q3 q4 q5 hl4 hC4
      obtain ⟨er, her⟩ : ∃ er, er = checkS c := ⟨_, rfl⟩
      have hts := hFk.text
      have htl := texts_len (cs.take k) (fun d hd => HF.out d (List.mem_of_mem_take hd))
      have htk2 := List.length_take_le k cs
      obtain ⟨so, hso⟩ : ∃ so, so = mk ((cs.take k).flatMap textV) := ⟨_, rfl⟩
      have hss : so.size ≤ 4300000000000 := by rw [hso, mk_size]; exact Nat.le_trans htl (by omega)
      rw [← hso]
      have HSO := Lib.hid hso
      have HFK := Lib.hid hFk
      have HTK := Lib.hid htk
      have HBAD := Lib.hid hbad
      have HER := Lib.hid her
      have HC4 := Lib.hid hC4
      clear hFk htk hbad hc her hC4 htl htk2 hso
      go_upto_region 6 with fail
      obtain ⟨W2, hW2⟩ : ∃ W2, W2 = wr.alloc (.cells #[.int .i64 c.f0, .int .i64 c.f1, .int .i64 c.f2, .int .i64 c.f3, .slice A4 c.f4.length c4, .string c.f5] 105) := ⟨_, rfl⟩
      rw [← hW2]
      have hb2 : Below wr.heap.size wr W2 := by rw [hW2]; exact (Below.refl _ _).alloc (Nat.le_refl _) _
      have hn2 : W2.heap[wr.heap.size]? = some (.cells #[.int .i64 c.f0, .int .i64 c.f1, .int .i64 c.f2, .int .i64 c.f3, .slice A4 c.f4.length c4, .string c.f5] 105 (0, 0)) := by rw [hW2]; exact heap_alloc_new wr _
      have hz2 : wr.heap.size < W2.heap.size := by rw [hW2]; simp
      have HN2 := Lib.hid hn2
      have HB2 := Lib.hid (HB.out.trans (hb2.mono hzr))
      obtain ⟨q, hq⟩ := refCheck_f c (by have := HFK.out.len; omega)
      have hch := PVerbPrints.jitneyref27_check.calls q c.f0 c.f1 c.f2 c.f3 A4 c4 c.f4 c.f5 _ W2 (Kd.C_below HC4.out hb2) hl4 hq
      rw [← HER.out] at hch
      have HCH := Lib.hid hch
      have HC42 := Lib.hid (Kd.C_below HC4.out hb2)
      obtain ⟨a0, a1, a2, a3, a4, a5⟩ := cells105 hn2 (Below.refl _ _)
      clear hW2 hb2 hn2 hch hq q0 q1 q2 q3 q4 q5
      go_wp2_with fail
      refine HCH.out.mono ?_
      rintro e w3 ⟨rfl, hb3⟩
      have HB3 := Lib.hid hb3
      have hz3 := hb3.size
      clear a0 a1 a2 a3 a4 a5 hb3 HCH
      by_cases he : er = 0
      · subst he
        have hkn : nameL c.f0 ≠ [] := by
          intro h
          have := HER.out
          unfold checkS at this
          rw [if_pos h] at this
          omega
        have h7 : 1 ≤ c.f0 ∧ c.f0 ≤ 7 := Decidable.byContradiction fun h => hkn ((nameL_nil _).2 h)
        have hok2 : ∀ d ∈ cs.take (k + 1), checkS d = 0 := by
          intro d hd
          rw [HTK.out] at hd
          rcases List.mem_append.1 hd with hd | hd
          · exact HOK.out d hd
          · rw [List.mem_singleton.1 hd, ← HER.out]
        have HOK2 := Lib.hid hok2
        have hnext : ∀ s : ByteArray, s.data.toList = so.data.toList ++ textV c → (Value.string s) = .string (mk ((cs.take (k + 1)).flatMap textV)) := by
          intro s hs
          refine congrArg Value.string (ba_eq ?_)
          rw [hs, data_mk, HTK.out, List.flatMap_append, List.flatMap_singleton, HSO.out, data_mk]
        have HNEXT := Lib.hid hnext
        obtain ⟨a0, a1, a2, a3, a4, a5⟩ := cells105 HN2.out HB3.out
        obtain ⟨nm, hnm⟩ : ∃ nm, nm = mk (nameL c.f0) := ⟨_, rfl⟩
        have hns : nm.size ≤ 7 := by rw [hnm]; exact nameB_size _
        have hnc := PVerbPrints.jitneyref27_Name.calls c.f0 nm w3 (by rw [hnm]; exact refName_f _)
        have HNM := Lib.hid hnm
        have HNC := Lib.hid hnc
        have s1 : (ByteArray.mk #[32]).size = 1 := rfl
        have s2 : (ByteArray.mk #[10]).size = 1 := rfl
        clear hkn hok2 hnext hnm hnc
        go_wp2_with fail
        refine HNC.out.mono ?_
        rintro e w4 ⟨rfl, hb4⟩
        have hb34 := HB3.out.trans (hb4.mono hz3)
        have HB4 := Lib.hid hb34
        have hz4 := hb34.size
        clear hb4 hb34 HNC a0 a1 a2 a3 a4 a5
        obtain ⟨a0, a1, a2, a3, a4, a5⟩ := cells105 HN2.out HB4.out
        by_cases k3 : c.f0 ≤ 3
        · have g3 : decide (c.f0 ≤ 3) = true := decide_eq_true k3
          have g4 : (c.f0 == 4) = false := beq_eq_false_iff_ne.2 (by omega)
          have g5 : (c.f0 == 5) = false := beq_eq_false_iff_ne.2 (by omega)
          have HI := Lib.hid (itoa_c c.f1 w4 HFK.out.n ((HE.out.below HB2.out h3).below HB4.out (by omega)).env)
          obtain ⟨t, ht⟩ : ∃ t, t = mk (Lib.itoa c.f1) := ⟨_, rfl⟩
          have hs1 : t.size ≤ 20 := by rw [ht]; exact itoa_size HFK.out.n
          rw [← ht] at HI
          have HT := Lib.hid ht
          have hargs : argsV c = [Lib.itoa c.f1] := by unfold argsV; rw [if_neg (by omega), if_neg (by omega), if_pos (by omega)]
          have HA := Lib.hid hargs
          clear ht hargs
          go_wp2_with fail
          refine HI.out.mono ?_
          rintro e w5 ⟨rfl, hb5⟩
          have hb45 := HB4.out.trans (hb5.mono hz4)
          have HB5 := Lib.hid hb45
          have hz5 := hb45.size
          clear hb5 hb45 HI a0 a1 a2 a3 a4 a5
          obtain ⟨a0, a1, a2, a3, a4, a5⟩ := cells105 HN2.out HB5.out
          by_cases k1 : c.f0 = 1
          · have g1 : (c.f0 == 1) = true := beq_iff_eq.2 k1
            go_wp2_with fail
            go_roundw
            case rel =>
              refine ⟨k + 1, by omega, by go_num, HNEXT.out _ ?_, HOK2.out, HB2.out.trans (HB5.out.mono HB2.out.size)⟩
              unfold textV lineV
              rw [if_pos k1, HA.out, HT.out, HNM.out]
              simp [cat_list, data_mk, lineB]
            case measure => (simp [intOf]; omega)
          · have g1 : (c.f0 == 1) = false := beq_eq_false_iff_ne.2 k1
            go_wp2_with fail
            go_roundw
            case rel =>
              refine ⟨k + 1, by omega, by go_num, HNEXT.out _ ?_, HOK2.out, HB2.out.trans (HB5.out.mono HB2.out.size)⟩
              unfold textV lineV
              rw [if_neg k1, HA.out, HT.out, HNM.out]
              simp [cat_list, data_mk, lineB]
            case measure => (simp [intOf]; omega)
        · have g3 : decide (c.f0 ≤ 3) = false := decide_eq_false k3
          have g1 : (c.f0 == 1) = false := beq_eq_false_iff_ne.2 (by omega)
          by_cases k4 : c.f0 = 4
          · have g4 : (c.f0 == 4) = true := beq_iff_eq.2 k4
            have g5 : (c.f0 == 5) = false := beq_eq_false_iff_ne.2 (by omega)
            have HI := Lib.hid (format_c c.f3 w4 HFK.out.clock ((HE.out.below HB2.out h3).below HB4.out (by omega)).env)
            obtain ⟨t, ht⟩ : ∃ t, t = mk (Lib.itoa c.f3) := ⟨_, rfl⟩
            have hs1 : t.size ≤ 20 := by rw [ht]; exact itoa_size HFK.out.clock
            rw [← ht] at HI
            have HT := Lib.hid ht
            have hargs : argsV c = [Lib.itoa c.f3] := by unfold argsV; rw [if_pos k4]
            have HA := Lib.hid hargs
            have k1 : ¬ c.f0 = 1 := by omega
            clear ht hargs
            go_wp2_with fail
            refine HI.out.mono ?_
            rintro e w5 ⟨rfl, hb5⟩
            have hb45 := HB4.out.trans (hb5.mono hz4)
            have HB5 := Lib.hid hb45
            have hz5 := hb45.size
            clear hb5 hb45 HI a0 a1 a2 a3 a4 a5
            obtain ⟨a0, a1, a2, a3, a4, a5⟩ := cells105 HN2.out HB5.out
            go_wp2_with fail
            go_roundw
            case rel =>
              refine ⟨k + 1, by omega, by go_num, HNEXT.out _ ?_, HOK2.out, HB2.out.trans (HB5.out.mono HB2.out.size)⟩
              unfold textV lineV
              rw [if_neg k1, HA.out, HT.out, HNM.out]
              simp [cat_list, data_mk, lineB]
            case measure => (simp [intOf]; omega)
          · have g4 : (c.f0 == 4) = false := beq_eq_false_iff_ne.2 k4
            by_cases k5 : c.f0 = 5
            · have g5 : (c.f0 == 5) = true := beq_iff_eq.2 k5
              have HI := Lib.hid (itoa_c c.f1 w4 HFK.out.n ((HE.out.below HB2.out h3).below HB4.out (by omega)).env)
              obtain ⟨t, ht⟩ : ∃ t, t = mk (Lib.itoa c.f1) := ⟨_, rfl⟩
              have hs1 : t.size ≤ 20 := by rw [ht]; exact itoa_size HFK.out.n
              rw [← ht] at HI
              have HT := Lib.hid ht
              have hargs : argsV c = (c.f1 :: c.f2 :: c.f4).map Lib.itoa := by unfold argsV; rw [if_neg k4, if_pos k5]
              have HA := Lib.hid hargs
              have k1 : ¬ c.f0 = 1 := by omega
              clear ht hargs
              go_wp2_with fail
              refine HI.out.mono ?_
              rintro e w5 ⟨rfl, hb5⟩
              have hb45 := HB4.out.trans (hb5.mono hz4)
              have HB5 := Lib.hid hb45
              have hz5 := hb45.size
              clear hb5 hb45 HI a0 a1 a2 a3 a4 a5
              obtain ⟨a0, a1, a2, a3, a4, a5⟩ := cells105 HN2.out HB5.out
              have HI := Lib.hid (itoa_c c.f2 w5 HFK.out.steps ((HE.out.below HB2.out h3).below HB5.out (by omega)).env)
              obtain ⟨t2, ht2⟩ : ∃ t2, t2 = mk (Lib.itoa c.f2) := ⟨_, rfl⟩
              have hs2 : t2.size ≤ 20 := by rw [ht2]; exact itoa_size HFK.out.steps
              rw [← ht2] at HI
              have HT2 := Lib.hid ht2
              clear ht2
              go_wp2_with fail
              refine HI.out.mono ?_
              rintro e w6 ⟨rfl, hb6⟩
              have hb56 := HB5.out.trans (hb6.mono hz5)
              have HB6 := Lib.hid hb56
              have hz6 := hb56.size
              clear hb6 hb56 HI a0 a1 a2 a3 a4 a5
              have hnd := HFK.out.len
              have hlead : so ++ nm ++ ⟨#[32]⟩ ++ t ++ ⟨#[32]⟩ ++ t2 = mk (so.data.toList ++ lineB (nameL c.f0) ((c.f1 :: c.f2 :: c.f4.take 0).map Lib.itoa)) := by
                refine ba_eq ?_
                rw [HT.out, HT2.out, HNM.out]
                simp [cat_list, data_mk, lineB]
              have HLEAD := Lib.hid hlead
              clear hlead
              obtain ⟨a0, a1, a2, a3, a4, a5⟩ := cells105 HN2.out HB6.out
              go_wp2_with fail
              go_loopw [4, 8] (fun o i wx => ∃ j : Nat, j ≤ c.f4.length ∧ i = .int .i64 j ∧ o = .string (mk (so.data.toList ++ lineB (nameL c.f0) ((c.f1 :: c.f2 :: c.f4.take j).map Lib.itoa))) ∧ Below W2.heap.size W2 wx) (fun _ i _ => c.f4.length - (intOf i).toNat)
              case atStart => exact ⟨0, Nat.zero_le _, rfl, by rw [← HLEAD.out], HB6.out⟩
              case round =>
                obtain ⟨j, hj, rfl, rfl, hbx⟩ := hrel
                have HBX := Lib.hid hbx
                have hzx := hbx.size
                clear hbx a0 a1 a2 a3 a4 a5
                obtain ⟨a0, a1, a2, a3, a4, a5⟩ := cells105 HN2.out HBX.out
                obtain ⟨sj, hsj⟩ : ∃ sj, sj = mk (so.data.toList ++ lineB (nameL c.f0) ((c.f1 :: c.f2 :: c.f4.take j).map Lib.itoa)) := ⟨_, rfl⟩
                rw [← hsj]
                have hsjs : sj.size ≤ 4300002200100 := by
                  rw [hsj, mk_size, List.length_append, ba_len, lineB_length]
                  have := nameL_len c.f0
                  have := itoas_len (c.f1 :: c.f2 :: c.f4.take j) (fun n hn => by
                    rcases List.mem_cons.1 hn with rfl | hn
                    · exact HFK.out.n
                    · rcases List.mem_cons.1 hn with rfl | hn
                      · exact HFK.out.steps
                      · exact HFK.out.draws n (List.mem_of_mem_take hn))
                  simp only [List.length_cons, List.length_take] at this
                  omega
                have HSJ := Lib.hid hsj
                clear hsj
                by_cases hjn : j < c.f4.length
                · obtain ⟨ad4, hA4, hc4⟩ := Kd.at_int (Kd.C_below HC42.out HBX.out) j (by omega) (by omega)
                  subst hA4
                  rw [Int.toNat_natCast] at hc4
                  have hrd : rd c.f4 (j : Int) = c.f4[j]'hjn := by
                    unfold rd
                    rw [Int.toNat_natCast, List.getD_eq_getElem?_getD, List.getElem?_eq_getElem hjn]
                    rfl
                  rw [hrd] at hc4
                  have hIj := HFK.out.draws (c.f4[j]'hjn) (List.getElem_mem hjn)
                  have htj : c.f4.take (j + 1) = c.f4.take j ++ [c.f4[j]'hjn] := List.take_succ_eq_append_getElem hjn
                  obtain ⟨n, hn⟩ : ∃ n, n = c.f4[j]'hjn := ⟨_, rfl⟩
                  rw [← hn] at hc4 hIj htj
                  have HI := Lib.hid (itoa_c n _ hIj ((HE.out.below HB2.out h3).below HBX.out (by omega)).env)
                  obtain ⟨t3, ht3⟩ : ∃ t3, t3 = mk (Lib.itoa n) := ⟨_, rfl⟩
                  have hs3 : t3.size ≤ 20 := by rw [ht3]; exact itoa_size hIj
                  rw [← ht3] at HI
                  have HT3 := Lib.hid ht3
                  have HTJ := Lib.hid htj
                  clear hrd hn hIj ht3 htj
                  go_wp2_with fail
                  refine HI.out.mono ?_
                  rintro e w7 ⟨rfl, hb7⟩
                  have HB7 := Lib.hid (HBX.out.trans (hb7.mono hzx))
                  clear hb7 HI hc4
                  go_wp2_with fail
                  go_roundw
                  case rel =>
                    refine ⟨j + 1, by omega, by go_num, congrArg Value.string (ba_eq ?_), HB7.out⟩
                    rw [HSJ.out, HT3.out, HTJ.out, show (c.f1 :: c.f2 :: (c.f4.take j ++ [n])) = (c.f1 :: c.f2 :: c.f4.take j) ++ [n] from rfl, List.map_append, List.map_singleton, lineB_snoc]
                    simp [cat_list, data_mk]
                  case measure => (simp [intOf]; omega)
                · have hje : j = c.f4.length := by omega
                  subst hje
                  go_wp2_with fail
                  go_roundw
                  case rel =>
                    refine ⟨k + 1, by omega, by go_num, HNEXT.out _ ?_, HOK2.out, HB2.out.trans (HBX.out.mono HB2.out.size)⟩
                    unfold textV lineV
                    rw [if_neg k1, HA.out, HSJ.out, List.take_length, cat_list, data_mk, List.append_assoc]
                  case measure => (simp [intOf]; omega)
            · have g5 : (c.f0 == 5) = false := beq_eq_false_iff_ne.2 k5
              have k1 : ¬ c.f0 = 1 := by omega
              have hargs : argsV c = [] := by unfold argsV; rw [if_neg k4, if_neg k5, if_neg (by omega)]
              have HA := Lib.hid hargs
              clear hargs
              go_wp2_with fail
              go_roundw
              case rel =>
                refine ⟨k + 1, by omega, by go_num, HNEXT.out _ ?_, HOK2.out, HB2.out.trans (HB4.out.mono HB2.out.size)⟩
                unfold textV lineV
                rw [if_neg k1, HA.out, HNM.out]
                simp [cat_list, data_mk, lineB]
              case measure => (simp [intOf]; omega)
      · have g1 : (er != 0) = true := bne_iff_ne.2 he
        have hspec : printV cs = ([], er) := by rw [HBAD.out (by rw [← HER.out]; exact he), ← HER.out]
        have HSP := Lib.hid hspec
        clear hspec he
        go_wp2_with fail
        go_ret2
        unfold printVQ
        rw [HSP.out]
        exact ⟨rfl, HB2.out.trans (HB3.out.mono HB2.out.size)⟩
    · have hke : k = cs.length := by omega
      subst hke
      have hok := HOK.out
      rw [List.take_length] at hok
      have hspec := printV_ok hok
      have HSP := Lib.hid hspec
      clear hok hspec
      go_wp2_with fail
      go_ret2
      unfold printVQ
      rw [HSP.out, List.take_length]
      exact ⟨rfl, HB.out⟩
end Go.Proofs.YtdgifgdadminbaaDoor
