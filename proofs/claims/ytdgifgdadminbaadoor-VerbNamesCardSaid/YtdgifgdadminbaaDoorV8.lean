/- Layer verb: Print. Written by this session. -/
import Derived.Test.YtdgifgdadminbaaDoorV7
set_option linter.unusedSimpArgs false
set_option linter.unusedVariables false
set_option maxRecDepth 100000
namespace Go.Proofs.YtdgifgdadminbaaDoor
open Go.RowKit Go.Proofs.YtdgifgdadminbaaDoorW.PrintWords Sp
open PFileParses (wrap_id ba_len bt_nat toList_data info3 info2 info9)

/-- A command of a size that is at hand. -/
structure Fit (c : Cmd) : Prop where
  n : I64 c.f1
  steps : I64 c.f2
  clock : I64 c.f3
  draws : ∀ n ∈ c.f4, I64 n
  len : c.f4.length ≤ 100000
  text : c.f5.size ≤ 2000000
theorem nameL_len (k : Int) : (nameL k).length ≤ 7 := by
  by_cases h : nameL k = []
  · rw [h]; simp
  · have h7 : 1 ≤ k ∧ k ≤ 7 := Decidable.byContradiction fun g => h ((nameL_nil _).2 g)
    rcases kind_cases h7.1 h7.2 with rfl | rfl | rfl | rfl | rfl | rfl | rfl <;> decide
theorem itoas_len : ∀ ns : List Int, (∀ n ∈ ns, I64 n) → ((ns.map Lib.itoa).map fun x => x.length + 1).sum ≤ 21 * ns.length
  | [], _ => Nat.le_refl _
  | n :: ns, h => by
    have h1 := itoa_len (h n (by simp))
    have h2 := itoas_len ns (fun m hm => h m (by simp [hm]))
    simp only [List.map_cons, List.sum_cons, List.length_cons]
    omega
theorem lineV_len {c : Cmd} (h : Fit c) : (lineV c).length ≤ 2200000 := by
  have h1 := nameL_len c.f0
  have h5 := h.len
  unfold lineV
  rw [lineB_length]
  have : ((argsV c).map fun x => x.length + 1).sum ≤ 21 * (c.f4.length + 2) := by
    unfold argsV
    split
    · have := itoas_len [c.f3] (fun n hn => by rw [List.mem_singleton.1 hn]; exact h.clock)
      simp only [List.map_cons, List.map_nil, List.length_singleton] at this ⊢
      omega
    · split
      · have := itoas_len (c.f1 :: c.f2 :: c.f4) (fun n hn => by
          rcases List.mem_cons.1 hn with rfl | hn
          · exact h.n
          · rcases List.mem_cons.1 hn with rfl | hn
            · exact h.steps
            · exact h.draws n hn)
        simp only [List.length_cons] at this
        omega
      · split
        · have := itoas_len [c.f1] (fun n hn => by rw [List.mem_singleton.1 hn]; exact h.n)
          simp only [List.map_cons, List.map_nil, List.length_singleton] at this ⊢
          omega
        · simp
  omega
theorem textV_len {c : Cmd} (h : Fit c) : (textV c).length ≤ 4300000 := by
  have h1 := lineV_len h
  have h2 := h.text
  unfold textV
  rw [List.length_append, List.length_cons]
  split
  · rw [ba_len]; omega
  · simp; omega
theorem texts_len : ∀ cs : List Cmd, (∀ c ∈ cs, Fit c) → (cs.flatMap textV).length ≤ 4300000 * cs.length
  | [], _ => Nat.le_refl _
  | c :: cs, h => by
    have h1 := textV_len (h c (by simp))
    have h2 := texts_len cs (fun d hd => h d (by simp [hd]))
    rw [List.flatMap_cons, List.length_append, List.length_cons]
    omega
theorem words_c (c : Cmd) (hk : nameL c.f0 ≠ []) (A : Option Addr) (cap : Nat) (w : World) (hE : EnvV w) (hC : (Kd.int .i64).C w A c.f4.length c.f4) (hF : Fit c) :
    Calls Tryd.prog 57 #[.agg #[.int .i64 c.f0, .int .i64 c.f1, .int .i64 c.f2, .int .i64 c.f3, .slice A c.f4.length cap, .string c.f5]] w fun e w' => wordsQ (nameL c.f0 :: argsV c) w e w' := by
  have h7 : 1 ≤ c.f0 ∧ c.f0 ≤ 7 := Decidable.byContradiction fun h => hk ((nameL_nil _).2 h)
  rcases kind_cases h7.1 h7.2 with h | h | h | h | h | h | h
  · have := words_1 c h A cap w hE hC hF.n hF.steps hF.clock hF.draws hF.len; rw [h] at this ⊢; exact this
  · have := words_2 c h A cap w hE hC hF.n hF.steps hF.clock hF.draws hF.len; rw [h] at this ⊢; exact this
  · have := words_3 c h A cap w hE hC hF.n hF.steps hF.clock hF.draws hF.len; rw [h] at this ⊢; exact this
  · have := words_4 c h A cap w hE hC hF.n hF.steps hF.clock hF.draws hF.len; rw [h] at this ⊢; exact this
  · have := words_5 c h A cap w hE hC hF.n hF.steps hF.clock hF.draws hF.len; rw [h] at this ⊢; exact this
  · have := words_6 c h A cap w hE hC hF.n hF.steps hF.clock hF.draws hF.len; rw [h] at this ⊢; exact this
  · have := words_7 c h A cap w hE hC hF.n hF.steps hF.clock hF.draws hF.len; rw [h] at this ⊢; exact this
theorem joinR_c (l : List (List UInt8)) (hp : 0 < l.length) (hN : l.length ≤ 1000000) (v : Value) (base : Nat) (w : World) (hR : Kd.string.R 9 w base (fun _ => True) v (l.map mk)) (hlen : (Lib.join l [32]).length ≤ 140737488355328) :
    Calls Tryd.prog 56 #[v, .string ⟨#[32]⟩] w fun e w' => e = .returned (.string (mk (Lib.join l [32]))) ∧ Below w.heap.size w w' := by
  obtain ⟨g, cap, rfl, hb, hlt, _⟩ := Kd.R_form hR (by rw [List.length_map]; exact hp)
  obtain ⟨_, hl, hC⟩ := Kd.R_reads' hR
  have hcell : ∀ (j : Nat) x, (l.map mk)[j]? = some x → w.cell? ⟨g, 0 + j, none⟩ = some (.string x) := by
    intro j x hj
    have hjl := (List.getElem?_eq_some_iff.1 hj).1
    obtain ⟨ad, hae, hc⟩ := Kd.at_string hC j (by omega) (by omega)
    obtain rfl := Option.some.inj hae
    rw [Int.toNat_natCast] at hc
    have hrd : rdOf ByteArray.empty (l.map mk) (j : Int) = x := by
      unfold rdOf
      rw [Int.toNat_natCast, List.getD_eq_getElem?_getD, hj]
      rfl
    rw [hrd] at hc
    rw [Nat.zero_add]
    have e2 : (⟨g, 0, none⟩ : Addr).add j = ⟨g, j, none⟩ := by cases j <;> simp [Addr.add]
    rw [e2] at hc
    exact hc
  have hmap : ((l.map mk).map fun x => x.data.toList) = l := by
    rw [List.map_map]
    conv => rhs; rw [← List.map_id l]
    exact List.map_congr_left (fun x _ => data_mk x)
  have hs : (⟨#[32]⟩ : ByteArray).data.toList = [32] := rfl
  by_cases h1 : l.length = 1
  · obtain ⟨x, rfl⟩ : ∃ x, l = [x] := by
      match l, h1 with
      | [x], _ => exact ⟨x, rfl⟩
    have hc0 := hcell 0 (mk x) rfl
    refine (join_one_c g 0 cap (mk x) ⟨#[32]⟩ w hc0).mono ?_
    rintro e w' ⟨he, rfl⟩
    rw [Lib.join_one]
    exact ⟨he, Below.refl _ _⟩
  · have := join_many_c g 0 cap (l.map mk) ⟨#[32]⟩ w hcell hlt (by rw [List.length_map]; omega) (by rw [List.length_map]; omega) hl (by rw [hmap, hs]; exact hlen)
    rw [hmap, hs] at this
    exact this

theorem printV_bad {cs : List Cmd} {k : Nat} (hk : k < cs.length) (h : ∀ c ∈ cs.take k, checkS c = 0) (hb : checkS (cs[k]'hk) ≠ 0) : printV cs = ([], checkS (cs[k]'hk)) := by
  unfold printV
  have : (cs.take k ++ cs.drop k).find? (fun c => decide (checkS c ≠ 0)) = some (cs[k]'hk) := by
    rw [List.find?_append]
    rw [List.find?_eq_none.2 (fun x hx => by simp [h x hx]), Option.none_or, List.drop_eq_getElem_cons hk, List.find?_cons_of_pos (by simpa using hb)]
  rw [List.take_append_drop] at this
  rw [this]
theorem printV_ok {cs : List Cmd} (h : ∀ c ∈ cs, checkS c = 0) : printV cs = (cs.flatMap textV, 0) := by
  unfold printV
  rw [List.find?_eq_none.2 (fun x hx => by simp [h x hx])]
def printVQ (cs : List Cmd) (w : World) (e : Ending) (w' : World) : Prop := e = .returned (.tuple #[.string (mk (printV cs).1), .int .i64 (printV cs).2]) ∧ Below w.heap.size w w'

set_option maxHeartbeats 8000000 in
theorem printV_c (cs : List Cmd) (A : Option Addr) (cap : Nat) (w : World) (hE : EnvV w) (hC : PVerbPrints.k55.C w A cs.length cs) (hF : ∀ c ∈ cs, Fit c) (hl : cs.length ≤ 1000000) :
    Calls Tryd.prog 22 #[.slice A cs.length cap] w fun e w' => printVQ cs w e w' := by
  have h3 := hE.size
  have HE := Lib.hid hE
  have HC := Lib.hid hC
  have HF := Lib.hid hF
  clear hE hC hF
  go_enter Tryd.func22, Tryd.ntmps22
  go_upto_region 2 with fail
  obtain ⟨W, hW⟩ : ∃ W, W = w.alloc (.cells #[.pointer none, .slice none 0 0] 91) := ⟨_, rfl⟩
  rw [← hW]
  have hbW : Below w.heap.size w W := by rw [hW]; exact (Below.refl _ _).alloc (Nat.le_refl _) _
  have hbd : Bld w.heap.size w.heap.size [] W := by
    rw [hW]
    exact .inl ⟨Nat.le_refl _, _, heap_alloc_new w _, World.ownsRow_nil _ _ _ _, by simp [Value.ownBlock]⟩
  have HBW := Lib.hid hbW
  have HBD := Lib.hid hbd
  clear hW hbW hbd
  go_wp2_with fail
  go_loopw [10] (fun i wr => ∃ k : Nat, k ≤ cs.length ∧ i = .int .i64 k ∧ (∀ c ∈ cs.take k, checkS c = 0) ∧ Bld w.heap.size w.heap.size ((cs.take k).flatMap textV) wr ∧ Below w.heap.size w wr) (fun i _ => cs.length - (intOf i).toNat)
  case atStart => exact ⟨0, Nat.zero_le _, rfl, by simp, HBD.out, HBW.out⟩
  case round =>
    obtain ⟨k, hk, rfl, hok, hbd, hbe⟩ := hrel
    have HOK := Lib.hid hok
    have HBr := Lib.hid hbd
    have HB := Lib.hid hbe
    have hzr := hbe.size
    clear hok hbd hbe
    by_cases hlt : k < cs.length
    · obtain ⟨ad, A4, c4, hAe, q0, q1, q2, q3, q4, q5, hl4, hC4⟩ := PVerbPrints.at_T55 (Kd.C_below HC.out HB.out) k (by omega) (by omega)
      subst hAe
      rw [rd_T55_at cs k hlt] at q0 q1 q2 q3 q4 q5 hl4 hC4
      rw [Int.toNat_natCast] at q0 q1 q2 q3 q4 q5
      have hFk := HF.out (cs[k]'hlt) (List.getElem_mem hlt)
      have htk : cs.take (k + 1) = cs.take k ++ [cs[k]'hlt] := List.take_succ_eq_append_getElem hlt
      have hbad := printV_bad hlt HOK.out
      obtain ⟨c, hc⟩ : ∃ c, c = cs[k]'hlt := ⟨_, rfl⟩
      rw [← hc] at q0 q1 q2 q3 q4 q5 hl4 hC4 hFk htk hbad
      obtain ⟨er, her⟩ : ∃ er, er = checkS c := ⟨_, rfl⟩
      have hts := hFk.text
      have HFK := Lib.hid hFk
      have HTK := Lib.hid htk
      have HBAD := Lib.hid hbad
      have HER := Lib.hid her
      have HC4 := Lib.hid hC4
      clear hFk htk hbad hc her hC4
      go_upto_region 5 with fail
      obtain ⟨W2, hW2⟩ : ∃ W2, W2 = wr.alloc (.cells #[.int .i64 c.f0, .int .i64 c.f1, .int .i64 c.f2, .int .i64 c.f3, .slice A4 c.f4.length c4, .string c.f5] 55) := ⟨_, rfl⟩
      rw [← hW2]
      have hb2 : Below wr.heap.size wr W2 := by rw [hW2]; exact (Below.refl _ _).alloc (Nat.le_refl _) _
      have hn2 : W2.heap[wr.heap.size]? = some (.cells #[.int .i64 c.f0, .int .i64 c.f1, .int .i64 c.f2, .int .i64 c.f3, .slice A4 c.f4.length c4, .string c.f5] 55 (0, 0)) := by rw [hW2]; exact heap_alloc_new wr _
      have hz2 : wr.heap.size < W2.heap.size := by rw [hW2]; simp
      have HB2 := Lib.hid hb2
      have HN2 := Lib.hid hn2
      have hE2 := (HE.out.below HB.out h3).below hb2 (by omega)
      have HE2 := Lib.hid hE2
      have hch := check_c c A4 c4 W2 hE2 (Kd.C_below HC4.out hb2) (by omega)
      rw [← HER.out] at hch
      have HCH := Lib.hid hch
      obtain ⟨a0, a1, a2, a3, a4, a5⟩ := cmd_cells hn2 (Below.refl _ _)
      clear hW2 hb2 hn2 hE2 hch q0 q1 q2 q3 q4 q5
      go_wp2_with fail
      refine HCH.out.mono ?_
      rintro e w3 ⟨rfl, hb3⟩
      have hb23 := HB2.out.trans (hb3.mono (by omega))
      have HB3 := Lib.hid hb23
      have HB23 := Lib.hid hb3
      have hz3 := hb3.size
      clear a0 a1 a2 a3 a4 a5 hb3 hb23 HCH
      by_cases he : er = 0
      · subst he
        obtain ⟨a0, a1, a2, a3, a4, a5⟩ := cmd_cells HN2.out HB23.out
        have hkn : nameL c.f0 ≠ [] := by
          intro h
          have := HER.out
          unfold checkS at this
          rw [if_pos h] at this
          omega
        have hws := words_c c hkn A4 c4 w3 ((HE.out.below HB.out h3).below HB3.out (by omega)) (Kd.C_below HC4.out HB3.out) HFK.out
        have HWS := Lib.hid hws
        have HKN := Lib.hid hkn
        clear hws hkn
        go_wp2_with fail
        refine HWS.out.mono ?_
        rintro e w4 ⟨v4, rfl, hR4, hb4⟩
        have hz4 := hb4.size
        have HB24 := Lib.hid (HB23.out.trans (hb4.mono hz3))
        have hb34 := HB3.out.trans (hb4.mono (by omega))
        have hll := lineV_len HFK.out
        have hal : (argsV c).length ≤ 100002 := by
          have := HFK.out.len
          unfold argsV
          split
          · simp
          · split
            · simp; omega
            · split <;> simp
        obtain ⟨nn, hnn⟩ : ∃ nn, nn = ((nameL c.f0 :: argsV c).map mk).length := ⟨_, rfl⟩
        obtain ⟨A9, c9, hv9⟩ := Kd.R_slice hR4
        rw [← hnn] at hv9
        subst hv9
        have hjn := joinR_c (nameL c.f0 :: argsV c) (by simp) (by simp; omega) _ _ w4 hR4 (by rw [join_lineB]; show (lineV c).length ≤ _; omega)
        rw [join_lineB] at hjn
        obtain ⟨ln, hln⟩ : ∃ ln, ln = mk (lineB (nameL c.f0) (argsV c)) := ⟨_, rfl⟩
        rw [← hln] at hjn
        have hlns : ln.size ≤ 2200000 := by rw [hln, mk_size]; exact hll
        have HLN := Lib.hid hln
        have HJN := Lib.hid hjn
        have HB4 := Lib.hid hb34
        clear hnn hR4 hb4 hb34 hjn hll hal hln a0 a1 a2 a3 a4 a5 HWS
        go_wp2_with fail
        refine HJN.out.mono ?_
        rintro e w5 ⟨rfl, hb5⟩
        have hb35 := HB4.out.trans (hb5.mono (by have := HB4.out.size; omega))
        have hz5 := hb35.size
        have htl := texts_len (cs.take k) (fun d hd => HF.out d (List.mem_of_mem_take hd))
        have htk2 := List.length_take_le k cs
        have htl2 : ((cs.take k).flatMap textV).length ≤ 4300000000000 := Nat.le_trans htl (by omega)
        have hwr1 := write_c w.heap.size w.heap.size ((cs.take k).flatMap textV) (ln ++ ⟨#[10]⟩) w5 (HBr.out.below hb35) (by rw [cat_size, show (ByteArray.mk #[10]).size = 1 from rfl]; omega) (by omega)
        have hln10 : (ln ++ ⟨#[10]⟩).data.toList = lineV c ++ [10] := by rw [cat_list, HLN.out, data_mk]; rfl
        rw [hln10] at hwr1
        have HB5 := Lib.hid (HB.out.trans (hb35.mono hzr))
        have hb25 := HB24.out.trans (hb5.mono (by omega))
        have hn5 := (hb25.block wr.heap.size hz2).trans HN2.out
        have HW1 := Lib.hid hwr1
        have HN5 := Lib.hid hn5
        clear hb5 hb35 hwr1 hln10 hb25 hn5 htl htk2 HJN
        go_wp2_with fail
        refine HW1.out.mono ?_
        rintro e w6 ⟨rfl, hbd6, hwr6⟩
        have hn6 := hwr6.kept _ _ _ _ HN5.out (by decide) (by decide)
        have HBD6 := Lib.hid hbd6
        have HB6 := Lib.hid (HB5.out.trans hwr6.below)
        have hz6 := HB6.out.size
        have a0 := cell_of_heap hn6 0 rfl
        have a5 := cell_of_heap hn6 5 rfl
        have hok2 : ∀ d ∈ cs.take (k + 1), checkS d = 0 := by
          intro d hd
          rw [HTK.out] at hd
          rcases List.mem_append.1 hd with hd | hd
          · exact HOK.out d hd
          · rw [List.mem_singleton.1 hd, ← HER.out]
        have HOK2 := Lib.hid hok2
        clear hbd6 hwr6 hn6 hok2 HW1
        by_cases h1 : c.f0 = 1
        · have g1 : (c.f0 == 1) = true := beq_iff_eq.2 h1
          have htx : textV c = lineV c ++ [10] ++ c.f5.data.toList := by unfold textV; rw [if_pos h1, List.append_assoc]; rfl
          have HTX := Lib.hid htx
          have hll := lineV_len HFK.out
          have hwr2 := write_c w.heap.size w.heap.size ((cs.take k).flatMap textV ++ (lineV c ++ [10])) c.f5 w6 HBD6.out (by simp only [List.length_append, List.length_singleton]; omega) hz6
          have HW2 := Lib.hid hwr2
          clear htx hll hwr2 h1
          go_wp2_with fail
          refine HW2.out.mono ?_
          rintro e w7 ⟨rfl, hbd7, hwr7⟩
          have HBD7 := Lib.hid hbd7
          have HB7 := Lib.hid (HB6.out.trans hwr7.below)
          clear hbd7 hwr7
          go_wp2_with fail
          go_roundw
          case rel =>
            refine ⟨k + 1, by omega, by go_num, HOK2.out, ?_, HB7.out⟩
            rw [HTK.out, List.flatMap_append, List.flatMap_singleton, HTX.out, ← List.append_assoc]
            exact HBD7.out
          case measure => (simp [intOf]; omega)
        · have g1 : (c.f0 == 1) = false := beq_eq_false_iff_ne.2 h1
          have htx : textV c = lineV c ++ [10] := by unfold textV; rw [if_neg h1]
          have HTX := Lib.hid htx
          clear htx h1
          go_wp2_with fail
          go_roundw
          case rel =>
            refine ⟨k + 1, by omega, by go_num, HOK2.out, ?_, HB6.out⟩
            rw [HTK.out, List.flatMap_append, List.flatMap_singleton, HTX.out]
            exact HBD6.out
          case measure => (simp [intOf]; omega)
      · have g1 : (er != 0) = true := bne_iff_ne.2 he
        have hspec : printV cs = ([], er) := by rw [HBAD.out (by rw [← HER.out]; exact he), ← HER.out]
        have HSP := Lib.hid hspec
        clear hspec he
        go_wp2_with fail
        go_ret2
        unfold printVQ
        rw [HSP.out]
        exact ⟨rfl, HB.out.trans (HB3.out.mono hzr)⟩
    · have hke : k = cs.length := by omega
      subst hke
      have hok := HOK.out
      rw [List.take_length] at hok
      have hbd := HBr.out
      rw [List.take_length] at hbd
      have hspec := printV_ok hok
      have HSP := Lib.hid hspec
      have HBD2 := Lib.hid hbd
      clear hok hbd hspec
      go_wp2_with fail
      refine (Tryd.Builder_String_any w.heap.size w.heap.size (cs.flatMap textV) wr HBD2.out hzr).mono ?_
      rintro e w8 ⟨rfl, hb8⟩
      have HB8 := Lib.hid hb8
      clear hb8
      go_wp2_with fail
      go_ret2
      unfold printVQ
      rw [HSP.out]
      exact ⟨rfl, HB.out.trans HB8.out⟩
end Go.Proofs.YtdgifgdadminbaaDoor
