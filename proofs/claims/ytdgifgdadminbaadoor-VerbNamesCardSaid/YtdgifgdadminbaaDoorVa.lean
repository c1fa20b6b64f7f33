/- Layer verb: the document's example; VerbPrints. Written by this session. -/
import Derived.Test.YtdgifgdadminbaaDoorV9
set_option linter.unusedSimpArgs false
set_option linter.unusedVariables false
set_option maxRecDepth 100000
namespace Go.Proofs.YtdgifgdadminbaaDoor
open Go.RowKit Go.Proofs.YtdgifgdadminbaaDoorW.PrintWords Sp
open PFileParses (wrap_id ba_len bt_nat toList_data info3 info2 info9)

theorem itoaV_small (n : Int) (h0 : 0 ≤ n) (h : n < 10) : Lib.itoa n = [UInt8.ofNat (48 + n.toNat)] := by
  unfold Lib.itoa
  rw [if_neg (by omega), Lib.decDigits, dif_pos (by omega)]
def vT0 : ByteArray := ⟨#[97, 100, 100, 32, 49, 10, 116, 105, 99, 107, 32, 53, 10, 115, 111, 108, 118, 101, 32, 56, 32, 48, 10, 108, 111, 97, 100, 32, 49, 10, 120, 10]⟩
def vT1 : ByteArray := ⟨#[97, 100, 100, 32, 49, 10, 108, 111, 97, 100, 32, 50, 10, 120, 10]⟩
def vT2 : ByteArray := ⟨#[115, 105, 110, 103, 10]⟩
def vT3 : ByteArray := ⟨#[97, 100, 100, 10]⟩
def vC0 : List Cmd := [⟨2, 1, 0, 0, [], ⟨#[]⟩⟩, ⟨4, 0, 0, 5, [], ⟨#[]⟩⟩, ⟨5, 8, 0, 0, [], ⟨#[]⟩⟩, ⟨1, 1, 0, 0, [], ⟨#[120, 10]⟩⟩]
theorem vT0_parse : parseV vT0 = .ok vC0 := by kernel_rfl
theorem vT1_parse : parseV vT1 = .error (2, 20) := by kernel_rfl
theorem vT2_parse : parseV vT2 = .error (1, 50) := by kernel_rfl
theorem vT3_parse : parseV vT3 = .error (1, 21) := by kernel_rfl
theorem vC0_check : ∀ c ∈ vC0, checkS c = 0 := by
  intro c hc
  simp only [vC0, List.mem_cons, List.not_mem_nil, or_false] at hc
  rcases hc with rfl | rfl | rfl | rfl <;> kernel_rfl
theorem vC0_print : printV vC0 = (vT0.data.toList, 0) := by
  rw [printV_ok vC0_check]
  have i0 : Lib.itoa 0 = [48] := itoaV_small 0 (by decide) (by decide)
  have i1 : Lib.itoa 1 = [49] := itoaV_small 1 (by decide) (by decide)
  have i5 : Lib.itoa 5 = [53] := itoaV_small 5 (by decide) (by decide)
  have i8 : Lib.itoa 8 = [56] := itoaV_small 8 (by decide) (by decide)
  refine Prod.ext ?_ rfl
  show vC0.flatMap textV = vT0.data.toList
  have e1 : textV ⟨2, 1, 0, 0, [], ⟨#[]⟩⟩ = [97, 100, 100, 32, 49, 10] := by
    show lineB (nameL 2) [Lib.itoa 1] ++ [10] = _
    rw [i1]; rfl
  have e2 : textV ⟨4, 0, 0, 5, [], ⟨#[]⟩⟩ = [116, 105, 99, 107, 32, 53, 10] := by
    show lineB (nameL 4) [Lib.itoa 5] ++ [10] = _
    rw [i5]; rfl
  have e3 : textV ⟨5, 8, 0, 0, [], ⟨#[]⟩⟩ = [115, 111, 108, 118, 101, 32, 56, 32, 48, 10] := by
    show lineB (nameL 5) [Lib.itoa 8, Lib.itoa 0] ++ [10] = _
    rw [i8, i0]; rfl
  have e4 : textV ⟨1, 1, 0, 0, [], ⟨#[120, 10]⟩⟩ = [108, 111, 97, 100, 32, 49, 10, 120, 10] := by
    show lineB (nameL 1) [Lib.itoa 1] ++ [10, 120, 10] = _
    rw [i1]; rfl
  unfold vC0
  rw [List.flatMap_cons, List.flatMap_cons, List.flatMap_cons, List.flatMap_cons, List.flatMap_nil, e1, e2, e3, e4]
  rfl
def vZ : Cmd := ⟨0, 0, 0, 0, [], ⟨#[]⟩⟩
theorem vZ_print : printV [vZ] = ([], 50) := by kernel_rfl
theorem i64_0 : I64 0 := ⟨by decide, by decide⟩
theorem vC0_fit : ∀ c ∈ vC0, Fit c := by
  intro c hc
  simp only [vC0, List.mem_cons, List.not_mem_nil, or_false] at hc
  rcases hc with rfl | rfl | rfl | rfl <;> exact ⟨⟨by decide, by decide⟩, ⟨by decide, by decide⟩, ⟨by decide, by decide⟩, by simp, by decide, by decide⟩
theorem vZ_fit : ∀ c ∈ [vZ], Fit c := by
  intro c hc
  rw [List.mem_singleton.1 hc]
  exact ⟨i64_0, i64_0, i64_0, by simp [vZ], by decide, by decide⟩

theorem parseV_ok {s : ByteArray} {cs : List Cmd} (h : parseV s = .ok cs) (w : World) (hE : EnvV w) (hs : s.size < 4294967281) :
    Calls Tryd.prog 26 #[.string s] w fun e w' => ∃ A c, e = .returned (.tuple #[.slice A cs.length c, .int .i64 0, .int .i64 0]) ∧ Kd.R kc 55 w' w.heap.size (fun _ => True) (.slice A cs.length c) cs ∧ Below w.heap.size w w' := by
  refine (parseV_c s w hE hs).mono ?_
  intro e w' hq
  unfold parseVQ at hq
  rw [h] at hq
  obtain ⟨v, rfl, hr, hb⟩ := hq
  obtain ⟨A, c, rfl⟩ := Kd.R_slice hr
  exact ⟨A, c, rfl, hr, hb⟩
theorem parseV_err {s : ByteArray} {x : Int × Int} (h : parseV s = .error x) (w : World) (hE : EnvV w) (hs : s.size < 4294967281) :
    Calls Tryd.prog 26 #[.string s] w fun e w' => e = .returned (.tuple #[.slice none 0 0, .int .i64 x.1, .int .i64 x.2]) ∧ Below w.heap.size w w' := by
  refine (parseV_c s w hE hs).mono ?_
  intro e w' hq
  unfold parseVQ at hq
  rw [h] at hq
  exact hq
theorem C_one55 {w : World} {g : Nat} {t : TypeId} {fr : Nat × Nat} (c : Cmd) {A : Option Addr} {cap : Nat} (h : w.heap[g]? = some (.cells #[.int .i64 c.f0, .int .i64 c.f1, .int .i64 c.f2, .int .i64 c.f3, .slice A c.f4.length cap, .string c.f5] t fr))
    (hl : c.f4.length ≤ cap) (hC : (Kd.int .i64).C w A c.f4.length c.f4) : PVerbPrints.k55.C w (some ⟨g, 0, none⟩) 1 [c] := by
  refine ⟨rfl, by omega, fun _ => ⟨_, rfl, fun j p hj => ?_⟩⟩
  match j, hj with
  | 0, hj =>
    cases hj
    refine ⟨_, rfl, PVerbPrints.k55_mk w c hl hC, fun i u hu => ?_⟩
    have hc := cell_of_heap h i (v := u) (by simpa using hu)
    have e2 : (⟨g, 0, none⟩ : Addr).add (0 * PVerbPrints.k55.sz + i) = ⟨g, i, none⟩ := by rw [Nat.zero_mul, Nat.zero_add]; cases i <;> simp [Addr.add]
    rw [e2]
    exact hc

set_option maxHeartbeats 16000000 in
theorem aliveV_c (w : World) (hE : EnvV w) : Calls Tryd.prog 20 #[] w fun e w' => e = .returned (.bool true) ∧ Below w.heap.size w w' := by
  have h3 := hE.size
  have hP := parseV_ok vT0_parse w hE (by decide)
  rw [show vC0.length = 4 from rfl] at hP
  unfold vT0 at hP
  have HE := Lib.hid hE
  have HP := Lib.hid hP
  clear hP hE
  go_enter Tryd.func20, Tryd.ntmps20
  go_wp2_with fail
  refine HP.out.mono ?_
  rintro e w1 ⟨A1, c1, rfl, hr1, hb1⟩
  have HR1 := Lib.hid hr1
  have HB1 := Lib.hid hb1
  have hz1 := hb1.size
  clear hr1 hb1 HP
  have hP := parseV_err vT1_parse w1 (HE.out.below HB1.out h3) (by decide)
  unfold vT1 at hP
  dsimp only at hP
  have HP := Lib.hid hP
  clear hP
  go_wp2_with fail
  refine HP.out.mono ?_
  rintro e w2 ⟨rfl, hb2⟩
  have HB12 := Lib.hid hb2
  have hz2 := hb2.size
  have HB2 := Lib.hid (HB1.out.trans (hb2.mono hz1))
  clear hb2 HP
  have hP := parseV_err vT2_parse w2 (HE.out.below HB2.out h3) (by decide)
  unfold vT2 at hP
  dsimp only at hP
  have HP := Lib.hid hP
  clear hP
  go_wp2_with fail
  refine HP.out.mono ?_
  rintro e w3 ⟨rfl, hb3⟩
  have HB13 := Lib.hid (HB12.out.trans (hb3.mono hz2))
  have hz3 := hb3.size
  have HB3 := Lib.hid (HB2.out.trans (hb3.mono (by omega)))
  clear hb3 HP
  have hP := parseV_err vT3_parse w3 (HE.out.below HB3.out h3) (by decide)
  unfold vT3 at hP
  dsimp only at hP
  have HP := Lib.hid hP
  clear hP
  go_wp2_with fail
  refine HP.out.mono ?_
  rintro e w4 ⟨rfl, hb4⟩
  have HB14 := Lib.hid (HB13.out.trans (hb4.mono (by omega)))
  have hz4 := hb4.size
  have HB4 := Lib.hid (HB3.out.trans (hb4.mono (by omega)))
  clear hb4 HP
  have hC4 := kc_C (Kd.R_reads' (Kd.R_below HR1.out HB14.out)).2.2
  have hP := printV_c vC0 A1 c1 w4 (HE.out.below HB4.out h3) hC4 vC0_fit (by decide)
  unfold printVQ at hP
  rw [vC0_print, show vC0.length = 4 from rfl] at hP
  dsimp only at hP
  rw [mk_data] at hP
  unfold vT0 at hP
  have HP := Lib.hid hP
  clear hP hC4
  go_wp2_with fail
  refine HP.out.mono ?_
  rintro e w5 ⟨rfl, hb5⟩
  have HB15 := Lib.hid (HB14.out.trans (hb5.mono (by omega)))
  have hz5 := hb5.size
  have HB5 := Lib.hid (HB4.out.trans (hb5.mono (by omega)))
  clear hb5 HP
  have hbW : Below w5.heap.size w5 (w5.alloc (.cells #[.int .i64 0, .int .i64 0, .int .i64 0, .int .i64 0, .slice none 0 0, .string ⟨#[]⟩] 55)) := (Below.refl _ _).alloc (Nat.le_refl _) _
  have hP := printV_c [vZ] (some ⟨w5.heap.size, 0, none⟩) 1 (w5.alloc (.cells #[.int .i64 0, .int .i64 0, .int .i64 0, .int .i64 0, .slice none 0 0, .string ⟨#[]⟩] 55)) (HE.out.below (HB5.out.trans (hbW.mono (by omega))) h3)
    (C_one55 vZ (by exact heap_alloc_new w5 _) (Nat.le_refl 0) ⟨rfl, by decide, fun h => absurd h (by decide)⟩) vZ_fit (by decide)
  unfold printVQ at hP
  rw [vZ_print] at hP
  dsimp only at hP
  have HP := Lib.hid hP
  have HBW := Lib.hid hbW
  clear hP hbW
  go_wp2_with fail
  refine HP.out.mono ?_
  rintro e w6 ⟨rfl, hb6⟩
  have hb56 := HBW.out.trans (hb6.mono HBW.out.size)
  have HB16 := Lib.hid (HB15.out.trans (hb56.mono (by omega)))
  have HB6 := Lib.hid (HB5.out.trans (hb56.mono (by omega)))
  clear hb6 hb56 HP
  obtain ⟨g, cap, hv, hg0, hg1, _⟩ := Kd.R_form (Kd.R_below HR1.out HB16.out) (by decide)
  injection hv with hv1 hv2 hv3
  subst hv1
  obtain ⟨ad2, _, _, hA2, _, q21, _, _, _, _, _, _⟩ := PVerbPrints.at_T55 (kc_C (Kd.R_reads' (Kd.R_below HR1.out HB16.out)).2.2) 2 (by decide) (by decide)
  obtain rfl := Option.some.inj hA2
  obtain ⟨ad3, _, _, hA3, _, _, _, _, _, q35, _, _⟩ := PVerbPrints.at_T55 (kc_C (Kd.R_reads' (Kd.R_below HR1.out HB16.out)).2.2) 3 (by decide) (by decide)
  obtain rfl := Option.some.inj hA3
  have k2 : w6.cell? ⟨g, 13, none⟩ = some (.int .i64 8) := q21
  have k3 : w6.cell? ⟨g, 23, none⟩ = some (.string ⟨#[120, 10]⟩) := q35
  clear q21 q35 hA2 hA3 hv2 hv3 hg0 hg1
  have hE6 := HE.out.below HB6.out h3
  have hn7 := name_c 7 w6 hE6
  rw [show mk (nameL 7) = ⟨#[116, 105, 99, 107, 101, 116, 115]⟩ from rfl] at hn7
  have hn8 := name_c 8 w6 hE6
  rw [show mk (nameL 8) = ⟨#[]⟩ from rfl] at hn8
  have HN7 := Lib.hid hn7
  have HN8 := Lib.hid hn8
  clear hn7 hn8 hE6
  go_wp2_with fail
  refine HN7.out.mono ?_
  rintro e w7 ⟨rfl, rfl⟩
  go_wp2_with fail
  refine HN8.out.mono ?_
  rintro e w8 ⟨rfl, rfl⟩
  go_wp2_with fail
  go_ret
  exact ⟨rfl, HB6.out⟩

theorem fewV_c (cs : List Cmd) (A : Option Addr) (cap : Nat) (w : World) (hC : PVerbPrints.k55.C w A cs.length cs) (hcap : cs.length ≤ cap) :
    Calls Tryd.prog 21 #[.slice A cs.length cap] w fun e w' => e = .returned (.bool (fewV cs)) ∧ Below w.heap.size w w' :=
  PVerbPrints.jitneylaw27_few.calls _ A cap cs _ w hC hcap (fewV_f cs hC.2.1)
theorem asV_c (cs : List Cmd) (A : Option Addr) (cap : Nat) (w : World) (hC : PVerbPrints.k55.C w A cs.length cs) (hcap : cs.length ≤ cap) (hl : cs.length ≤ 1000000) :
    Calls Tryd.prog 24 #[.slice A cs.length cap] w fun e w' => ∃ A' c', e = .returned (.slice A' cs.length c') ∧ cs.length ≤ c' ∧ PVerbPrints.k105.C w' A' cs.length (cs.map to105) ∧ Below w.heap.size w w' := by
  have hF : Kd.F PVerbPrints.k55 w (fun k => k < w.heap.size) A cs.length cs := by
    intro W' hW
    exact Kd.Heap.C (Kd.heap_iso _ (Kd.heap_pair (Kd.heap_int _) (Kd.heap_pair (Kd.heap_int _) (Kd.heap_pair (Kd.heap_int _) (Kd.heap_pair (Kd.heap_int _) (Kd.heap_pair (Kd.heap_slice 3 (Kd.heap_int _)) Kd.heap_string)))))) (fun k hk => hW k hk hk) hC
  refine (PVerbPrints.jitneylaw27_as.calls _ (fun k => k < w.heap.size) A cap cs (cs.map to105) w ⟨A, cap, rfl, hcap, hF⟩ (asV_f cs hl)).mono ?_
  rintro e w' ⟨v, rfl, hN, hb⟩
  obtain ⟨A', c', rfl, hl', hC'⟩ := Kd.N_reads hN
  rw [List.length_map] at hl' hC' ⊢
  exact ⟨A', c', rfl, hl', hC', hb⟩
end Go.Proofs.YtdgifgdadminbaaDoor
