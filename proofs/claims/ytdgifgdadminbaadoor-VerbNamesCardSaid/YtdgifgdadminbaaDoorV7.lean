/- Layer verb: words. Written by v7.py of this session. -/
import Derived.Test.YtdgifgdadminbaaDoorV6
set_option linter.unusedSimpArgs false
set_option linter.unusedVariables false
set_option maxRecDepth 100000
namespace Go.Proofs.YtdgifgdadminbaaDoor
open Go.RowKit Go.Proofs.YtdgifgdadminbaaDoorW.PrintWords Sp
open PFileParses (wrap_id ba_len bt_nat toList_data info3 info2 info9)

theorem one_str (W : World) (base : Nat) (s : ByteArray) (hb : base ≤ W.heap.size) : Kd.string.R 9 (W.alloc (.cells #[.string s] 9)) base (fun _ => True) (.slice (some ⟨W.heap.size, 0, none⟩) 1 1) [s] :=
  Kd.R_of_own (own_lit_of (enc := Value.string) W base 9 [s] hb (by simp)) (fun _ _ => trivial)
theorem two_int (W : World) (base : Nat) (a b : Int) (hb : base ≤ W.heap.size) : (Kd.int .i64).R 3 (W.alloc (.cells #[.int .i64 a, .int .i64 b] 3)) base (fun _ => True) (.slice (some ⟨W.heap.size, 0, none⟩) 2 2) [a, b] :=
  Kd.R_of_own (own_lit_of (enc := Value.int .i64) W base 3 [a, b] hb (by simp)) (fun _ _ => trivial)
def wordsQ (l : List (List UInt8)) (w : World) (e : Ending) (w' : World) : Prop := ∃ v, e = .returned v ∧ Kd.string.R 9 w' w.heap.size (fun _ => True) v (l.map mk) ∧ Below w.heap.size w w'

set_option maxHeartbeats 8000000 in
theorem words_1 (c : Cmd) (hk : c.f0 = 1) (A : Option Addr) (cap : Nat) (w : World) (hE : EnvV w) (hC : (Kd.int .i64).C w A c.f4.length c.f4) (h1 : I64 c.f1) (h2 : I64 c.f2) (h3 : I64 c.f3) (h4 : ∀ n ∈ c.f4, I64 n) (hn : c.f4.length ≤ 100000) :
    Calls Tryd.prog 57 #[.agg #[.int .i64 1, .int .i64 c.f1, .int .i64 c.f2, .int .i64 c.f3, .slice A c.f4.length cap, .string c.f5]] w fun e w' => wordsQ (nameL c.f0 :: argsV c) w e w' := by
  have h3s := hE.size
  obtain ⟨W, hW⟩ : ∃ W, W = w.alloc (.cells #[.int .i64 1, .int .i64 c.f1, .int .i64 c.f2, .int .i64 c.f3, .slice A c.f4.length cap, .string c.f5] 55) := ⟨_, rfl⟩
  have hbW : Below w.heap.size w W := by rw [hW]; exact (Below.refl _ _).alloc (Nat.le_refl _) _
  have hnW : W.heap[w.heap.size]? = some (.cells #[.int .i64 1, .int .i64 c.f1, .int .i64 c.f2, .int .i64 c.f3, .slice A c.f4.length cap, .string c.f5] 55 (0, 0)) := by rw [hW]; exact heap_alloc_new w _
  have hzW : w.heap.size < W.heap.size := by rw [hW]; simp
  have hEW := hE.below hbW h3s
  have hws : (nameL c.f0 :: argsV c).map mk = ([⟨#[108, 111, 97, 100]⟩, mk (Lib.itoa c.f1)] : List ByteArray) := by
    unfold argsV
    rw [hk]
    rfl
  have hnm := name_c 1 W hEW
  rw [show mk (nameL 1) = ⟨#[108, 111, 97, 100]⟩ from rfl] at hnm
  have HWS := Lib.hid hws
  have HNM := Lib.hid hnm
  have HEW := Lib.hid hEW
  have HBW := Lib.hid hbW
  have HW := Lib.hid hW
  have HN := Lib.hid hnW
  have HCW := Lib.hid (Kd.C_below hC hbW)
  have H4 := Lib.hid h4
  obtain ⟨a0, a1, a2, a3, a4, a5⟩ := cmd_cells hnW (Below.refl _ _)
  have HE := Lib.hid hE
  clear hws hnm hEW hbW hW hnW hC hE hk h4
  go_enter Tryd.func57, Tryd.ntmps57
  go_upto_region 1 with fail
  rw [← HW.out]
  go_wp2_with fail
  refine HNM.out.mono ?_
  rintro e w1 ⟨rfl, rfl⟩
  go_upto_region 2 with fail
  obtain ⟨W2, hW2⟩ : ∃ W2, W2 = w1.alloc (.cells #[.string ⟨#[108, 111, 97, 100]⟩] 9) := ⟨_, rfl⟩
  rw [← hW2]
  have hbW2 : Below w1.heap.size w1 W2 := by rw [hW2]; exact (Below.refl _ _).alloc (Nat.le_refl _) _
  have hR2 : Kd.string.R 9 W2 w.heap.size (fun _ => True) (.slice (some ⟨w1.heap.size, 0, none⟩) 1 1) [⟨#[108, 111, 97, 100]⟩] := by rw [hW2]; exact one_str _ _ _ (by omega)
  have HBW2 := Lib.hid hbW2
  have HR2 := Lib.hid hR2
  clear a0 a1 a2 a3 a4 a5 hW2 hbW2 hR2
  obtain ⟨a0, a1, a2, a3, a4, a5⟩ := cmd_cells HN.out HBW2.out
  have hz2 := HBW2.out.size
  have HI := Lib.hid (itoa_c c.f1 W2 h1 (HEW.out.below HBW2.out (by omega)).env)
  obtain ⟨t, ht⟩ : ∃ t, t = mk (Lib.itoa c.f1) := ⟨_, rfl⟩
  rw [← ht] at HI
  have HT := Lib.hid ht
  clear ht
  go_wp2_with fail
  refine HI.out.mono ?_
  rintro e w3 ⟨rfl, hb3⟩
  have HR3 := Lib.hid (Kd.R_below HR2.out hb3)
  have HB3 := Lib.hid (HBW.out.trans ((HBW2.out.trans (hb3.mono hz2)).mono (by omega)))
  have hz3 := hb3.size
  clear hb3 a0 a1 a2 a3 a4 a5 HI
  go_wp2_with (first | ((with_reducible refine gate_builtin (b := .append) (xs := #[.tmp 45, .tmp 49]) rfl ?_); at_builtin; refine Kd.R_append Kd.string (w0 := w) w.heap.size rfl (.tmp 45) (.tmp 49) 66 9 (.string ⟨#[]⟩) 16 rfl Tryd.underlying66 info9 rfl (by decide) (by decide) (.slice (some ⟨w1.heap.size, 0, none⟩) 1 1) [⟨#[108, 111, 97, 100]⟩] t [.string t] (fun _ => True) (fun _ => False) rfl rfl rfl (fun _ hk => hk.elim) (fun _ _ => trivial) HR3.out HB3.out (by omega) (by simp) ?_; intro v4 w4 ho hb hg hat; have n0_ := Lib.hid hb; have n1_ := Lib.hid ho; clear ho hb hg hat))
  go_ret
  unfold wordsQ
  rw [HWS.out, ← HT.out]
  exact ⟨_, rfl, n1_.out, n0_.out⟩

set_option maxHeartbeats 8000000 in
theorem words_2 (c : Cmd) (hk : c.f0 = 2) (A : Option Addr) (cap : Nat) (w : World) (hE : EnvV w) (hC : (Kd.int .i64).C w A c.f4.length c.f4) (h1 : I64 c.f1) (h2 : I64 c.f2) (h3 : I64 c.f3) (h4 : ∀ n ∈ c.f4, I64 n) (hn : c.f4.length ≤ 100000) :
    Calls Tryd.prog 57 #[.agg #[.int .i64 2, .int .i64 c.f1, .int .i64 c.f2, .int .i64 c.f3, .slice A c.f4.length cap, .string c.f5]] w fun e w' => wordsQ (nameL c.f0 :: argsV c) w e w' := by
  have h3s := hE.size
  obtain ⟨W, hW⟩ : ∃ W, W = w.alloc (.cells #[.int .i64 2, .int .i64 c.f1, .int .i64 c.f2, .int .i64 c.f3, .slice A c.f4.length cap, .string c.f5] 55) := ⟨_, rfl⟩
  have hbW : Below w.heap.size w W := by rw [hW]; exact (Below.refl _ _).alloc (Nat.le_refl _) _
  have hnW : W.heap[w.heap.size]? = some (.cells #[.int .i64 2, .int .i64 c.f1, .int .i64 c.f2, .int .i64 c.f3, .slice A c.f4.length cap, .string c.f5] 55 (0, 0)) := by rw [hW]; exact heap_alloc_new w _
  have hzW : w.heap.size < W.heap.size := by rw [hW]; simp
  have hEW := hE.below hbW h3s
  have hws : (nameL c.f0 :: argsV c).map mk = ([⟨#[97, 100, 100]⟩, mk (Lib.itoa c.f1)] : List ByteArray) := by
    unfold argsV
    rw [hk]
    rfl
  have hnm := name_c 2 W hEW
  rw [show mk (nameL 2) = ⟨#[97, 100, 100]⟩ from rfl] at hnm
  have HWS := Lib.hid hws
  have HNM := Lib.hid hnm
  have HEW := Lib.hid hEW
  have HBW := Lib.hid hbW
  have HW := Lib.hid hW
  have HN := Lib.hid hnW
  have HCW := Lib.hid (Kd.C_below hC hbW)
  have H4 := Lib.hid h4
  obtain ⟨a0, a1, a2, a3, a4, a5⟩ := cmd_cells hnW (Below.refl _ _)
  have HE := Lib.hid hE
  clear hws hnm hEW hbW hW hnW hC hE hk h4
  go_enter Tryd.func57, Tryd.ntmps57
  go_upto_region 1 with fail
  rw [← HW.out]
  go_wp2_with fail
  refine HNM.out.mono ?_
  rintro e w1 ⟨rfl, rfl⟩
  go_upto_region 2 with fail
  obtain ⟨W2, hW2⟩ : ∃ W2, W2 = w1.alloc (.cells #[.string ⟨#[97, 100, 100]⟩] 9) := ⟨_, rfl⟩
  rw [← hW2]
  have hbW2 : Below w1.heap.size w1 W2 := by rw [hW2]; exact (Below.refl _ _).alloc (Nat.le_refl _) _
  have hR2 : Kd.string.R 9 W2 w.heap.size (fun _ => True) (.slice (some ⟨w1.heap.size, 0, none⟩) 1 1) [⟨#[97, 100, 100]⟩] := by rw [hW2]; exact one_str _ _ _ (by omega)
  have HBW2 := Lib.hid hbW2
  have HR2 := Lib.hid hR2
  clear a0 a1 a2 a3 a4 a5 hW2 hbW2 hR2
  obtain ⟨a0, a1, a2, a3, a4, a5⟩ := cmd_cells HN.out HBW2.out
  have hz2 := HBW2.out.size
  have HI := Lib.hid (itoa_c c.f1 W2 h1 (HEW.out.below HBW2.out (by omega)).env)
  obtain ⟨t, ht⟩ : ∃ t, t = mk (Lib.itoa c.f1) := ⟨_, rfl⟩
  rw [← ht] at HI
  have HT := Lib.hid ht
  clear ht
  go_wp2_with fail
  refine HI.out.mono ?_
  rintro e w3 ⟨rfl, hb3⟩
  have HR3 := Lib.hid (Kd.R_below HR2.out hb3)
  have HB3 := Lib.hid (HBW.out.trans ((HBW2.out.trans (hb3.mono hz2)).mono (by omega)))
  have hz3 := hb3.size
  clear hb3 a0 a1 a2 a3 a4 a5 HI
  go_wp2_with (first | ((with_reducible refine gate_builtin (b := .append) (xs := #[.tmp 45, .tmp 49]) rfl ?_); at_builtin; refine Kd.R_append Kd.string (w0 := w) w.heap.size rfl (.tmp 45) (.tmp 49) 66 9 (.string ⟨#[]⟩) 16 rfl Tryd.underlying66 info9 rfl (by decide) (by decide) (.slice (some ⟨w1.heap.size, 0, none⟩) 1 1) [⟨#[97, 100, 100]⟩] t [.string t] (fun _ => True) (fun _ => False) rfl rfl rfl (fun _ hk => hk.elim) (fun _ _ => trivial) HR3.out HB3.out (by omega) (by simp) ?_; intro v4 w4 ho hb hg hat; have n0_ := Lib.hid hb; have n1_ := Lib.hid ho; clear ho hb hg hat))
  go_ret
  unfold wordsQ
  rw [HWS.out, ← HT.out]
  exact ⟨_, rfl, n1_.out, n0_.out⟩

set_option maxHeartbeats 8000000 in
theorem words_3 (c : Cmd) (hk : c.f0 = 3) (A : Option Addr) (cap : Nat) (w : World) (hE : EnvV w) (hC : (Kd.int .i64).C w A c.f4.length c.f4) (h1 : I64 c.f1) (h2 : I64 c.f2) (h3 : I64 c.f3) (h4 : ∀ n ∈ c.f4, I64 n) (hn : c.f4.length ≤ 100000) :
    Calls Tryd.prog 57 #[.agg #[.int .i64 3, .int .i64 c.f1, .int .i64 c.f2, .int .i64 c.f3, .slice A c.f4.length cap, .string c.f5]] w fun e w' => wordsQ (nameL c.f0 :: argsV c) w e w' := by
  have h3s := hE.size
  obtain ⟨W, hW⟩ : ∃ W, W = w.alloc (.cells #[.int .i64 3, .int .i64 c.f1, .int .i64 c.f2, .int .i64 c.f3, .slice A c.f4.length cap, .string c.f5] 55) := ⟨_, rfl⟩
  have hbW : Below w.heap.size w W := by rw [hW]; exact (Below.refl _ _).alloc (Nat.le_refl _) _
  have hnW : W.heap[w.heap.size]? = some (.cells #[.int .i64 3, .int .i64 c.f1, .int .i64 c.f2, .int .i64 c.f3, .slice A c.f4.length cap, .string c.f5] 55 (0, 0)) := by rw [hW]; exact heap_alloc_new w _
  have hzW : w.heap.size < W.heap.size := by rw [hW]; simp
  have hEW := hE.below hbW h3s
  have hws : (nameL c.f0 :: argsV c).map mk = ([⟨#[99, 97, 110, 99, 101, 108]⟩, mk (Lib.itoa c.f1)] : List ByteArray) := by
    unfold argsV
    rw [hk]
    rfl
  have hnm := name_c 3 W hEW
  rw [show mk (nameL 3) = ⟨#[99, 97, 110, 99, 101, 108]⟩ from rfl] at hnm
  have HWS := Lib.hid hws
  have HNM := Lib.hid hnm
  have HEW := Lib.hid hEW
  have HBW := Lib.hid hbW
  have HW := Lib.hid hW
  have HN := Lib.hid hnW
  have HCW := Lib.hid (Kd.C_below hC hbW)
  have H4 := Lib.hid h4
  obtain ⟨a0, a1, a2, a3, a4, a5⟩ := cmd_cells hnW (Below.refl _ _)
  have HE := Lib.hid hE
  clear hws hnm hEW hbW hW hnW hC hE hk h4
  go_enter Tryd.func57, Tryd.ntmps57
  go_upto_region 1 with fail
  rw [← HW.out]
  go_wp2_with fail
  refine HNM.out.mono ?_
  rintro e w1 ⟨rfl, rfl⟩
  go_upto_region 2 with fail
  obtain ⟨W2, hW2⟩ : ∃ W2, W2 = w1.alloc (.cells #[.string ⟨#[99, 97, 110, 99, 101, 108]⟩] 9) := ⟨_, rfl⟩
  rw [← hW2]
  have hbW2 : Below w1.heap.size w1 W2 := by rw [hW2]; exact (Below.refl _ _).alloc (Nat.le_refl _) _
  have hR2 : Kd.string.R 9 W2 w.heap.size (fun _ => True) (.slice (some ⟨w1.heap.size, 0, none⟩) 1 1) [⟨#[99, 97, 110, 99, 101, 108]⟩] := by rw [hW2]; exact one_str _ _ _ (by omega)
  have HBW2 := Lib.hid hbW2
  have HR2 := Lib.hid hR2
  clear a0 a1 a2 a3 a4 a5 hW2 hbW2 hR2
  obtain ⟨a0, a1, a2, a3, a4, a5⟩ := cmd_cells HN.out HBW2.out
  have hz2 := HBW2.out.size
  have HI := Lib.hid (itoa_c c.f1 W2 h1 (HEW.out.below HBW2.out (by omega)).env)
  obtain ⟨t, ht⟩ : ∃ t, t = mk (Lib.itoa c.f1) := ⟨_, rfl⟩
  rw [← ht] at HI
  have HT := Lib.hid ht
  clear ht
  go_wp2_with fail
  refine HI.out.mono ?_
  rintro e w3 ⟨rfl, hb3⟩
  have HR3 := Lib.hid (Kd.R_below HR2.out hb3)
  have HB3 := Lib.hid (HBW.out.trans ((HBW2.out.trans (hb3.mono hz2)).mono (by omega)))
  have hz3 := hb3.size
  clear hb3 a0 a1 a2 a3 a4 a5 HI
  go_wp2_with (first | ((with_reducible refine gate_builtin (b := .append) (xs := #[.tmp 45, .tmp 49]) rfl ?_); at_builtin; refine Kd.R_append Kd.string (w0 := w) w.heap.size rfl (.tmp 45) (.tmp 49) 66 9 (.string ⟨#[]⟩) 16 rfl Tryd.underlying66 info9 rfl (by decide) (by decide) (.slice (some ⟨w1.heap.size, 0, none⟩) 1 1) [⟨#[99, 97, 110, 99, 101, 108]⟩] t [.string t] (fun _ => True) (fun _ => False) rfl rfl rfl (fun _ hk => hk.elim) (fun _ _ => trivial) HR3.out HB3.out (by omega) (by simp) ?_; intro v4 w4 ho hb hg hat; have n0_ := Lib.hid hb; have n1_ := Lib.hid ho; clear ho hb hg hat))
  go_ret
  unfold wordsQ
  rw [HWS.out, ← HT.out]
  exact ⟨_, rfl, n1_.out, n0_.out⟩

set_option maxHeartbeats 8000000 in
theorem words_4 (c : Cmd) (hk : c.f0 = 4) (A : Option Addr) (cap : Nat) (w : World) (hE : EnvV w) (hC : (Kd.int .i64).C w A c.f4.length c.f4) (h1 : I64 c.f1) (h2 : I64 c.f2) (h3 : I64 c.f3) (h4 : ∀ n ∈ c.f4, I64 n) (hn : c.f4.length ≤ 100000) :
    Calls Tryd.prog 57 #[.agg #[.int .i64 4, .int .i64 c.f1, .int .i64 c.f2, .int .i64 c.f3, .slice A c.f4.length cap, .string c.f5]] w fun e w' => wordsQ (nameL c.f0 :: argsV c) w e w' := by
  have h3s := hE.size
  obtain ⟨W, hW⟩ : ∃ W, W = w.alloc (.cells #[.int .i64 4, .int .i64 c.f1, .int .i64 c.f2, .int .i64 c.f3, .slice A c.f4.length cap, .string c.f5] 55) := ⟨_, rfl⟩
  have hbW : Below w.heap.size w W := by rw [hW]; exact (Below.refl _ _).alloc (Nat.le_refl _) _
  have hnW : W.heap[w.heap.size]? = some (.cells #[.int .i64 4, .int .i64 c.f1, .int .i64 c.f2, .int .i64 c.f3, .slice A c.f4.length cap, .string c.f5] 55 (0, 0)) := by rw [hW]; exact heap_alloc_new w _
  have hzW : w.heap.size < W.heap.size := by rw [hW]; simp
  have hEW := hE.below hbW h3s
  have hws : (nameL c.f0 :: argsV c).map mk = ([⟨#[116, 105, 99, 107]⟩, mk (Lib.itoa c.f3)] : List ByteArray) := by
    unfold argsV
    rw [hk]
    rfl
  have hnm := name_c 4 W hEW
  rw [show mk (nameL 4) = ⟨#[116, 105, 99, 107]⟩ from rfl] at hnm
  have HWS := Lib.hid hws
  have HNM := Lib.hid hnm
  have HEW := Lib.hid hEW
  have HBW := Lib.hid hbW
  have HW := Lib.hid hW
  have HN := Lib.hid hnW
  have HCW := Lib.hid (Kd.C_below hC hbW)
  have H4 := Lib.hid h4
  obtain ⟨a0, a1, a2, a3, a4, a5⟩ := cmd_cells hnW (Below.refl _ _)
  have HE := Lib.hid hE
  clear hws hnm hEW hbW hW hnW hC hE hk h4
  go_enter Tryd.func57, Tryd.ntmps57
  go_upto_region 1 with fail
  rw [← HW.out]
  go_wp2_with fail
  refine HNM.out.mono ?_
  rintro e w1 ⟨rfl, rfl⟩
  go_upto_region 2 with fail
  obtain ⟨W2, hW2⟩ : ∃ W2, W2 = w1.alloc (.cells #[.string ⟨#[116, 105, 99, 107]⟩] 9) := ⟨_, rfl⟩
  rw [← hW2]
  have hbW2 : Below w1.heap.size w1 W2 := by rw [hW2]; exact (Below.refl _ _).alloc (Nat.le_refl _) _
  have hR2 : Kd.string.R 9 W2 w.heap.size (fun _ => True) (.slice (some ⟨w1.heap.size, 0, none⟩) 1 1) [⟨#[116, 105, 99, 107]⟩] := by rw [hW2]; exact one_str _ _ _ (by omega)
  have HBW2 := Lib.hid hbW2
  have HR2 := Lib.hid hR2
  clear a0 a1 a2 a3 a4 a5 hW2 hbW2 hR2
  obtain ⟨a0, a1, a2, a3, a4, a5⟩ := cmd_cells HN.out HBW2.out
  have hz2 := HBW2.out.size
  have HI := Lib.hid (format_c c.f3 W2 h3 (HEW.out.below HBW2.out (by omega)).env)
  obtain ⟨t, ht⟩ : ∃ t, t = mk (Lib.itoa c.f3) := ⟨_, rfl⟩
  rw [← ht] at HI
  have HT := Lib.hid ht
  clear ht
  go_wp2_with fail
  refine HI.out.mono ?_
  rintro e w3 ⟨rfl, hb3⟩
  have HR3 := Lib.hid (Kd.R_below HR2.out hb3)
  have HB3 := Lib.hid (HBW.out.trans ((HBW2.out.trans (hb3.mono hz2)).mono (by omega)))
  have hz3 := hb3.size
  clear hb3 a0 a1 a2 a3 a4 a5 HI
  go_wp2_with (first | ((with_reducible refine gate_builtin (b := .append) (xs := #[.tmp 14, .tmp 18]) rfl ?_); at_builtin; refine Kd.R_append Kd.string (w0 := w) w.heap.size rfl (.tmp 14) (.tmp 18) 66 9 (.string ⟨#[]⟩) 16 rfl Tryd.underlying66 info9 rfl (by decide) (by decide) (.slice (some ⟨w1.heap.size, 0, none⟩) 1 1) [⟨#[116, 105, 99, 107]⟩] t [.string t] (fun _ => True) (fun _ => False) rfl rfl rfl (fun _ hk => hk.elim) (fun _ _ => trivial) HR3.out HB3.out (by omega) (by simp) ?_; intro v4 w4 ho hb hg hat; have n0_ := Lib.hid hb; have n1_ := Lib.hid ho; clear ho hb hg hat))
  go_ret
  unfold wordsQ
  rw [HWS.out, ← HT.out]
  exact ⟨_, rfl, n1_.out, n0_.out⟩

set_option maxHeartbeats 8000000 in
theorem words_5 (c : Cmd) (hk : c.f0 = 5) (A : Option Addr) (cap : Nat) (w : World) (hE : EnvV w) (hC : (Kd.int .i64).C w A c.f4.length c.f4) (h1 : I64 c.f1) (h2 : I64 c.f2) (h3 : I64 c.f3) (h4 : ∀ n ∈ c.f4, I64 n) (hn : c.f4.length ≤ 100000) :
    Calls Tryd.prog 57 #[.agg #[.int .i64 5, .int .i64 c.f1, .int .i64 c.f2, .int .i64 c.f3, .slice A c.f4.length cap, .string c.f5]] w fun e w' => wordsQ (nameL c.f0 :: argsV c) w e w' := by
  have h3s := hE.size
  obtain ⟨W, hW⟩ : ∃ W, W = w.alloc (.cells #[.int .i64 5, .int .i64 c.f1, .int .i64 c.f2, .int .i64 c.f3, .slice A c.f4.length cap, .string c.f5] 55) := ⟨_, rfl⟩
  have hbW : Below w.heap.size w W := by rw [hW]; exact (Below.refl _ _).alloc (Nat.le_refl _) _
  have hnW : W.heap[w.heap.size]? = some (.cells #[.int .i64 5, .int .i64 c.f1, .int .i64 c.f2, .int .i64 c.f3, .slice A c.f4.length cap, .string c.f5] 55 (0, 0)) := by rw [hW]; exact heap_alloc_new w _
  have hzW : w.heap.size < W.heap.size := by rw [hW]; simp
  have hEW := hE.below hbW h3s
  have hws : (nameL c.f0 :: argsV c).map mk = (⟨#[115, 111, 108, 118, 101]⟩ : ByteArray) :: ((c.f1 :: c.f2 :: c.f4).map Lib.itoa).map mk := by
    unfold argsV
    rw [hk]
    rfl
  have hnm := name_c 5 W hEW
  rw [show mk (nameL 5) = ⟨#[115, 111, 108, 118, 101]⟩ from rfl] at hnm
  have HWS := Lib.hid hws
  have HNM := Lib.hid hnm
  have HEW := Lib.hid hEW
  have HBW := Lib.hid hbW
  have HW := Lib.hid hW
  have HN := Lib.hid hnW
  have HCW := Lib.hid (Kd.C_below hC hbW)
  have H4 := Lib.hid h4
  obtain ⟨a0, a1, a2, a3, a4, a5⟩ := cmd_cells hnW (Below.refl _ _)
  have HE := Lib.hid hE
  clear hws hnm hEW hbW hW hnW hC hE hk h4
  go_enter Tryd.func57, Tryd.ntmps57
  go_upto_region 1 with fail
  rw [← HW.out]
  go_wp2_with fail
  refine HNM.out.mono ?_
  rintro e w1 ⟨rfl, rfl⟩
  go_upto_region 2 with fail
  obtain ⟨W2, hW2⟩ : ∃ W2, W2 = w1.alloc (.cells #[.string ⟨#[115, 111, 108, 118, 101]⟩] 9) := ⟨_, rfl⟩
  rw [← hW2]
  have hbW2 : Below w1.heap.size w1 W2 := by rw [hW2]; exact (Below.refl _ _).alloc (Nat.le_refl _) _
  have hR2 : Kd.string.R 9 W2 w.heap.size (fun _ => True) (.slice (some ⟨w1.heap.size, 0, none⟩) 1 1) [⟨#[115, 111, 108, 118, 101]⟩] := by rw [hW2]; exact one_str _ _ _ (by omega)
  have hz2 := hbW2.size
  have hz2' : w1.heap.size < W2.heap.size := by rw [hW2]; simp
  obtain ⟨W3, hW3⟩ : ∃ W3, W3 = W2.alloc (.cells #[.int .i64 c.f1, .int .i64 c.f2] 3) := ⟨_, rfl⟩
  have hbW3 : Below W2.heap.size W2 W3 := by rw [hW3]; exact (Below.refl _ _).alloc (Nat.le_refl _) _
  have hR3 := Kd.R_below hR2 hbW3
  have hI3 : (Kd.int .i64).R 3 W3 W2.heap.size (fun _ => True) (.slice (some ⟨W2.heap.size, 0, none⟩) 2 2) [c.f1, c.f2] := by rw [hW3]; exact two_int _ _ _ _ (Nat.le_refl _)
  have hb13 := hbW2.trans (hbW3.mono hz2)
  have HB3 := Lib.hid (HBW.out.trans (hb13.mono (by omega)))
  have HB13 := Lib.hid hb13
  have HR3 := Lib.hid hR3
  have HI3 := Lib.hid hI3
  have HC3 := Lib.hid (Kd.C_below HCW.out hb13)
  have HW3 := Lib.hid hW3
  have HR2 := Lib.hid hR2
  obtain ⟨ns, hns⟩ : ∃ ns, ns = [c.f1, c.f2] ++ c.f4 := ⟨_, rfl⟩
  have hnl : ns.length ≤ 100002 := by rw [hns]; simp; omega
  have hnI : ∀ n ∈ ns, I64 n := by
    intro n hm
    rw [hns] at hm
    rcases List.mem_append.1 hm with hm | hm
    · rcases List.mem_cons.1 hm with rfl | hm
      · exact h1
      · rw [List.mem_singleton.1 hm]; exact h2
    · exact H4.out n hm
  have HNS := Lib.hid hns
  have HNI := Lib.hid hnI
  clear hns hnI
  have HB23 := Lib.hid hbW3
  have HBW2 := Lib.hid hbW2
  have hz3 := hbW3.size
  clear a0 a1 a2 a3 a4 a5
  obtain ⟨a0, a1, a2, a3, a4, a5⟩ := cmd_cells HN.out hbW2
  obtain ⟨d0, d1, d2, d3, d4, d5⟩ := cmd_cells HN.out hb13
  have q4 : (W2.alloc (.cells #[.int .i64 c.f1, .int .i64 c.f2] 3)).cell? ⟨w.heap.size, 4, none⟩ = some (.slice A c.f4.length cap) := by rw [← hW3]; exact d4
  clear hW2 hbW2 hR2 hW3 hbW3 hR3 hI3 hb13
  have hl8 : ([c.f1, c.f2].length + c.f4.length) * 8 ≤ 140737488355328 := by simp; omega
  go_upto_region 7 with (first | (rw [← HW3.out]; (with_reducible refine gate_builtin (b := .append) (xs := #[.tmp 26, .tmp 28]) rfl ?_); at_builtin; refine Kd.R_append_rows (Kd.int .i64) (Rr := (Kd.int .i64).K W3) (w0 := W2) W2.heap.size rfl (.tmp 26) (.tmp 28) 25 3 (.int .i64 0) 8 rfl Tryd.underlying25 info3 rfl (by decide) (by decide) (.slice (some ⟨W2.heap.size, 0, none⟩) 2 2) [c.f1, c.f2] c.f4 A c.f4.length cap (fun _ => True) (fun _ => False) rfl rfl HI3.out HC3.out (fun x cs h => h) (fun _ hk => hk.elim) (fun _ _ => trivial) ?aB hz3 hl8 ?_; (case aB => exact HB23.out); intro v4 w4 ho hb hg hat; rw [← HNS.out] at ho; obtain ⟨A9, c9, rfl⟩ := Kd.R_slice ho; have n0_ := Lib.hid hb; have n1_ := Lib.hid ho; clear ho hb hg hat))
  have HR4 := Lib.hid (Kd.R_below HR2.out n0_.out)
  have HI4 := Lib.hid (Kd.R_lower n1_.out (show w.heap.size ≤ W2.heap.size by omega))
  have HB4 := Lib.hid (HBW.out.trans ((HBW2.out.trans (n0_.out.mono hz2)).mono (by omega)))
  clear a0 a1 a2 a3 a4 a5 d0 d1 d2 d3 d4 d5 q4
  go_loopw [3, 31] (fun ws i wr => ∃ k : Nat, k ≤ ns.length ∧ i = .int .i64 k ∧ Kd.string.R 9 wr w.heap.size (fun _ => True) ws ((⟨#[115, 111, 108, 118, 101]⟩ : ByteArray) :: ((ns.take k).map Lib.itoa).map mk) ∧ (Kd.int .i64).R 3 wr w.heap.size (fun _ => True) (.slice A9 ns.length c9) ns ∧ Below w.heap.size w wr) (fun _ i _ => ns.length - (intOf i).toNat)
  case atStart => exact ⟨0, Nat.zero_le _, rfl, HR4.out, HI4.out, HB4.out⟩
  case round =>
    obtain ⟨k, hk, rfl, hS, hI, hB⟩ := hrel
    have HS := Lib.hid hS
    have HIr := Lib.hid hI
    have HB := Lib.hid hB
    have hzr := hB.size
    clear hS hI hB
    by_cases hlt : k < ns.length
    · obtain ⟨_, hl9, hC9⟩ := Kd.R_reads' HIr.out
      obtain ⟨ad, hAe, hc⟩ := Kd.at_int hC9 k (by omega) (by omega)
      subst hAe
      rw [Int.toNat_natCast] at hc
      have hrd : rd ns (k : Int) = ns[k]'hlt := by
        unfold rd
        rw [Int.toNat_natCast, List.getD_eq_getElem?_getD, List.getElem?_eq_getElem hlt]
        rfl
      rw [hrd] at hc
      have hIk := HNI.out (ns[k]'hlt) (List.getElem_mem hlt)
      have htk : ns.take (k + 1) = ns.take k ++ [ns[k]'hlt] := List.take_succ_eq_append_getElem hlt
      obtain ⟨n, hn0⟩ : ∃ n, n = ns[k]'hlt := ⟨_, rfl⟩
      rw [← hn0] at hc hIk htk
      have HI := Lib.hid (itoa_c n wr hIk (HE.out.below HB.out h3s).env)
      obtain ⟨t, ht⟩ : ∃ t, t = mk (Lib.itoa n) := ⟨_, rfl⟩
      rw [← ht] at HI
      have HT := Lib.hid ht
      have HTK := Lib.hid htk
      have hkl : (ns.take k).length ≤ 100002 := by rw [List.length_take]; omega
      clear hrd hn0 hIk ht htk hC9
      go_wp2_with fail
      refine HI.out.mono ?_
      rintro e w5 ⟨rfl, hb5⟩
      have HS5 := Lib.hid (Kd.R_below HS.out hb5)
      have HI5 := Lib.hid (Kd.R_below HIr.out hb5)
      have HB5 := Lib.hid (HB.out.trans (hb5.mono hzr))
      have hz5 := HB5.out.size
      clear hb5 HI hc
      go_wp2_with (first | ((with_reducible refine gate_builtin (b := .append) (xs := #[.tmp 35, .tmp 38]) rfl ?_); at_builtin; refine Kd.R_append Kd.string (w0 := w) w.heap.size rfl (.tmp 35) (.tmp 38) 66 9 (.string ⟨#[]⟩) 16 rfl Tryd.underlying66 info9 rfl (by decide) (by decide) u3 _ t [.string t] (fun _ => True) (fun _ => False) rfl rfl rfl (fun _ hk => hk.elim) (fun _ _ => trivial) HS5.out HB5.out hz5 (by rw [List.length_cons, List.length_map, List.length_map]; omega) ?_; intro v6 w6 ho hb hg hat; have n2_ := Lib.hid hb; have n3_ := Lib.hid ho; have n4_ := Lib.hid (Kd.R_over HI5.out HS5.out (by intro q hq; simp [Kd.int, Kd.scalar] at hq; omega) hg); clear ho hb hg hat))
      go_roundw
      case rel =>
        refine ⟨k + 1, by omega, by go_num, ?_, n4_.out, n2_.out⟩
        have h9 := n3_.out
        rw [HTK.out, List.map_append, List.map_append]
        rw [HT.out] at h9
        exact h9
      case measure => (simp [intOf]; omega)
    · have hke : k = ns.length := by omega
      subst hke
      have hS := HS.out
      rw [List.take_length] at hS
      have HS2 := Lib.hid hS
      clear hS
      go_wp2_with fail
      go_ret
      unfold wordsQ
      rw [HWS.out]
      have h9 := HS2.out
      rw [HNS.out] at h9
      exact ⟨_, rfl, h9, HB.out⟩

set_option maxHeartbeats 8000000 in
theorem words_6 (c : Cmd) (hk : c.f0 = 6) (A : Option Addr) (cap : Nat) (w : World) (hE : EnvV w) (hC : (Kd.int .i64).C w A c.f4.length c.f4) (h1 : I64 c.f1) (h2 : I64 c.f2) (h3 : I64 c.f3) (h4 : ∀ n ∈ c.f4, I64 n) (hn : c.f4.length ≤ 100000) :
    Calls Tryd.prog 57 #[.agg #[.int .i64 6, .int .i64 c.f1, .int .i64 c.f2, .int .i64 c.f3, .slice A c.f4.length cap, .string c.f5]] w fun e w' => wordsQ (nameL c.f0 :: argsV c) w e w' := by
  have h3s := hE.size
  obtain ⟨W, hW⟩ : ∃ W, W = w.alloc (.cells #[.int .i64 6, .int .i64 c.f1, .int .i64 c.f2, .int .i64 c.f3, .slice A c.f4.length cap, .string c.f5] 55) := ⟨_, rfl⟩
  have hbW : Below w.heap.size w W := by rw [hW]; exact (Below.refl _ _).alloc (Nat.le_refl _) _
  have hnW : W.heap[w.heap.size]? = some (.cells #[.int .i64 6, .int .i64 c.f1, .int .i64 c.f2, .int .i64 c.f3, .slice A c.f4.length cap, .string c.f5] 55 (0, 0)) := by rw [hW]; exact heap_alloc_new w _
  have hzW : w.heap.size < W.heap.size := by rw [hW]; simp
  have hEW := hE.below hbW h3s
  have hws : (nameL c.f0 :: argsV c).map mk = ([⟨#[114, 101, 112, 111, 114, 116]⟩] : List ByteArray) := by
    unfold argsV
    rw [hk]
    rfl
  have hnm := name_c 6 W hEW
  rw [show mk (nameL 6) = ⟨#[114, 101, 112, 111, 114, 116]⟩ from rfl] at hnm
  have HWS := Lib.hid hws
  have HNM := Lib.hid hnm
  have HEW := Lib.hid hEW
  have HBW := Lib.hid hbW
  have HW := Lib.hid hW
  have HN := Lib.hid hnW
  have HCW := Lib.hid (Kd.C_below hC hbW)
  have H4 := Lib.hid h4
  obtain ⟨a0, a1, a2, a3, a4, a5⟩ := cmd_cells hnW (Below.refl _ _)
  have HE := Lib.hid hE
  clear hws hnm hEW hbW hW hnW hC hE hk h4
  go_enter Tryd.func57, Tryd.ntmps57
  go_upto_region 1 with fail
  rw [← HW.out]
  go_wp2_with fail
  refine HNM.out.mono ?_
  rintro e w1 ⟨rfl, rfl⟩
  go_wp2_with fail
  go_ret
  unfold wordsQ
  rw [HWS.out]
  exact ⟨_, rfl, one_str _ _ _ (by omega), HBW.out.alloc (by omega) _⟩

set_option maxHeartbeats 8000000 in
theorem words_7 (c : Cmd) (hk : c.f0 = 7) (A : Option Addr) (cap : Nat) (w : World) (hE : EnvV w) (hC : (Kd.int .i64).C w A c.f4.length c.f4) (h1 : I64 c.f1) (h2 : I64 c.f2) (h3 : I64 c.f3) (h4 : ∀ n ∈ c.f4, I64 n) (hn : c.f4.length ≤ 100000) :
    Calls Tryd.prog 57 #[.agg #[.int .i64 7, .int .i64 c.f1, .int .i64 c.f2, .int .i64 c.f3, .slice A c.f4.length cap, .string c.f5]] w fun e w' => wordsQ (nameL c.f0 :: argsV c) w e w' := by
  have h3s := hE.size
  obtain ⟨W, hW⟩ : ∃ W, W = w.alloc (.cells #[.int .i64 7, .int .i64 c.f1, .int .i64 c.f2, .int .i64 c.f3, .slice A c.f4.length cap, .string c.f5] 55) := ⟨_, rfl⟩
  have hbW : Below w.heap.size w W := by rw [hW]; exact (Below.refl _ _).alloc (Nat.le_refl _) _
  have hnW : W.heap[w.heap.size]? = some (.cells #[.int .i64 7, .int .i64 c.f1, .int .i64 c.f2, .int .i64 c.f3, .slice A c.f4.length cap, .string c.f5] 55 (0, 0)) := by rw [hW]; exact heap_alloc_new w _
  have hzW : w.heap.size < W.heap.size := by rw [hW]; simp
  have hEW := hE.below hbW h3s
  have hws : (nameL c.f0 :: argsV c).map mk = ([⟨#[116, 105, 99, 107, 101, 116, 115]⟩] : List ByteArray) := by
    unfold argsV
    rw [hk]
    rfl
  have hnm := name_c 7 W hEW
  rw [show mk (nameL 7) = ⟨#[116, 105, 99, 107, 101, 116, 115]⟩ from rfl] at hnm
  have HWS := Lib.hid hws
  have HNM := Lib.hid hnm
  have HEW := Lib.hid hEW
  have HBW := Lib.hid hbW
  have HW := Lib.hid hW
  have HN := Lib.hid hnW
  have HCW := Lib.hid (Kd.C_below hC hbW)
  have H4 := Lib.hid h4
  obtain ⟨a0, a1, a2, a3, a4, a5⟩ := cmd_cells hnW (Below.refl _ _)
  have HE := Lib.hid hE
  clear hws hnm hEW hbW hW hnW hC hE hk h4
  go_enter Tryd.func57, Tryd.ntmps57
  go_upto_region 1 with fail
  rw [← HW.out]
  go_wp2_with fail
  refine HNM.out.mono ?_
  rintro e w1 ⟨rfl, rfl⟩
  go_wp2_with fail
  go_ret
  unfold wordsQ
  rw [HWS.out]
  exact ⟨_, rfl, one_str _ _ _ (by omega), HBW.out.alloc (by omega) _⟩

end Go.Proofs.YtdgifgdadminbaaDoor
