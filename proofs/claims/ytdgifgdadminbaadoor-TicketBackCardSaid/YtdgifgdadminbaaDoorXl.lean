/- file.line at int64 and int. Written by this session (by xl.py). -/
import Derived.Test.YtdgifgdadminbaaDoorX1
import Derived.Test.YtdgifgdadminbaaDoorXb
import Derived.Lib.AppendIntMem
set_option linter.unusedSimpArgs false
set_option linter.unusedVariables false
set_option maxRecDepth 100000
namespace Go.Proofs.YtdgifgdadminbaaDoor
open Go.RowKit Go.Proofs.YtdgifgdadminbaaDoorW.PrintWords Sp
open PFileParses (wrap_id ba_len toList_data info3 info2 info9)

def I64 (n : Int) : Prop := -9223372036854775808 ≤ n ∧ n ≤ 9223372036854775807
theorem itoa_len {n : Int} (h : I64 n) : (Lib.itoa n).length ≤ 20 := by
  unfold Lib.itoa I64 at *
  split
  · have := Lib.decDigits_length n.natAbs
    have := nDigits_le 18 n.natAbs (by omega)
    rw [List.length_cons]
    omega
  · have := Lib.decDigits_length n.toNat
    have := nDigits_le 18 n.toNat (by omega)
    omega
theorem format_c (n : Int) (w : World) (h : I64 n) (hE : Env w) :
    Calls Tryd.prog 49 #[.int .i64 n, .int .i64 10] w fun e w' => e = .returned (.string (mk (Lib.itoa n))) ∧ Below w.heap.size w w' := by
  refine (Tryd.strconv_FormatInt_10 n h.1 h.2 w hE.tab).mono ?_
  rintro e w' ⟨rfl, k, os, rfl⟩
  exact ⟨rfl, Lib.below_grow _ _ (Nat.le_refl _) _ _⟩
theorem cells_cat (l : List UInt8) (s : ByteArray) : Lib.byteCells l ++ Lib.strCells s = Lib.byteCells (l ++ s.data.toList) := by
  rw [Lib.strCells_eq, Lib.byteCells_append]
/-- A builder that holds l. -/
def Bld (B b : Nat) (l : List UInt8) (w : World) : Prop := Lib.IsBuilder 91 5 B b (Lib.byteCells l) w
theorem Bld.below {B b : Nat} {l : List UInt8} {w w' : World} (h : Bld B b l w) (hb : Below w.heap.size w w') : Bld B b l w' := builder_below h hb
theorem write_c (B b : Nat) (l : List UInt8) (s : ByteArray) (w : World) (h : Bld B b l w) (hlen : l.length + s.size ≤ 140737488355328) (hBw : B ≤ w.heap.size) :
    Calls Tryd.prog 55 #[.pointer (some ⟨b, 0, none⟩), .string s] w fun e w' => e = .returned (.tuple #[.int .i64 s.size, .nilIface]) ∧ Bld B b (l ++ s.data.toList) w' ∧ Wrote B w w' := by
  refine (writeString_c B b (Lib.byteCells l) s w h (by rw [Lib.byteCells_length]; exact hlen) hBw).mono ?_
  rintro e w' ⟨rfl, h1, h2⟩
  rw [cells_cat] at h1
  exact ⟨rfl, .inr h1, h2⟩
theorem cat_list (a b : ByteArray) : (a ++ b).data.toList = a.data.toList ++ b.data.toList := by
  rw [ByteArray.data_append, Array.toList_append]
theorem cat_size (a b : ByteArray) : (a ++ b).size = a.size + b.size := ByteArray.size_append
theorem lineB_snoc (a : List UInt8) (ws : List (List UInt8)) (x : List UInt8) : lineB a (ws ++ [x]) = lineB a ws ++ 32 :: x := by
  unfold lineB
  rw [List.flatMap_append, List.append_assoc]
  simp
theorem lineW_len {a : List UInt8} {ns : List Int} (h : ∀ n ∈ ns, I64 n) : (lineW a ns).length ≤ a.length + 21 * ns.length := by
  unfold lineW
  rw [lineB_length]
  have : ∀ ns : List Int, (∀ n ∈ ns, I64 n) → ((ns.map Lib.itoa).map fun x => x.length + 1).sum ≤ 21 * ns.length := by
    intro ns
    induction ns with
    | nil => intro _; exact Nat.le_refl _
    | cons n ns ih =>
      intro h
      have h1 := itoa_len (h n (by simp))
      have h2 := ih (fun m hm => h m (by simp [hm]))
      simp only [List.map_cons, List.sum_cons, List.length_cons]
      omega
  have := this ns h
  omega

set_option maxHeartbeats 4000000 in
theorem line_45 (B b : Nat) (l : List UInt8) (first : ByteArray) (A : Option Addr) (c : Nat) (ns : List Int) (w : World) (hb : Bld B b l w) (hE : Env w) (hB : 3 ≤ B) (hBw : B ≤ w.heap.size)
    (hC : ∀ w', Wrote B w w' → (Kd.int .i64).C w' A ns.length ns) (hI : ∀ n ∈ ns, I64 n) (hlen : l.length + first.size + 21 * ns.length ≤ 140737488000000) :
    Calls Tryd.prog 45 #[.pointer (some ⟨b, 0, none⟩), .string first, .slice A ns.length c] w fun e w' => e = .returned (.tuple #[]) ∧ Bld B b (l ++ (lineW first.data.toList ns ++ [10])) w' ∧ Wrote B w w' := by
  have hW1 := write_c B b l first w hb (by omega) hBw
  have hsm := (hC w (Wrote.refl _ _)).2.1
  have HW1 := Lib.hid hW1
  have HC := Lib.hid hC
  have HI := Lib.hid hI
  have HE := Lib.hid hE
  have hfl : first.data.toList.length = first.size := ba_len first
  clear hW1 hC hI hE hb
  go_enter Tryd.func45, Tryd.ntmps45
  go_wp2_with fail
  refine HW1.out.mono ?_
  rintro e w1 ⟨rfl, h1, h2⟩
  have H1 := Lib.hid h1
  have H2 := Lib.hid h2
  clear h1 h2
  go_wp2_with fail
  go_loopw [7, 13] (fun _ i wr => ∃ k : Nat, k ≤ ns.length ∧ i = .int .i64 k ∧ Bld B b (l ++ lineW first.data.toList (ns.take k)) wr ∧ Wrote B w wr) (fun _ i _ => ns.length - (intOf i).toNat)
  case atStart =>
    refine ⟨0, Nat.zero_le _, rfl, ?_, H2.out⟩
    have := H1.out
    simpa [lineW, lineB] using this
  case round =>
    obtain ⟨k, hk, rfl, hbl, hwr⟩ := hrel
    have HBL := Lib.hid hbl
    have HWR := Lib.hid hwr
    have hsz := hwr.below.size
    clear hbl hwr
    by_cases hlt : k < ns.length
    · obtain ⟨ad, rfl, hc⟩ := Kd.at_int (HC.out wr HWR.out) (k : Int) (by omega) (by omega)
      rw [Int.toNat_natCast] at hc
      have hrd : rd ns (k : Int) = ns[k]'hlt := by
        unfold rd
        rw [Int.toNat_natCast, List.getD_eq_getElem?_getD, List.getElem?_eq_getElem hlt]
        rfl
      rw [hrd] at hc
      have hi := HI.out (ns[k]'hlt) (List.getElem_mem hlt)
      have HT := Lib.hid (List.take_succ_eq_append_getElem hlt)
      obtain ⟨n, hn⟩ : ∃ n, n = ns[k]'hlt := ⟨_, rfl⟩
      have HN := Lib.hid hn
      rw [← hn] at hc hi
      have hil := itoa_len hi
      have hll := lineW_len (a := first.data.toList) (ns := ns.take k) (fun m hm => HI.out m (List.mem_of_mem_take hm))
      rw [List.length_take] at hll
      have hf := format_c n wr hi (HE.out.below HWR.out.below hB)
      obtain ⟨s2, hs2⟩ : ∃ s2, s2 = mk (Lib.itoa n) := ⟨_, rfl⟩
      have hz : s2.size ≤ 20 := by rw [hs2, mk_size]; exact hil
      have hd2 : s2.data.toList = Lib.itoa n := by rw [hs2, data_mk]
      rw [← hs2] at hf
      have HD2 := Lib.hid hd2
      clear hs2 hd2
      have HF := Lib.hid hf
      clear hrd hn hi hf
      go_wp2_with fail
      refine HF.out.mono ?_
      rintro e w2 ⟨rfl, hb2⟩
      have hB2 := HBL.out.below hb2
      have hz2 := hb2.size
      have HB2 := Lib.hid hB2
      have HW2 := Lib.hid (HWR.out.trans (Wrote.of_below hb2 (by omega)))
      clear hb2 hB2 hc
      go_wp2_with fail
      refine (write_c B b _ _ w2 HB2.out ?_ (by omega)).mono ?_
      · rw [List.length_append]
        have : (ByteArray.mk #[32] ++ s2).size = 1 + s2.size := cat_size _ _
        omega
      rintro e w3 ⟨rfl, h1, h2⟩
      have HB3 := Lib.hid h1
      have HW3 := Lib.hid h2
      clear h1 h2
      go_wp2_with fail
      go_roundw
      case rel =>
        refine ⟨k + 1, by omega, by go_num, ?_, HW2.out.trans HW3.out⟩
        have := HB3.out
        rw [cat_list, HD2.out, List.append_assoc] at this
        rw [HT.out, ← HN.out]
        unfold lineW at this ⊢
        rw [List.map_append, List.map_cons, List.map_nil, lineB_snoc]
        exact this
      case measure => simp [intOf]; omega
    · have hkn : k = ns.length := by omega
      subst hkn
      have hll := lineW_len (a := first.data.toList) (ns := ns) HI.out
      have hbl := HBL.out
      rw [List.take_length] at hbl
      have HBL2 := Lib.hid hbl
      clear hbl
      go_wp2_with fail
      refine (write_c B b _ _ wr HBL2.out ?_ (by omega)).mono ?_
      · rw [List.length_append]
        have : (ByteArray.mk #[10]).size = 1 := rfl
        omega
      rintro e w3 ⟨rfl, h1, h2⟩
      have HB3 := Lib.hid h1
      have HW3 := Lib.hid h2
      clear h1 h2
      go_wp2_with fail
      go_end0
      have := HB3.out
      rw [List.append_assoc] at this
      exact ⟨rfl, this, HWR.out.trans HW3.out⟩

set_option maxHeartbeats 4000000 in
theorem line_46 (B b : Nat) (l : List UInt8) (first : ByteArray) (A : Option Addr) (c : Nat) (ns : List Int) (w : World) (hb : Bld B b l w) (hE : Env w) (hB : 3 ≤ B) (hBw : B ≤ w.heap.size)
    (hC : ∀ w', Wrote B w w' → (Kd.int .i64).C w' A ns.length ns) (hI : ∀ n ∈ ns, I64 n) (hlen : l.length + first.size + 21 * ns.length ≤ 140737488000000) :
    Calls Tryd.prog 46 #[.pointer (some ⟨b, 0, none⟩), .string first, .slice A ns.length c] w fun e w' => e = .returned (.tuple #[]) ∧ Bld B b (l ++ (lineW first.data.toList ns ++ [10])) w' ∧ Wrote B w w' := by
  have hW1 := write_c B b l first w hb (by omega) hBw
  have hsm := (hC w (Wrote.refl _ _)).2.1
  have HW1 := Lib.hid hW1
  have HC := Lib.hid hC
  have HI := Lib.hid hI
  have HE := Lib.hid hE
  have hfl : first.data.toList.length = first.size := ba_len first
  clear hW1 hC hI hE hb
  go_enter Tryd.func46, Tryd.ntmps46
  go_wp2_with fail
  refine HW1.out.mono ?_
  rintro e w1 ⟨rfl, h1, h2⟩
  have H1 := Lib.hid h1
  have H2 := Lib.hid h2
  clear h1 h2
  go_wp2_with fail
  go_loopw [7, 13] (fun _ i wr => ∃ k : Nat, k ≤ ns.length ∧ i = .int .i64 k ∧ Bld B b (l ++ lineW first.data.toList (ns.take k)) wr ∧ Wrote B w wr) (fun _ i _ => ns.length - (intOf i).toNat)
  case atStart =>
    refine ⟨0, Nat.zero_le _, rfl, ?_, H2.out⟩
    have := H1.out
    simpa [lineW, lineB] using this
  case round =>
    obtain ⟨k, hk, rfl, hbl, hwr⟩ := hrel
    have HBL := Lib.hid hbl
    have HWR := Lib.hid hwr
    have hsz := hwr.below.size
    clear hbl hwr
    by_cases hlt : k < ns.length
    · obtain ⟨ad, rfl, hc⟩ := Kd.at_int (HC.out wr HWR.out) (k : Int) (by omega) (by omega)
      rw [Int.toNat_natCast] at hc
      have hrd : rd ns (k : Int) = ns[k]'hlt := by
        unfold rd
        rw [Int.toNat_natCast, List.getD_eq_getElem?_getD, List.getElem?_eq_getElem hlt]
        rfl
      rw [hrd] at hc
      have hi := HI.out (ns[k]'hlt) (List.getElem_mem hlt)
      have HT := Lib.hid (List.take_succ_eq_append_getElem hlt)
      obtain ⟨n, hn⟩ : ∃ n, n = ns[k]'hlt := ⟨_, rfl⟩
      have HN := Lib.hid hn
      rw [← hn] at hc hi
      have hil := itoa_len hi
      have hll := lineW_len (a := first.data.toList) (ns := ns.take k) (fun m hm => HI.out m (List.mem_of_mem_take hm))
      rw [List.length_take] at hll
      have hf := format_c n wr hi (HE.out.below HWR.out.below hB)
      obtain ⟨s2, hs2⟩ : ∃ s2, s2 = mk (Lib.itoa n) := ⟨_, rfl⟩
      have hz : s2.size ≤ 20 := by rw [hs2, mk_size]; exact hil
      have hd2 : s2.data.toList = Lib.itoa n := by rw [hs2, data_mk]
      rw [← hs2] at hf
      have HD2 := Lib.hid hd2
      clear hs2 hd2
      have HF := Lib.hid hf
      clear hrd hn hi hf
      go_wp2_with fail
      refine HF.out.mono ?_
      rintro e w2 ⟨rfl, hb2⟩
      have hB2 := HBL.out.below hb2
      have hz2 := hb2.size
      have HB2 := Lib.hid hB2
      have HW2 := Lib.hid (HWR.out.trans (Wrote.of_below hb2 (by omega)))
      clear hb2 hB2 hc
      go_wp2_with fail
      refine (write_c B b _ _ w2 HB2.out ?_ (by omega)).mono ?_
      · rw [List.length_append]
        have : (ByteArray.mk #[32] ++ s2).size = 1 + s2.size := cat_size _ _
        omega
      rintro e w3 ⟨rfl, h1, h2⟩
      have HB3 := Lib.hid h1
      have HW3 := Lib.hid h2
      clear h1 h2
      go_wp2_with fail
      go_roundw
      case rel =>
        refine ⟨k + 1, by omega, by go_num, ?_, HW2.out.trans HW3.out⟩
        have := HB3.out
        rw [cat_list, HD2.out, List.append_assoc] at this
        rw [HT.out, ← HN.out]
        unfold lineW at this ⊢
        rw [List.map_append, List.map_cons, List.map_nil, lineB_snoc]
        exact this
      case measure => simp [intOf]; omega
    · have hkn : k = ns.length := by omega
      subst hkn
      have hll := lineW_len (a := first.data.toList) (ns := ns) HI.out
      have hbl := HBL.out
      rw [List.take_length] at hbl
      have HBL2 := Lib.hid hbl
      clear hbl
      go_wp2_with fail
      refine (write_c B b _ _ wr HBL2.out ?_ (by omega)).mono ?_
      · rw [List.length_append]
        have : (ByteArray.mk #[10]).size = 1 := rfl
        omega
      rintro e w3 ⟨rfl, h1, h2⟩
      have HB3 := Lib.hid h1
      have HW3 := Lib.hid h2
      clear h1 h2
      go_wp2_with fail
      go_end0
      have := HB3.out
      rw [List.append_assoc] at this
      exact ⟨rfl, this, HWR.out.trans HW3.out⟩
end Go.Proofs.YtdgifgdadminbaaDoor
