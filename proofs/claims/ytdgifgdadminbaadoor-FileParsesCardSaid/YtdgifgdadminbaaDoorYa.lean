/- The document's example: alive. Written by this session. -/
import Derived.Test.YtdgifgdadminbaaDoorX2
set_option linter.unusedSimpArgs false
set_option linter.unusedVariables false
set_option maxRecDepth 100000
namespace Go.Proofs.YtdgifgdadminbaaDoor
open Go.RowKit Go.Proofs.YtdgifgdadminbaaDoorW.PrintWords Sp
open PFileParses (wrap_id ba_len toList_data info3 info2 info9 rd_L1 rd_L2 at_L1 at_L2)

theorem itoa_small (n : Int) (h0 : 0 ≤ n) (h : n < 10) : Lib.itoa n = [UInt8.ofNat (48 + n.toNat)] := by
  unfold Lib.itoa
  rw [if_neg (by omega), Lib.decDigits, dif_pos (by omega)]
def px : Pl := ⟨[[0, 3]], [[0, 0]], [1], 0⟩
def tx : ByteArray := ⟨#[112, 108, 97, 110, 32, 49, 32, 48, 10, 114, 111, 117, 116, 101, 32, 48, 32, 51, 10, 116, 105, 109, 101, 115, 32, 48, 32, 48, 10, 108, 101, 102, 116, 32, 49, 10]⟩
def ty : ByteArray := ⟨#[112, 108, 97, 110, 32, 49, 32, 48, 10, 114, 111, 117, 116, 101, 32, 48, 32, 51, 10, 116, 105, 109, 101, 115, 32, 48, 10, 108, 101, 102, 116, 10]⟩
theorem px_good : Good px := (good_iff px).2 ⟨by decide, by decide, by decide⟩
theorem px_text : mk (textP px) = tx := by
  have i0 : Lib.itoa 0 = [48] := itoa_small 0 (by decide) (by decide)
  have i1 : Lib.itoa 1 = [49] := itoa_small 1 (by decide) (by decide)
  have i3 : Lib.itoa 3 = [51] := itoa_small 3 (by decide) (by decide)
  have e : textP px = tx.data.toList := by
    show joinL (linesP px) = _
    have : linesP px = [bPlan ++ 32 :: (Lib.itoa 1 ++ (32 :: Lib.itoa 0)), bRoute ++ 32 :: (Lib.itoa 0 ++ (32 :: Lib.itoa 3)), bTimes ++ 32 :: (Lib.itoa 0 ++ (32 :: Lib.itoa 0)), bLeft ++ 32 :: Lib.itoa 1] := by
      simp [linesP, lineW, lineB, px, pairs, two]
    rw [this, i0, i1, i3]
    rfl
  rw [e, mk_data]
theorem px_parse : parseS tx = .ok px := by
  rw [← px_text]
  refine parse_text px_good ?_
  have := congrArg ByteArray.size px_text
  rw [mk_size] at this
  rw [this]
  decide
theorem ty_parse : parseS ty = .error (3, 1) := by kernel_rfl
theorem em_parse : parseS ⟨#[]⟩ = .error (1, 20) := by kernel_rfl
theorem px_print : printS px = (textP px, 0) := printS_good px_good
def pz : Pl := ⟨[[]], [], [], 0⟩
theorem pz_print : printS pz = ([], 1) := by kernel_rfl

theorem parse_ok {s : ByteArray} {p : Pl} (h : parseS s = .ok p) (w : World) (hE : Env w) (hs : s.size < 4294967281) :
    Calls Tryd.prog 12 #[.string s] w fun e w' => ∃ A1 c1 A2 c2 A3 c3, e = .returned (.tuple #[.agg #[.slice A1 p.routes.length c1, .slice A2 p.times.length c2, .slice A3 p.left.length c3, .int .i64 p.cost], .int .i64 0, .int .i64 0]) ∧
      PlanR w.heap.size (.slice A1 p.routes.length c1) (.slice A2 p.times.length c2) (.slice A3 p.left.length c3) p w' ∧ Below w.heap.size w w' := by
  refine (parse_c s w hE hs).mono ?_
  rintro e w' ⟨hb, hq⟩
  rw [h] at hq
  obtain ⟨rv, tv, lv, rfl, hp⟩ := hq
  obtain ⟨A1, c1, rfl⟩ := Kd.R_slice hp.r
  obtain ⟨A2, c2, rfl⟩ := Kd.R_slice hp.t
  obtain ⟨A3, c3, rfl⟩ := Kd.R_slice hp.l
  exact ⟨A1, c1, A2, c2, A3, c3, rfl, hp, hb⟩
theorem parse_err {s : ByteArray} {x : Int × Int} (h : parseS s = .error x) (w : World) (hE : Env w) (hs : s.size < 4294967281) :
    Calls Tryd.prog 12 #[.string s] w fun e w' => e = .returned (.tuple #[.agg #[.slice none 0 0, .slice none 0 0, .slice none 0 0, .int .i64 0], .int .i64 x.1, .int .i64 x.2]) ∧ Below w.heap.size w w' := by
  refine (parse_c s w hE hs).mono ?_
  rintro e w' ⟨hb, hq⟩
  rw [h] at hq
  exact ⟨hq, hb⟩
/-- A plan in block b. -/
def Box (b : Nat) (A1 : Option Addr) (n1 c1 : Nat) (A2 : Option Addr) (n2 c2 : Nat) (A3 : Option Addr) (n3 c3 : Nat) (cost : Int) (w : World) : Prop :=
  w.cell? ⟨b, 0, none⟩ = some (.slice A1 n1 c1) ∧ w.cell? ⟨b, 1, none⟩ = some (.slice A2 n2 c2) ∧ w.cell? ⟨b, 2, none⟩ = some (.slice A3 n3 c3) ∧ w.cell? ⟨b, 3, none⟩ = some (.int .i64 cost)
theorem box_below {b n1 c1 n2 c2 n3 c3 : Nat} {A1 A2 A3 : Option Addr} {cost : Int} {W w' : World} (h : W.heap[b]? = some (.cells #[.slice A1 n1 c1, .slice A2 n2 c2, .slice A3 n3 c3, .int .i64 cost] 27 (0, 0))) (hb : Below W.heap.size W w') : Box b A1 n1 c1 A2 n2 c2 A3 n3 c3 cost w' := by
  have hlt : b < W.heap.size := by
    rcases Nat.lt_or_ge b W.heap.size with g | g
    · exact g
    · rw [Array.getElem?_eq_none g] at h; cases h
  have h := (hb.block _ hlt).trans h
  exact ⟨cell_of_heap h 0 rfl, cell_of_heap h 1 rfl, cell_of_heap h 2 rfl, cell_of_heap h 3 rfl⟩

theorem C_nil {α : Type} (d : Kd α) (w : World) (A : Option Addr) : d.C w A 0 ([] : List α) := ⟨rfl, by omega, fun h => absurd h (by omega)⟩
theorem C_one {w : World} {g g' : Nat} {t : TypeId} {fr : Nat × Nat} (h : w.heap[g]? = some (.cells #[.slice (some ⟨g', 0, none⟩) 0 0] t fr)) : kRow.C w (some ⟨g, 0, none⟩) 1 [[]] := by
  refine ⟨rfl, by omega, fun _ => ⟨_, rfl, fun j p hj => ?_⟩⟩
  match j, hj with
  | 0, hj =>
    cases hj
    refine ⟨[.slice (some ⟨g', 0, none⟩) 0 0], rfl, ⟨some ⟨g', 0, none⟩, 0, rfl, Nat.le_refl _, C_nil _ _ _⟩, fun i u hu => ?_⟩
    have hi : i = 0 := by
      have := (List.getElem?_eq_some_iff.1 hu).1
      simp at this
      exact this
    subst hi
    cases hu
    have := cell_of_heap h 0 rfl
    simpa [Addr.add] using this

set_option maxHeartbeats 8000000 in
theorem alive_c (w : World) (hE : Env w) : Calls Tryd.prog 11 #[] w fun e w' => e = .returned (.bool true) ∧ Below w.heap.size w w' := by
  have h3 := hE.size
  have hP1 := parse_ok px_parse w hE (by decide)
  rw [show px.routes.length = 1 from rfl, show px.times.length = 1 from rfl, show px.left.length = 1 from rfl, show px.cost = 0 from rfl] at hP1
  unfold tx at hP1
  have HE := Lib.hid hE
  have HP1 := Lib.hid hP1
  clear hP1 hE
  go_enter Tryd.func11, Tryd.ntmps11
  go_wp2_with fail
  refine HP1.out.mono ?_
  rintro e w1 ⟨A1, c1, A2, c2, A3, c3, rfl, hpr, hb1⟩
  have HPR := Lib.hid hpr
  have HB1 := Lib.hid hb1
  have hz1 := hb1.size
  clear hpr hb1
  go_upto_region 3 with fail
  obtain ⟨W, hW⟩ : ∃ W, W = w1.alloc (.cells #[.slice A1 1 c1, .slice A2 1 c2, .slice A3 1 c3, .int .i64 0] 27) := ⟨_, rfl⟩
  rw [← hW]
  have hbW : Below w1.heap.size w1 W := by rw [hW]; exact (Below.refl _ _).alloc (Nat.le_refl _) _
  have hn : W.heap[w1.heap.size]? = some (.cells #[.slice A1 1 c1, .slice A2 1 c2, .slice A3 1 c3, .int .i64 0] 27 (0, 0)) := by rw [hW]; exact heap_alloc_new w1 _
  have hzW : w1.heap.size < W.heap.size := by rw [hW]; simp
  have HN := Lib.hid hn
  have HBW := Lib.hid (HB1.out.trans (hbW.mono hz1))
  have HPRW := Lib.hid (HPR.out.below hbW)
  clear hW hbW hn
  have hP2 := parse_err ty_parse W (HE.out.below HBW.out h3) (by decide)
  unfold ty at hP2
  dsimp only at hP2
  have HP2 := Lib.hid hP2
  clear hP2
  go_wp2_with fail
  refine HP2.out.mono ?_
  rintro e w2 ⟨rfl, hb2⟩
  have HB2 := Lib.hid hb2
  have hz2 := hb2.size
  clear hb2
  go_upto_region 4 with fail
  obtain ⟨W2, hW2⟩ : ∃ W2, W2 = w2.alloc (.cells #[.slice none 0 0, .slice none 0 0, .slice none 0 0, .int .i64 0] 27) := ⟨_, rfl⟩
  rw [← hW2]
  have hbW2 : Below w2.heap.size w2 W2 := by rw [hW2]; exact (Below.refl _ _).alloc (Nat.le_refl _) _
  have HBW2 := Lib.hid (HB2.out.trans (hbW2.mono hz2))
  have hzW2 : W.heap.size ≤ W2.heap.size := HBW2.out.size
  clear hW2 hbW2
  have hP3 := parse_err em_parse W2 ((HE.out.below HBW.out h3).below HBW2.out (by omega)) (by decide)
  dsimp only at hP3
  have HP3 := Lib.hid hP3
  clear hP3
  go_wp2_with fail
  refine HP3.out.mono ?_
  rintro e w3 ⟨rfl, hb3⟩
  have HB3 := Lib.hid hb3
  have hz3 := hb3.size
  clear hb3
  go_upto_region 5 with fail
  obtain ⟨W3, hW3⟩ : ∃ W3, W3 = w3.alloc (.cells #[.slice none 0 0, .slice none 0 0, .slice none 0 0, .int .i64 0] 27) := ⟨_, rfl⟩
  rw [← hW3]
  have hbW3 : Below w3.heap.size w3 W3 := by rw [hW3]; exact (Below.refl _ _).alloc (Nat.le_refl _) _
  have HBW3 := Lib.hid (HBW2.out.trans ((HB3.out.trans (hbW3.mono hz3)).mono hzW2))
  have hzW3 : W.heap.size ≤ W3.heap.size := HBW3.out.size
  clear hW3 hbW3
  obtain ⟨c0, c1', c2', c3'⟩ := box_below HN.out HBW3.out
  have hP4 := print_c _ _ _ px W3 (HPRW.out.below HBW3.out).at_ ((HE.out.below HBW.out h3).below HBW3.out (by omega))
  unfold printQ at hP4
  rw [px_print, show px.cost = 0 from rfl] at hP4
  dsimp only at hP4
  rw [px_text] at hP4
  unfold tx at hP4
  have HP4 := Lib.hid hP4
  clear hP4
  go_wp2_with fail
  refine HP4.out.mono ?_
  rintro e w4 ⟨rfl, hb4⟩
  have HB4 := Lib.hid hb4
  have hz4 := hb4.size
  clear hb4 c0 c1' c2' c3'
  go_upto_region 6 with fail
  have hbW5 : Below w4.heap.size w4 ((w4.alloc (.cells #[] 3)).alloc (.cells #[.slice (some ⟨w4.heap.size, 0, none⟩) 0 0] 25)) := ((Below.refl _ _).alloc (Nat.le_refl _) _).alloc (by simp) _
  have hzz : w.heap.size ≤ W3.heap.size := by have := HBW.out.size; omega
  have hb34 : Below w.heap.size w w4 := (HBW.out.trans (HBW3.out.mono (by omega))).trans (HB4.out.mono hzz)
  have hP5 := print_c (.slice (some ⟨w4.heap.size + 1, 0, none⟩) 1 1) (.slice none 0 0) (.slice none 0 0) pz ((w4.alloc (.cells #[] 3)).alloc (.cells #[.slice (some ⟨w4.heap.size, 0, none⟩) 0 0] 25))
    ⟨⟨_, _, rfl, Nat.le_refl _, C_one (by have := heap_alloc_new (w4.alloc (.cells #[] 3)) (.cells #[.slice (some ⟨w4.heap.size, 0, none⟩) 0 0] 25); simpa using this)⟩, ⟨_, _, rfl, Nat.le_refl _, C_nil _ _ _⟩, ⟨_, _, rfl, Nat.le_refl _, C_nil _ _ _⟩⟩
    ((HE.out.below hb34 h3).below hbW5 (by omega))
  unfold printQ at hP5
  rw [pz_print, show pz.cost = 0 from rfl] at hP5
  dsimp only at hP5
  have HP5 := Lib.hid hP5
  have HB5 := Lib.hid (hb34.trans (hbW5.mono (by omega)))
  have HB34 := Lib.hid hb34
  have HBW5 := Lib.hid hbW5
  clear hP5 hbW5 hb34
  go_wp2_with fail
  refine HP5.out.mono ?_
  rintro e w5 ⟨rfl, hb5⟩
  have hz5 := hb5.size
  have HB6 := Lib.hid (HB5.out.trans (hb5.mono HB5.out.size))
  have hb45 := HBW5.out.trans (hb5.mono HBW5.out.size)
  have hbx := box_below HN.out (HBW3.out.trans ((HB4.out.mono hzW3).trans (hb45.mono (by omega))))
  obtain ⟨c0, c1', c2', c3'⟩ := hbx
  clear hb5
  go_wp2_with fail
  go_ret
  exact ⟨rfl, HB6.out⟩
end Go.Proofs.YtdgifgdadminbaaDoor
