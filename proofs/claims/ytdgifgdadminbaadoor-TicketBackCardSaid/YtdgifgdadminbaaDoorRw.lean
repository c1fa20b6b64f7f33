/- The reader's numbers: wholes, long. Written by this session. -/
import Derived.Test.YtdgifgdadminbaaDoorRd
set_option linter.unusedSimpArgs false
set_option linter.unusedVariables false
set_option maxRecDepth 100000
namespace Go.Proofs.YtdgifgdadminbaaDoor
open Go.RowKit Go.Proofs.YtdgifgdadminbaaDoorW.PrintWords Sp
open PFileParses (wrap_id ba_len toList_data info3 info2 info9)

set_option maxHeartbeats 4000000 in
theorem long_c (R : Nat) (A c lines) (at_ : Int) (s : ByteArray) (w : World) (h : Rd R A c lines at_ w) (hs : s.size < 4294967281) :
    Calls Tryd.prog 71 #[.pointer (some ⟨R, 0, none⟩), .string s] w fun e w' => ((longS s).2 ≠ 0 → Fell at_ (longS s).2 e) ∧ ((longS s).2 = 0 → e = .returned (.int .i64 (longS s).1)) ∧ Drawn0 w w' := by
  have hr := read_walk s w h.env hs
  unfold readAns at hr
  obtain ⟨n, er, hne⟩ : ∃ n er, readS s = (n, er) := ⟨_, _, rfl⟩
  rw [hne] at hr
  have hf := fun er w1 (hd : Drawn0 w w1) => fail_c R A c lines at_ er w1 (h.below (drawn_below (Below.refl _ _) hd))
  have HF := Lib.hid hf
  clear hf h
  by_cases he : er = 0
  · subst he
    by_cases hn : n < 0
    · have hl : longS s = (n, 23) := by unfold longS; rw [hne, if_pos ⟨rfl, hn⟩]
      have HL := Lib.hid hl
      have hb : decide (n < (0 : Int)) = true := decide_eq_true hn
      clear hl hn
      go_enter Tryd.func71, Tryd.ntmps71
      go_wp2_with fail
      refine hr.mono ?_
      rintro e w1 ⟨rfl, hd⟩
      go_wp2_with fail
      refine (HF.out 23 _ hd).mono ?_
      rintro e w2 ⟨he, rfl⟩
      unfold Fell at he
      subst he
      go_wp2_with fail
      refine ⟨rfl, ?_⟩
      rw [HL.out]
      exact ⟨fun _ => rfl, fun h => absurd h (fun h => by cases h), hd⟩
    · have hl : longS s = (n, 0) := by unfold longS; rw [hne, if_neg (by rintro ⟨_, h⟩; exact hn h)]
      have HL := Lib.hid hl
      have hb : decide (n < (0 : Int)) = false := decide_eq_false hn
      clear hl hn
      go_enter Tryd.func71, Tryd.ntmps71
      go_wp2_with fail
      refine hr.mono ?_
      rintro e w1 ⟨rfl, hd⟩
      go_wp2_with fail
      go_ret
      rw [HL.out]
      exact ⟨fun h => absurd rfl h, fun _ => rfl, hd⟩
  · have hl : longS s = (n, er) := by unfold longS; rw [hne, if_neg (by rintro ⟨h, _⟩; exact he h)]
    have HL := Lib.hid hl
    have hb : (er == 0) = false := by simpa using he
    go_enter Tryd.func71, Tryd.ntmps71
    go_wp2_with fail
    refine hr.mono ?_
    rintro e w1 ⟨rfl, hd⟩
    go_wp2_with fail
    refine (HF.out er _ hd).mono ?_
    rintro e w2 ⟨hx, rfl⟩
    unfold Fell at hx
    subst hx
    go_wp2_with fail
    refine ⟨rfl, ?_⟩
    rw [HL.out]
    exact ⟨fun _ => rfl, fun h => absurd h he, hd⟩

def wholesQ (w : World) (ns : List Int) (e : Ending) (w' : World) : Prop :=
  ∃ v, e = .returned v ∧ Kd.R (Kd.int .i64) 3 w' w.heap.size (fun _ => True) v ns ∧ Below w.heap.size w w'

set_option maxHeartbeats 4000000 in
theorem wholes_c (R : Nat) (A c lines) (at_ : Int) (A' : Option Addr) (c' : Nat) (ws : List ByteArray) (w : World) (h : Rd R A c lines at_ w)
    (hC : Kd.string.C w A' ws.length ws) (hlen : ws.length ≤ 8192) (hs : ∀ x ∈ ws, x.size < 4294967281) :
    Calls Tryd.prog 70 #[.pointer (some ⟨R, 0, none⟩), .slice A' ws.length c'] w fun e w' => Ans R at_ w (readAll wholeS ws) (wholesQ w) e w' := by
  have H := Lib.hid h
  have HC := Lib.hid hC
  have HS := Lib.hid hs
  clear h hC hs
  go_enter Tryd.func70, Tryd.ntmps70
  go_wp2_with fail
  go_loopw [5, 7, 8, 9, 12] (fun out _ _ _ i wr => ∃ k : Nat, k ≤ ws.length ∧ i = .int .i64 k ∧ (∀ x ∈ ws.take k, (wholeS x).2 = 0) ∧ Kd.R (Kd.int .i64) 3 wr w.heap.size (fun _ => True) out ((ws.take k).map fun x => (wholeS x).1) ∧ Below w.heap.size w wr) (fun _ _ _ _ i _ => ws.length - (intOf i).toNat)
  case atStart => exact ⟨0, Nat.zero_le _, rfl, by simp, Kd.R_nil _ _ _ _ _, Below.refl _ _⟩
  case round =>
    obtain ⟨k, hk, rfl, hall, hO, hB⟩ := hrel
    have HALL := Lib.hid hall
    have HO := Lib.hid hO
    have HB := Lib.hid hB
    clear hall hO hB
    by_cases hlt : k < ws.length
    · obtain ⟨ad, rfl, hc⟩ := Kd.at_string (Kd.C_below HC.out HB.out) k (by omega) (by omega)
      rw [Int.toNat_natCast] at hc
      have hrd : rdOf ByteArray.empty ws (k : Int) = ws[k]'hlt := by
        unfold rdOf
        rw [Int.toNat_natCast, List.getD_eq_getElem?_getD, List.getElem?_eq_getElem hlt]
        rfl
      rw [hrd] at hc
      have hxk := HS.out (ws[k]'hlt) (List.getElem_mem hlt)
      clear hrd
      go_wp2_with fail
      refine (whole_walk (ws[k]'hlt) _ (H.out.below HB.out).env hxk).mono ?_
      rintro e w2 ⟨rfl, hd2⟩
      obtain ⟨n, er, hne⟩ : ∃ n er, wholeS (ws[k]'hlt) = (n, er) := ⟨_, _, rfl⟩
      rw [hne]
      dsimp only
      have HNE := Lib.hid hne
      clear hne
      have HB2 := Lib.hid (drawn_below HB.out hd2)
      have HO2 := Lib.hid (R_drawn HO.out hd2)
      by_cases he : er = 0
      · subst he
        go_wp2_with (first | ((with_reducible refine gate_builtin (b := .append) (xs := #[.tmp 26, .tmp 28]) rfl ?_); at_builtin; refine Kd.R_append (Kd.int .i64) (w0 := w) w.heap.size rfl (.tmp 26) (.tmp 28) 25 3 (.int .i64 0) 8 rfl Tryd.underlying25 info3 rfl (by decide) (by omega) u5 ((ws.take k).map fun x => (wholeS x).1) n [.int .i64 n] (fun _ => True) (fun _ => False) rfl rfl ?aP (fun _ hk => hk.elim) ?aF ?aO ?aB ?aS ?aL ?_; (case aP => exact rfl); (case aB => exact HB2.out); (case aF => exact (fun _ _ => trivial)); (case aO => exact HO2.out); (case aS => exact HB2.out.size); (case aL => (have := List.length_take_le k ws; rw [List.length_map]; omega)); intro v155 w13 ho hb hg hat; have n0_ := Lib.hid hb; have n1_ := Lib.hid ho; clear ho hb hg hat))
        go_roundw
        case rel =>
          refine ⟨k + 1, by omega, by go_num, ?_, ?_, n0_.out⟩
          · intro x hx
            rw [List.take_succ_eq_append_getElem hlt] at hx
            rcases List.mem_append.1 hx with hx | hx
            · exact HALL.out x hx
            · rw [List.mem_singleton.1 hx, HNE.out]
          · have h1 := n1_.out
            rw [List.take_succ_eq_append_getElem hlt, List.map_append]
            simpa [HNE.out] using h1
        case measure => simp [intOf]; omega
      · have hb : (er == 0) = false := by simpa using he
        have HE := Lib.hid he
        clear he
        go_wp2_with fail
        refine (fail_c R A c lines at_ er _ (H.out.below HB2.out)).mono ?_
        rintro e w3 ⟨hx, rfl⟩
        unfold Fell at hx
        subst hx
        go_wp2_with fail
        refine ⟨rfl, ?_⟩
        unfold Ans
        rw [readAll_bad hlt HALL.out (by rw [HNE.out]; exact HE.out), HNE.out]
        exact ⟨rfl, HB2.out.mono (Nat.le_of_lt H.out.lt)⟩
    · have hk' : k = ws.length := by omega
      subst hk'
      go_wp2_with fail
      go_ret
      unfold Ans
      have h1 := HALL.out
      rw [List.take_length] at h1
      rw [readAll_ok h1]
      have h2 := HO.out
      rw [List.take_length] at h2
      exact ⟨_, rfl, h2, HB.out⟩
end Go.Proofs.YtdgifgdadminbaaDoor
