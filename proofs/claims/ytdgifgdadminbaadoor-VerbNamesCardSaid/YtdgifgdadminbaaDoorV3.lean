/- Layer verb: wholes, fill. Written by this session. -/
import Derived.Test.YtdgifgdadminbaaDoorV2
set_option linter.unusedSimpArgs false
set_option linter.unusedVariables false
set_option maxRecDepth 100000
namespace Go.Proofs.YtdgifgdadminbaaDoor
open Go.RowKit Go.Proofs.YtdgifgdadminbaaDoorW.PrintWords Sp
open PFileParses (wrap_id ba_len bt_nat toList_data info3 info2 info9)

def ansV {α : Type} (r : Except Int (List α)) : List α × Int := match r with
  | .error e => ([], e)
  | .ok ns => (ns, 0)
set_option maxHeartbeats 4000000 in
theorem wholesV_c (A' : Option Addr) (c' : Nat) (ws : List ByteArray) (w : World) (hE : Env w)
    (hC : Kd.string.C w A' ws.length ws) (hlen : ws.length ≤ 8192) (hs : ∀ x ∈ ws, x.size < 4294967281) :
    Calls Tryd.prog 94 #[.slice A' ws.length c'] w fun e w' => ∃ v, e = .returned (.tuple #[v, .int .i64 (ansV (readAll wholeS ws)).2]) ∧ Kd.R (Kd.int .i64) 3 w' w.heap.size (fun _ => True) v (ansV (readAll wholeS ws)).1 ∧ Below w.heap.size w w' := by
  have H := Lib.hid hE
  have h3 := hE.size
  have HC := Lib.hid hC
  have HS := Lib.hid hs
  clear hE hC hs
  go_enter Tryd.func94, Tryd.ntmps94
  go_wp2_with fail
  go_loopw [4, 6, 7, 8, 11] (fun out _ _ _ i wr => ∃ k : Nat, k ≤ ws.length ∧ i = .int .i64 k ∧ (∀ x ∈ ws.take k, (wholeS x).2 = 0) ∧ Kd.R (Kd.int .i64) 3 wr w.heap.size (fun _ => True) out ((ws.take k).map fun x => (wholeS x).1) ∧ Below w.heap.size w wr) (fun _ _ _ _ i _ => ws.length - (intOf i).toNat)
  case atStart => exact ⟨0, Nat.zero_le _, rfl, by simp, Kd.R_nil _ _ _ _ _, Below.refl _ _⟩
  case round =>
    obtain ⟨k, hk, rfl, hall, hO, hB⟩ := hrel
    have HALL := Lib.hid hall
    have HO := Lib.hid hO
    have HB := Lib.hid hB
    clear hall hO hB
    by_cases hlt : k < ws.length
    · obtain ⟨ad, rfl, hc⟩ := Kd.at_string (Kd.C_below HC.out HB.out) k (by omega) (by omega)
      rw [Int.toNat_natCast] at hc
      have hrd : rdOf ByteArray.empty ws (k : Int) = ws[k]'hlt := by
        unfold rdOf
        rw [Int.toNat_natCast, List.getD_eq_getElem?_getD, List.getElem?_eq_getElem hlt]
        rfl
      rw [hrd] at hc
      have hxk := HS.out (ws[k]'hlt) (List.getElem_mem hlt)
      clear hrd
      go_wp2_with fail
      refine (whole_walk (ws[k]'hlt) _ (H.out.below HB.out h3) hxk).mono ?_
      rintro e w2 ⟨rfl, hd2⟩
      obtain ⟨n, er, hne⟩ : ∃ n er, wholeS (ws[k]'hlt) = (n, er) := ⟨_, _, rfl⟩
      rw [hne]
      dsimp only
      have HNE := Lib.hid hne
      clear hne
      have HB2 := Lib.hid (drawn_below HB.out hd2)
      have HO2 := Lib.hid (R_drawn HO.out hd2)
      clear hd2
      by_cases he : er = 0
      · subst he
        go_wp2_with (first | ((with_reducible refine gate_builtin (b := .append) (xs := #[.tmp 23, .tmp 25]) rfl ?_); at_builtin; refine Kd.R_append (Kd.int .i64) (w0 := w) w.heap.size rfl (.tmp 23) (.tmp 25) 25 3 (.int .i64 0) 8 rfl Tryd.underlying25 info3 rfl (by decide) (by omega) u4 ((ws.take k).map fun x => (wholeS x).1) n [.int .i64 n] (fun _ => True) (fun _ => False) rfl rfl ?aP (fun _ hk => hk.elim) ?aF ?aO ?aB ?aS ?aL ?_; (case aP => exact rfl); (case aB => exact HB2.out); (case aF => exact (fun _ _ => trivial)); (case aO => exact HO2.out); (case aS => exact HB2.out.size); (case aL => (have := List.length_take_le k ws; rw [List.length_map]; omega)); intro v155 w13 ho hb hg hat; have n0_ := Lib.hid hb; have n1_ := Lib.hid ho; clear ho hb hg hat))
        go_roundw
        case rel =>
          refine ⟨k + 1, by omega, by go_num, ?_, ?_, n0_.out⟩
          · intro x hx
            rw [List.take_succ_eq_append_getElem hlt] at hx
            rcases List.mem_append.1 hx with hx | hx
            · exact HALL.out x hx
            · rw [List.mem_singleton.1 hx, HNE.out]
          · have h1 := n1_.out
            rw [List.take_succ_eq_append_getElem hlt, List.map_append]
            simpa [HNE.out] using h1
        case measure => simp [intOf]; omega
      · have hb : (er != 0) = true := bne_iff_ne.2 he
        have hsp : ansV (readAll wholeS ws) = ([], er) := by rw [readAll_bad hlt HALL.out (by rw [HNE.out]; exact he), HNE.out]; rfl
        have HSP := Lib.hid hsp
        clear he hsp
        go_wp2_with fail
        go_ret2
        rw [HSP.out]
        exact ⟨_, rfl, Kd.R_nil _ _ _ _ _, HB2.out⟩
    · have hk' : k = ws.length := by omega
      subst hk'
      go_wp2_with fail
      go_ret2
      have h1 := HALL.out
      rw [List.take_length] at h1
      rw [readAll_ok h1]
      have h2 := HO.out
      rw [List.take_length] at h2
      exact ⟨_, rfl, h2, HB.out⟩

theorem fill_none_c (g : Nat) (A : Option Addr) (c : Nat) (w : World) :
    Calls Tryd.prog 95 #[.pointer (some ⟨g, 0, none⟩), .slice A 0 c] w fun e w' => e = .returned (.tuple #[]) ∧ w' = w := by
  go_enter Tryd.func95, Tryd.ntmps95
  go_wp2_with fail
  go_end0
  exact ⟨rfl, rfl⟩
def fillW (g : Nat) (n : Int) (v : Value) (w : World) : World := (w.setCell ⟨g, 2, none⟩ (.int .i64 n)).setCell ⟨g, 4, none⟩ v
set_option maxHeartbeats 4000000 in
theorem fill_c (g : Nat) (ad : Addr) (n : Nat) (c : Nat) (x : Int) (w : World) (a0 a1 a2 a3 a4 a5 : Value) (hb : w.heap[g]? = some (.cells #[a0, a1, a2, a3, a4, a5] 55 (0, 0))) (hn : 0 < n) (hc : n ≤ c) (hr : w.cell? ad = some (.int .i64 x)) :
    Calls Tryd.prog 95 #[.pointer (some ⟨g, 0, none⟩), .slice (some ad) n c] w fun e w' => e = .returned (.tuple #[]) ∧ w' = (fillW g x (.slice (if c = 1 then some ad else some ⟨ad.block, ad.off + 1, none⟩) (n - 1) (c - 1)) w).drew := by
  have c2 := cell_of_heap hb 2 rfl
  have c4 := cell_of_heap hb 4 rfl
  have f2 := frozen_of_heap hb 2
  have f4 := frozen_of_heap hb 4
  have mixed : Tryd.prog.follows Departure.mixedOrders = true := by kernel_rfl
  go_enter Tryd.func95, Tryd.ntmps95
  go_upto_region 1 with fail
  go_region
  all_goals (go_end0; exact ⟨rfl, rfl⟩)
end Go.Proofs.YtdgifgdadminbaaDoor
