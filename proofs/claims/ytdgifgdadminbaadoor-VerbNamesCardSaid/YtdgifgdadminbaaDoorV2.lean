/- Layer verb: Name, kind, length, wholes, fill. Written by this session. -/
import Derived.Test.YtdgifgdadminbaaDoorV1
import Derived.Test.YtdgifgdadminbaaDoorRd
set_option linter.unusedSimpArgs false
set_option linter.unusedVariables false
set_option maxRecDepth 100000
namespace Go.Proofs.YtdgifgdadminbaaDoor
open Go.RowKit Go.Proofs.YtdgifgdadminbaaDoorW.PrintWords Sp
open PFileParses (wrap_id ba_len bt_nat toList_data info3 info2 info9)

structure EnvV (w : World) : Prop where
  env : Env w
  names : ∀ (j : Nat) (l : List UInt8), nameT[j]? = some l → w.cell? ⟨0, j, none⟩ = some (.string (mk l))
theorem EnvV.below {B : Nat} {w w' : World} (h : EnvV w) (hb : Below B w w') (hB : 3 ≤ B) : EnvV w' := by
  refine ⟨h.env.below hb hB, fun j l hj => ?_⟩
  rw [hb.cell (p := ⟨0, j, none⟩) (show 0 < B by omega)]
  exact h.names j l hj
theorem EnvV.size {w : World} (h : EnvV w) : 3 ≤ w.heap.size := h.env.size
theorem name_c (k : Int) (w : World) (hE : EnvV w) :
    Calls Tryd.prog 25 #[.int .i64 k] w fun e w' => e = .returned (.string (mk (nameL k))) ∧ w' = w := by
  by_cases h1 : k < 1
  · have g1 : decide (k < 1) = true := decide_eq_true h1
    rw [(nameL_nil k).2 (by omega)]
    go_enter Tryd.func25, Tryd.ntmps25
    go_wp2_with fail
    go_ret
    exact ⟨rfl, rfl⟩
  · have g1 : decide (k < 1) = false := decide_eq_false h1
    by_cases h7 : 7 < k
    · have g2 : decide (7 < k) = true := decide_eq_true h7
      rw [(nameL_nil k).2 (by omega)]
      go_enter Tryd.func25, Tryd.ntmps25
      go_wp2_with fail
      go_ret
      exact ⟨rfl, rfl⟩
    · have g2 : decide (7 < k) = false := decide_eq_false h7
      obtain ⟨n, rfl⟩ : ∃ n : Nat, k = (n : Int) := ⟨k.toNat, by omega⟩
      have hn : n < 8 := by omega
      have hc : w.cell? ⟨0, n, none⟩ = some (.string (mk (nameL (n : Int)))) := by
        refine hE.names n _ ?_
        unfold nameL
        rw [if_neg h1, if_neg h7, Int.toNat_natCast, List.getD_eq_getElem?_getD]
        have : n < nameT.length := by simpa [nameT] using hn
        rw [List.getElem?_eq_getElem this]
        rfl
      go_enter Tryd.func25, Tryd.ntmps25
      go_wp2_with fail
      go_ret
      exact ⟨rfl, rfl⟩
theorem names_C {w : World} (hE : EnvV w) : Kd.string.C w (some ⟨0, 0, none⟩) nameB.length nameB := by
  refine ⟨rfl, by decide, fun _ => ⟨_, rfl, fun j p hj => ?_⟩⟩
  obtain ⟨l, hl, rfl⟩ : ∃ l, nameT[j]? = some l ∧ p = mk l := by
    unfold nameB at hj
    rw [List.getElem?_map] at hj
    cases h : nameT[j]? with
    | none => rw [h] at hj; cases hj
    | some l => rw [h] at hj; exact ⟨l, rfl, (Option.some.inj hj).symm⟩
  refine ⟨[.string (mk l)], rfl, rfl, fun i u hu => ?_⟩
  have hi : i = 0 := by
    have := (List.getElem?_eq_some_iff.1 hu).1
    simp at this
    exact this
  subst hi
  cases hu
  have := hE.names j l hl
  have e : j * Kd.string.sz + 0 = j := by show j * 1 + 0 = j; omega
  have e2 : (⟨0, 0, none⟩ : Addr).add j = ⟨0, j, none⟩ := by cases j <;> simp [Addr.add]
  rw [e, e2]
  exact this
theorem kind_c (s : ByteArray) (w : World) (hE : EnvV w) :
    Calls Tryd.prog 91 #[.string s] w fun e w' => e = .returned (.int .i64 (kindS s)) ∧ Drawn0 w w' := by
  have HI := Lib.hid (PVerbPrints.slices_Index_string_string.calls (nameB.length + 1) (some ⟨0, 0, none⟩) 8 nameB s _ w (names_C hE) (by decide) (index_f nameB s (by decide)))
  rw [show nameB.length = 8 from rfl] at HI
  obtain ⟨x, hx⟩ : ∃ x, x = idxOf s nameB 0 := ⟨_, rfl⟩
  obtain ⟨r, hr⟩ : ∃ r, r = kindS s := ⟨_, rfl⟩
  rw [← hx] at HI
  rw [← hr]
  unfold kindS at hr
  rw [← hx] at hr
  have HR := Lib.hid hr
  clear hx hr
  go_enter Tryd.func91, Tryd.ntmps91
  go_wp2_with fail
  refine HI.out.mono ?_
  rintro e w1 ⟨rfl, hd⟩
  have HD := Lib.hid hd
  clear hd
  by_cases h : 1 ≤ x
  · have g1 : decide (1 ≤ x) = true := decide_eq_true h
    have e1 : r = x := by rw [HR.out, if_pos h]
    subst e1
    go_wp2_with fail
    go_ret
    exact ⟨rfl, HD.out⟩
  · have g1 : decide (1 ≤ x) = false := decide_eq_false h
    have e1 : r = 0 := by rw [HR.out, if_neg h]
    subst e1
    go_wp2_with fail
    go_ret
    exact ⟨rfl, HD.out⟩
end Go.Proofs.YtdgifgdadminbaaDoor
