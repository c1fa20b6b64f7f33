/- slices.IndexFunc, ContainsFunc at the instances of layer file. Written by this session (by xf.py). -/
import Derived.Test.YtdgifgdadminbaaDoorRq
set_option linter.unusedSimpArgs false
set_option linter.unusedVariables false
set_option maxRecDepth 100000
namespace Go.Proofs.YtdgifgdadminbaaDoor
open Go.RowKit Go.Proofs.YtdgifgdadminbaaDoorW.PrintWords Sp
open PFileParses (wrap_id ba_len toList_data info3 info2 info9)

/-- A row of cells. -/
structure Elems (w : World) (A : Option Addr) (n : Nat) (vs : List Value) : Prop where
  len : vs.length = n
  small : n ≤ 9223372036854775807
  at_ : ∀ j (h : j < vs.length), ∃ ad, A = some ad ∧ w.cell? (ad.add j) = some (vs[j]'h)
theorem Elems.below {w w' : World} {A : Option Addr} {n : Nat} {vs : List Value} (h : Elems w A n vs) (hb : Below w.heap.size w w') : Elems w' A n vs :=
  ⟨h.len, h.small, fun j hj => by
    obtain ⟨ad, e, hc⟩ := h.at_ j hj
    exact ⟨ad, e, cell_below hc hb⟩⟩
/-- F is a function with a body. -/
def Enters (F : Nat) : Prop := ∀ (args : Array Value) (w : World), (callFunc F args).run Tryd.prog w = .ok (.enter F args) w
/-- A function value that answers p j at the j-th cell. -/
def PredAt (F : Nat) (w : World) (vs : List Value) (p : Nat → Bool) : Prop :=
  ∀ j (h : j < vs.length) (w' : World), Below w.heap.size w w' → Calls Tryd.prog F #[vs[j]'h] w' fun e w'' => e = .returned (.bool (p j)) ∧ Below w'.heap.size w' w''
def Found (n : Nat) (p : Nat → Bool) (w : World) (e : Ending) (w' : World) : Prop := ∃ i : Int, e = .returned (.int .i64 i) ∧ decide (0 ≤ i) = (List.range n).any p ∧ Below w.heap.size w w'
theorem enters_of {F : Nat} {fn : Func} {c : Code} (hf : Tryd.prog.funcs[F]? = some fn) (hname : (fn.name == "runtime.NumGoroutine") = false) (hb : fn.body = some c) : Enters F := fun args w => by
  have hn : ¬ fn.name = "runtime.NumGoroutine" := by simpa using hname
  simp [callFunc, hf, hn, hb, go_sem]
theorem enters_79 : Enters 79 := enters_of Tryd.func79 (by kernel_rfl) rfl
theorem enters_83 : Enters 83 := enters_of Tryd.func83 (by kernel_rfl) rfl
theorem enters_76 : Enters 76 := enters_of Tryd.func76 (by kernel_rfl) rfl
theorem enters_77 : Enters 77 := enters_of Tryd.func77 (by kernel_rfl) rfl
theorem enters_81 : Enters 81 := enters_of Tryd.func81 (by kernel_rfl) rfl
theorem any_hit {n k : Nat} {p : Nat → Bool} (hk : k < n) (h : p k = true) : (List.range n).any p = true := List.any_eq_true.2 ⟨k, List.mem_range.2 hk, h⟩
theorem any_none {n : Nat} {p : Nat → Bool} (h : ∀ j, j < n → p j = false) : (List.range n).any p = false := by
  rw [List.any_eq_false]
  intro j hj
  rw [h j (List.mem_range.1 hj)]
  exact Bool.false_ne_true

set_option maxHeartbeats 1000000 in
theorem indexFunc_107 (F : Nat) (A : Option Addr) (c : Nat) (vs : List Value) (p : Nat → Bool) (w : World) (hE : Elems w A vs.length vs) (hF : Enters F) (hP : PredAt F w vs p) :
    Calls Tryd.prog 107 #[.slice A vs.length c, .func (.func F) #[] #[]] w fun e w' => Found vs.length p w e w' := by
  have hsm := hE.small
  have HE := Lib.hid hE
  have HP := Lib.hid hP
  clear hE hP
  go_enter Tryd.func107, Tryd.ntmps107
  go_wp2_with fail
  go_loopw [5, 8] (fun _ i wr => ∃ k : Nat, k ≤ vs.length ∧ i = .int .i64 k ∧ (∀ j, j < k → p j = false) ∧ Below w.heap.size w wr) (fun _ i _ => vs.length - (intOf i).toNat)
  case atStart => exact ⟨0, Nat.zero_le _, rfl, fun j hj => absurd hj (Nat.not_lt_zero _), Below.refl _ _⟩
  case round =>
    obtain ⟨k, hk, rfl, hno, hB⟩ := hrel
    have HN := Lib.hid hno
    have HB := Lib.hid hB
    clear hno hB
    by_cases hlt : k < vs.length
    · obtain ⟨ad, rfl, hc⟩ := (HE.out.below HB.out).at_ k hlt
      obtain ⟨v, hv⟩ : ∃ v, v = vs[k]'hlt := ⟨_, rfl⟩
      rw [← hv] at hc
      have hC := HP.out k hlt wr HB.out
      rw [← hv] at hC
      obtain ⟨b, hb⟩ : ∃ b, p k = b := ⟨_, rfl⟩
      rw [hb] at hC
      have HC := Lib.hid hC
      have HBK := Lib.hid hb
      clear hC hv hb
      have hf := hF #[v]
      go_wp2_with fail
      refine HC.out.mono ?_
      rintro e w2 ⟨rfl, hb2⟩
      have HB2 := Lib.hid (HB.out.trans (hb2.mono HB.out.size))
      clear hb2 hc hf
      cases b
      · go_wp2_with fail
        go_roundw
        case rel =>
          refine ⟨k + 1, by omega, by go_num, fun j hj => ?_, HB2.out⟩
          by_cases hjk : j < k
          · exact HN.out j hjk
          · have : j = k := by omega
            rw [this]
            exact HBK.out
        case measure => simp [intOf]; omega
      · go_wp2_with fail
        go_ret
        exact ⟨k, rfl, by rw [any_hit hlt HBK.out, decide_eq_true (by omega)], HB2.out⟩
    · go_wp2_with fail
      go_ret
      have hkn : k = vs.length := by omega
      exact ⟨-1, rfl, by rw [any_none (fun j hj => HN.out j (by omega))]; rfl, HB.out⟩
theorem containsFunc_75 (F : Nat) (A : Option Addr) (c : Nat) (vs : List Value) (p : Nat → Bool) (w : World) (hE : Elems w A vs.length vs) (hF : Enters F) (hP : PredAt F w vs p) :
    Calls Tryd.prog 75 #[.slice A vs.length c, .func (.func F) #[] #[]] w fun e w' => e = .returned (.bool ((List.range vs.length).any p)) ∧ Below w.heap.size w w' := by
  have H := Lib.hid (indexFunc_107 F A c vs p w hE hF hP)
  clear hE hF hP
  go_enter Tryd.func75, Tryd.ntmps75
  go_wp2_with fail
  refine H.out.mono ?_
  rintro e w' ⟨i, rfl, hi, hB⟩
  have HI := Lib.hid hi
  have HB := Lib.hid hB
  clear hi hB
  go_wp2_with fail
  go_ret
  rw [← HI.out]
  exact ⟨rfl, HB.out⟩

set_option maxHeartbeats 1000000 in
theorem indexFunc_108 (F : Nat) (A : Option Addr) (c : Nat) (vs : List Value) (p : Nat → Bool) (w : World) (hE : Elems w A vs.length vs) (hF : Enters F) (hP : PredAt F w vs p) :
    Calls Tryd.prog 108 #[.slice A vs.length c, .func (.func F) #[] #[]] w fun e w' => Found vs.length p w e w' := by
  have hsm := hE.small
  have HE := Lib.hid hE
  have HP := Lib.hid hP
  clear hE hP
  go_enter Tryd.func108, Tryd.ntmps108
  go_wp2_with fail
  go_loopw [5, 8] (fun _ i wr => ∃ k : Nat, k ≤ vs.length ∧ i = .int .i64 k ∧ (∀ j, j < k → p j = false) ∧ Below w.heap.size w wr) (fun _ i _ => vs.length - (intOf i).toNat)
  case atStart => exact ⟨0, Nat.zero_le _, rfl, fun j hj => absurd hj (Nat.not_lt_zero _), Below.refl _ _⟩
  case round =>
    obtain ⟨k, hk, rfl, hno, hB⟩ := hrel
    have HN := Lib.hid hno
    have HB := Lib.hid hB
    clear hno hB
    by_cases hlt : k < vs.length
    · obtain ⟨ad, rfl, hc⟩ := (HE.out.below HB.out).at_ k hlt
      obtain ⟨v, hv⟩ : ∃ v, v = vs[k]'hlt := ⟨_, rfl⟩
      rw [← hv] at hc
      have hC := HP.out k hlt wr HB.out
      rw [← hv] at hC
      obtain ⟨b, hb⟩ : ∃ b, p k = b := ⟨_, rfl⟩
      rw [hb] at hC
      have HC := Lib.hid hC
      have HBK := Lib.hid hb
      clear hC hv hb
      have hf := hF #[v]
      go_wp2_with fail
      refine HC.out.mono ?_
      rintro e w2 ⟨rfl, hb2⟩
      have HB2 := Lib.hid (HB.out.trans (hb2.mono HB.out.size))
      clear hb2 hc hf
      cases b
      · go_wp2_with fail
        go_roundw
        case rel =>
          refine ⟨k + 1, by omega, by go_num, fun j hj => ?_, HB2.out⟩
          by_cases hjk : j < k
          · exact HN.out j hjk
          · have : j = k := by omega
            rw [this]
            exact HBK.out
        case measure => simp [intOf]; omega
      · go_wp2_with fail
        go_ret
        exact ⟨k, rfl, by rw [any_hit hlt HBK.out, decide_eq_true (by omega)], HB2.out⟩
    · go_wp2_with fail
      go_ret
      have hkn : k = vs.length := by omega
      exact ⟨-1, rfl, by rw [any_none (fun j hj => HN.out j (by omega))]; rfl, HB.out⟩
theorem containsFunc_78 (F : Nat) (A : Option Addr) (c : Nat) (vs : List Value) (p : Nat → Bool) (w : World) (hE : Elems w A vs.length vs) (hF : Enters F) (hP : PredAt F w vs p) :
    Calls Tryd.prog 78 #[.slice A vs.length c, .func (.func F) #[] #[]] w fun e w' => e = .returned (.bool ((List.range vs.length).any p)) ∧ Below w.heap.size w w' := by
  have H := Lib.hid (indexFunc_108 F A c vs p w hE hF hP)
  clear hE hF hP
  go_enter Tryd.func78, Tryd.ntmps78
  go_wp2_with fail
  refine H.out.mono ?_
  rintro e w' ⟨i, rfl, hi, hB⟩
  have HI := Lib.hid hi
  have HB := Lib.hid hB
  clear hi hB
  go_wp2_with fail
  go_ret
  rw [← HI.out]
  exact ⟨rfl, HB.out⟩

set_option maxHeartbeats 1000000 in
theorem indexFunc_109 (F : Nat) (A : Option Addr) (c : Nat) (vs : List Value) (p : Nat → Bool) (w : World) (hE : Elems w A vs.length vs) (hF : Enters F) (hP : PredAt F w vs p) :
    Calls Tryd.prog 109 #[.slice A vs.length c, .func (.func F) #[] #[]] w fun e w' => Found vs.length p w e w' := by
  have hsm := hE.small
  have HE := Lib.hid hE
  have HP := Lib.hid hP
  clear hE hP
  go_enter Tryd.func109, Tryd.ntmps109
  go_wp2_with fail
  go_loopw [5, 8] (fun _ i wr => ∃ k : Nat, k ≤ vs.length ∧ i = .int .i64 k ∧ (∀ j, j < k → p j = false) ∧ Below w.heap.size w wr) (fun _ i _ => vs.length - (intOf i).toNat)
  case atStart => exact ⟨0, Nat.zero_le _, rfl, fun j hj => absurd hj (Nat.not_lt_zero _), Below.refl _ _⟩
  case round =>
    obtain ⟨k, hk, rfl, hno, hB⟩ := hrel
    have HN := Lib.hid hno
    have HB := Lib.hid hB
    clear hno hB
    by_cases hlt : k < vs.length
    · obtain ⟨ad, rfl, hc⟩ := (HE.out.below HB.out).at_ k hlt
      obtain ⟨v, hv⟩ : ∃ v, v = vs[k]'hlt := ⟨_, rfl⟩
      rw [← hv] at hc
      have hC := HP.out k hlt wr HB.out
      rw [← hv] at hC
      obtain ⟨b, hb⟩ : ∃ b, p k = b := ⟨_, rfl⟩
      rw [hb] at hC
      have HC := Lib.hid hC
      have HBK := Lib.hid hb
      clear hC hv hb
      have hf := hF #[v]
      go_wp2_with fail
      refine HC.out.mono ?_
      rintro e w2 ⟨rfl, hb2⟩
      have HB2 := Lib.hid (HB.out.trans (hb2.mono HB.out.size))
      clear hb2 hc hf
      cases b
      · go_wp2_with fail
        go_roundw
        case rel =>
          refine ⟨k + 1, by omega, by go_num, fun j hj => ?_, HB2.out⟩
          by_cases hjk : j < k
          · exact HN.out j hjk
          · have : j = k := by omega
            rw [this]
            exact HBK.out
        case measure => simp [intOf]; omega
      · go_wp2_with fail
        go_ret
        exact ⟨k, rfl, by rw [any_hit hlt HBK.out, decide_eq_true (by omega)], HB2.out⟩
    · go_wp2_with fail
      go_ret
      have hkn : k = vs.length := by omega
      exact ⟨-1, rfl, by rw [any_none (fun j hj => HN.out j (by omega))]; rfl, HB.out⟩
theorem containsFunc_80 (F : Nat) (A : Option Addr) (c : Nat) (vs : List Value) (p : Nat → Bool) (w : World) (hE : Elems w A vs.length vs) (hF : Enters F) (hP : PredAt F w vs p) :
    Calls Tryd.prog 80 #[.slice A vs.length c, .func (.func F) #[] #[]] w fun e w' => e = .returned (.bool ((List.range vs.length).any p)) ∧ Below w.heap.size w w' := by
  have H := Lib.hid (indexFunc_109 F A c vs p w hE hF hP)
  clear hE hF hP
  go_enter Tryd.func80, Tryd.ntmps80
  go_wp2_with fail
  refine H.out.mono ?_
  rintro e w' ⟨i, rfl, hi, hB⟩
  have HI := Lib.hid hi
  have HB := Lib.hid hB
  clear hi hB
  go_wp2_with fail
  go_ret
  rw [← HI.out]
  exact ⟨rfl, HB.out⟩

set_option maxHeartbeats 1000000 in
theorem indexFunc_110 (F : Nat) (A : Option Addr) (c : Nat) (vs : List Value) (p : Nat → Bool) (w : World) (hE : Elems w A vs.length vs) (hF : Enters F) (hP : PredAt F w vs p) :
    Calls Tryd.prog 110 #[.slice A vs.length c, .func (.func F) #[] #[]] w fun e w' => Found vs.length p w e w' := by
  have hsm := hE.small
  have HE := Lib.hid hE
  have HP := Lib.hid hP
  clear hE hP
  go_enter Tryd.func110, Tryd.ntmps110
  go_wp2_with fail
  go_loopw [5, 8] (fun _ i wr => ∃ k : Nat, k ≤ vs.length ∧ i = .int .i64 k ∧ (∀ j, j < k → p j = false) ∧ Below w.heap.size w wr) (fun _ i _ => vs.length - (intOf i).toNat)
  case atStart => exact ⟨0, Nat.zero_le _, rfl, fun j hj => absurd hj (Nat.not_lt_zero _), Below.refl _ _⟩
  case round =>
    obtain ⟨k, hk, rfl, hno, hB⟩ := hrel
    have HN := Lib.hid hno
    have HB := Lib.hid hB
    clear hno hB
    by_cases hlt : k < vs.length
    · obtain ⟨ad, rfl, hc⟩ := (HE.out.below HB.out).at_ k hlt
      obtain ⟨v, hv⟩ : ∃ v, v = vs[k]'hlt := ⟨_, rfl⟩
      rw [← hv] at hc
      have hC := HP.out k hlt wr HB.out
      rw [← hv] at hC
      obtain ⟨b, hb⟩ : ∃ b, p k = b := ⟨_, rfl⟩
      rw [hb] at hC
      have HC := Lib.hid hC
      have HBK := Lib.hid hb
      clear hC hv hb
      have hf := hF #[v]
      go_wp2_with fail
      refine HC.out.mono ?_
      rintro e w2 ⟨rfl, hb2⟩
      have HB2 := Lib.hid (HB.out.trans (hb2.mono HB.out.size))
      clear hb2 hc hf
      cases b
      · go_wp2_with fail
        go_roundw
        case rel =>
          refine ⟨k + 1, by omega, by go_num, fun j hj => ?_, HB2.out⟩
          by_cases hjk : j < k
          · exact HN.out j hjk
          · have : j = k := by omega
            rw [this]
            exact HBK.out
        case measure => simp [intOf]; omega
      · go_wp2_with fail
        go_ret
        exact ⟨k, rfl, by rw [any_hit hlt HBK.out, decide_eq_true (by omega)], HB2.out⟩
    · go_wp2_with fail
      go_ret
      have hkn : k = vs.length := by omega
      exact ⟨-1, rfl, by rw [any_none (fun j hj => HN.out j (by omega))]; rfl, HB.out⟩
theorem containsFunc_82 (F : Nat) (A : Option Addr) (c : Nat) (vs : List Value) (p : Nat → Bool) (w : World) (hE : Elems w A vs.length vs) (hF : Enters F) (hP : PredAt F w vs p) :
    Calls Tryd.prog 82 #[.slice A vs.length c, .func (.func F) #[] #[]] w fun e w' => e = .returned (.bool ((List.range vs.length).any p)) ∧ Below w.heap.size w w' := by
  have H := Lib.hid (indexFunc_110 F A c vs p w hE hF hP)
  clear hE hF hP
  go_enter Tryd.func82, Tryd.ntmps82
  go_wp2_with fail
  refine H.out.mono ?_
  rintro e w' ⟨i, rfl, hi, hB⟩
  have HI := Lib.hid hi
  have HB := Lib.hid hB
  clear hi hB
  go_wp2_with fail
  go_ret
  rw [← HI.out]
  exact ⟨rfl, HB.out⟩
end Go.Proofs.YtdgifgdadminbaaDoor
