/- VerbPrints: its walk. Written by this session. -/
import Derived.Test.YtdgifgdadminbaaDoorVa
set_option linter.unusedSimpArgs false
set_option linter.unusedVariables false
set_option maxRecDepth 100000
namespace Go.Proofs.YtdgifgdadminbaaDoor
open Go.RowKit Go.Proofs.YtdgifgdadminbaaDoorW.PrintWords Sp
open PFileParses (wrap_id ba_len bt_nat toList_data info3 info2 info9)

structure NumsV (c : Cmd) : Prop where
  n : I64 c.f1
  steps : I64 c.f2
  clock : I64 c.f3
  draws : ∀ n ∈ c.f4, I64 n
theorem fewV_fit {cs : List Cmd} (h : fewV cs = true) (hI : ∀ c ∈ cs, NumsV c) : (∀ c ∈ cs, Fit c) ∧ cs.length ≤ 20 := by
  unfold fewV at h
  rw [Bool.and_eq_true] at h
  refine ⟨fun c hc => ?_, of_decide_eq_true h.2⟩
  have h1 := List.all_eq_true.1 h.1 c hc
  rw [Bool.and_eq_true] at h1
  have h2 := of_decide_eq_true h1.1
  have h3 := of_decide_eq_true h1.2
  have h4 := hI c hc
  exact ⟨h4.n, h4.steps, h4.clock, h4.draws, by omega, by omega⟩
set_option maxHeartbeats 16000000 in
theorem verbPrints_walk (cs : List Cmd) (A : Option Addr) (cap : Nat) (w : World) (hE : EnvV w) (hC : PVerbPrints.k55.C w A cs.length cs) (hcap : cs.length ≤ cap) (hI : ∀ c ∈ cs, NumsV c) :
    Calls Tryd.prog 8 #[.slice A cs.length cap] w fun e w' => e = .returned (.bool true) ∧ Below w.heap.size w w' := by
  have h3 := hE.size
  have HA := Lib.hid (aliveV_c w hE)
  have HE := Lib.hid hE
  have HC := Lib.hid hC
  have HI := Lib.hid hI
  clear hE hC hI
  go_enter Tryd.func8, Tryd.ntmps8
  go_wp2_with fail
  refine HA.out.mono ?_
  rintro e w1 ⟨rfl, hb1⟩
  have hF := fewV_c cs A cap w1 (Kd.C_below HC.out hb1) hcap
  obtain ⟨bF, hbF⟩ : ∃ b, b = fewV cs := ⟨_, rfl⟩
  rw [← hbF] at hF
  have HB1 := Lib.hid hb1
  have hz1 := hb1.size
  have HF1 := Lib.hid hF
  have HBF := Lib.hid hbF
  clear hb1 hF hbF
  go_wp2_with fail
  refine HF1.out.mono ?_
  rintro e w2 ⟨rfl, hb2⟩
  have HB2 := Lib.hid (HB1.out.trans (hb2.mono hz1))
  have hz2 := HB2.out.size
  clear hb2 HF1
  cases bF
  · go_wp2_with fail
    go_ret
    exact ⟨rfl, HB2.out⟩
  · obtain ⟨hfit, h20⟩ := fewV_fit HBF.out.symm HI.out
    have hP := printV_c cs A cap w2 (HE.out.below HB2.out h3) (Kd.C_below HC.out HB2.out) hfit (by omega)
    unfold printVQ at hP
    obtain ⟨s1, hs1⟩ : ∃ s, s = mk (printV cs).1 := ⟨_, rfl⟩
    obtain ⟨x1, hx1⟩ : ∃ x, x = (printV cs).2 := ⟨_, rfl⟩
    rw [← hs1, ← hx1] at hP
    have HP := Lib.hid hP
    have HFIT := Lib.hid hfit
    have HS1 := Lib.hid hs1
    have HX1 := Lib.hid hx1
    clear hP hfit hs1 hx1
    go_wp2_with fail
    refine HP.out.mono ?_
    rintro e w3 ⟨rfl, hb3⟩
    have HB3 := Lib.hid (HB2.out.trans (hb3.mono hz2))
    have hz3 := HB3.out.size
    clear hb3 HP
    have HAS := Lib.hid (asV_c cs A cap w3 (Kd.C_below HC.out HB3.out) hcap (by omega))
    go_wp2_with fail
    refine HAS.out.mono ?_
    rintro e w4 ⟨A4, c4, rfl, hc4, hC4, hb4⟩
    have HB4 := Lib.hid (HB3.out.trans (hb4.mono hz3))
    have hz4 := HB4.out.size
    have hP := refPrintV_c cs A4 c4 w4 (HE.out.below HB4.out h3) hC4 HFIT.out (by omega)
    unfold printVQ at hP
    rw [← HS1.out, ← HX1.out] at hP
    have HP := Lib.hid hP
    clear hb4 hC4 hP HAS
    go_wp2_with fail
    refine HP.out.mono ?_
    rintro e w5 ⟨rfl, hb5⟩
    have HB5 := Lib.hid (HB4.out.trans (hb5.mono hz4))
    clear hb5 HP
    have k1 : (x1 == x1) = true := beq_self_eq_true _
    have k2 : (s1.toList == s1.toList) = true := beq_self_eq_true _
    go_wp2_with fail
    go_ret
    exact ⟨rfl, HB5.out⟩
end Go.Proofs.YtdgifgdadminbaaDoor
