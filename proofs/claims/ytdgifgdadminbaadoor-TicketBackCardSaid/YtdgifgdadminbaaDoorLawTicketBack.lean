/- The row and the card of TicketBack, out of its walk. No condition. -/
import Derived.Test.YtdgifgdadminbaaDoorTk
import Derived.Test.YtdgifgdadminbaaDoorCards
import Derived.Test.YtdgifgdadminbaaDoorTie
import Derived.Test.YtdgifgdadminbaaDoorYe
import Derived.Test.YtdgifgdadminbaaDoorYo
import Derived.WalkKit
import Derived.ProofKit
import Derived.OpenShut
import Derived.ShutString
import Derived.ChangeOld
import Derived.Below
import Derived.SizedLaws
import Derived.Deep.DeepHandedRow
import Derived.Lay
import Derived.LaidOnce
import Derived.SevenTiedAt
import Derived.MakeChecks
namespace Go.Proofs.YtdgifgdadminbaaDoor.ticketBack
open Go.ChangeShapes Go.WideShapes Go.ChangeAt Go.RowKit Go.Lib
open Go.ChangeMaps (open_string shut_string)
set_option linter.unusedVariables false
set_option linter.unusedSimpArgs false
theorem own : ownKnob Tryd.prog.godebug = none := by kernel_rfl
theorem laidOut : laidOutB Tryd.prog = true := by kernel_rfl

theorem plainLaid : (Rows.ticketBackRow.laid.all fun x => x.2.handleName?.isNone) = true := by kernel_rfl
set_option maxRecDepth 100000 in
theorem witness (os : Os) {H : Type} (enc : TypeId × Value → H) : ∃ (w : World) (tape : Tape) (i : Input), w.os = os ∧ (w.forCall tape i).Shaped Tryd.checked.prog ∧ i.vars = [] ∧ Input.okWide Tryd.checked.prog (w.forCall tape i) .any w.heap.size 10 i ∧
    (OpenSpec.ofChange Rows.ticketBackSpec).preRow enc Tryd.checked.prog Tryd.f10 Rows.ticketBackRow.domain false Rows.ticketBackRow.laid (w.forCall tape i).memory i.args ∧ ({} : Assume).holds Tryd.checked.prog (lone (Frame.enter Tryd.checked.prog 10 i.args .normal) [] (w.forCall tape i)) := by
  have hok : Input.okWideB Tryd.checked.prog ((World.laidAll Tryd.prog os Rows.ticketBackRow.laid).forCall (fun _ _ => 0) ⟨#[], #[.slice none 0 0], []⟩) 10 ⟨#[], #[.slice none 0 0], []⟩ = true := by kernel_rfl
  have hx : DataW.whole enc Tryd.checked.prog ((World.laidAll Tryd.prog os Rows.ticketBackRow.laid).forCall (fun _ _ => 0) ⟨#[], #[.slice none 0 0], []⟩).memory Tryd.f10.params.toList (OpenSpec.ofChange Rows.ticketBackSpec).vars false (#[.slice none 0 0] : Array Value).toList 8 = some ([.nil], [], []) := by kernel_rfl
  have hl : laidMetH Tryd.checked.prog Rows.ticketBackRow.laid ((World.laidAll Tryd.prog os Rows.ticketBackRow.laid).forCall (fun _ _ => 0) ⟨#[], #[.slice none 0 0], []⟩).memory := by
    rw [MakeChecks.laidMetH_plain _ _ _ plainLaid]
    exact laidMet_laidAll _ (by kernel_rfl) (by kernel_rfl)
  refine ⟨World.laidAll Tryd.prog os Rows.ticketBackRow.laid, fun _ _ => 0, ⟨#[], #[.slice none 0 0], []⟩, World.laidAll_os _ _ _, World.shaped_of_ZipB (by kernel_rfl) (by kernel_rfl), (Input.okWide_of_okWideB (base := 0) hok).1, (Input.okWide_of_okWideB hok).2, OpenSpec.preRow_of_cond 8 hx (by rfl) (fun k hk => by cases hk) (by kernel_rfl) hl, ?_⟩
  simp only [Assume.holds]
  exact ⟨by simp, by simp, by simp, by simp, by simp⟩
set_option maxRecDepth 100000 in
theorem lifted (os : Os) (started : os.Started) (H : Type) (enc : TypeId × Value → H) (F : Stop.Interp) :
    ReturnsInHanded {} Tryd.checked os 10 .any ((OpenSpec.ofChange Rows.ticketBackSpec).preRow enc Tryd.prog Tryd.f10 Rows.ticketBackRow.domain false Rows.ticketBackRow.laid) (((OpenSpec.ofChange Rows.ticketBackSpec).at F).post enc Tryd.prog Tryd.f10 false true false false) := by
  refine returnsInHanded_of_row (C := Tryd.checked) (s := OpenSpec.ofChange Rows.ticketBackSpec) own started (by kernel_rfl) Tryd.func10 (witness os enc) ?_
  intro W base args ds gs before hval0 hW _ _ hsz0 hL hsh _
  have hE : Env W := env_of_row plainLaid (by simp [Rows.ticketBackRow]) hL hsh
  have hsz : (DataW.weightsEach Tryd.prog (Tryd.f10.params.toList ++ Rows.ticketBackSpec.plain.varTypes Tryd.prog) (ds ++ gs)).all (· ≤ reachBytes) = true := hsz0
  have hval : ∀ (j : Nat) t v, Tryd.f10.params[j]? = some t → args[j]? = some v → Value.okWide Tryd.prog W .any base t v := hval0
  have hW' := hW
  obtain ⟨p, q, hA0, hV, rfl, hfz, hnd⟩ := hW
  have hA : DataW.TrodAll enc Tryd.prog W 0 (fun _ => true) true Tryd.f10.params.toList args.toList ds p := hA0
  rw [Tryd.params10] at hA hval hsz
  obtain ⟨v0, vs0, d0, ds0, p0, q0, hargs, rfl, rfl, h0, r0⟩ := trodAll_cons hA
  obtain ⟨rfl, rfl, rfl⟩ := trodAll_nil r0
  obtain rfl : args = #[v0] := by cases args; simp_all
  obtain ⟨rfl, rfl⟩ := trodVars_none hV
  have k0 := h0
  have lt0 : ∀ x ∈ p0, x.block < W.heap.size := by obtain ⟨m, hm⟩ := k0; exact DataW.trod_lt m _ _ _ hm
  obtain ⟨A0, cap0, cs0, rfl, hC0, hcap0⟩ := open_lines (hval 0 58 v0 rfl rfl) h0
  clear hA0 hval0 hsz0 hsz
  refine (ticketBack_walk cs0 A0 cap0 W hE hC0 hcap0).mono fun e W' ⟨he, bel⟩ => ?_
  subst he
  exact ⟨_, rfl, _, _, _, [], _, [], hW', trodAll_mk1 (shut_bool Tryd.underlying4 _), (trodAll_cons_mk (Below.trod laidOut (by kernel_rfl) (of_decide_eq_true (by kernel_rfl)) k0 bel lt0) trodAll_mk0), rfl, bel.frame _, fun h => by cases h⟩
theorem said : Rows.TicketBackSaid :=
  OpenClaim.holds_of_cond 10 Tryd.f10 rfl rfl rfl rfl rfl rfl rfl ⟨rfl, rfl, rfl, rfl, rfl⟩ rfl rfl rfl rfl rfl (by kernel_rfl) Tryd.func10 (by kernel_rfl)
    (of_decide_eq_true (by kernel_rfl)) (by unfold Func.isWrapper; first | (rw [if_pos (by decide +kernel)]; kernel_rfl) | (rw [if_neg (by decide +kernel)]; exact ⟨rfl, rfl⟩))
    (fun os started H enc _ F => by rw [OpenClaim.pre_eq_preRow]; exact lifted os started H enc F)
theorem plain (f : FuncId) (fn : Func) (hf : Tryd.pinned.checked.prog.funcNamed "jitney/jitneylaw24.TicketBack" = some f) (hfn : Tryd.pinned.checked.prog.funcs[f]? = some fn) :
    true = Tryd.pinned.checked.prog.looks [] ∧ ∀ (j : Nat) t, fn.params[j]? = some t → Tryd.pinned.checked.prog.wantsStandIn t = false := by
  obtain rfl : f = 10 := Option.some.inj ((show Tryd.prog.funcNamed "jitney/jitneylaw24.TicketBack" = some 10 by kernel_rfl).symm.trans hf) |>.symm
  obtain rfl : fn = Tryd.f10 := (Option.some.inj (Tryd.func10.symm.trans hfn)).symm
  refine ⟨by kernel_rfl, fun j t ht => ?_⟩
  rw [Tryd.params10] at ht
  have hm : t ∈ [58] := by simpa using Array.mem_of_getElem? ht
  have hall : ([58].all fun u => !Tryd.prog.wantsStandIn u) = true := by kernel_rfl
  exact (show Tryd.prog.wantsStandIn t = false by simpa using List.all_eq_true.1 hall t hm)
theorem card : Rows.TicketBackCardSaid :=
  Claim7.holds_tied_plain_at .later [] _ _ _ _ said (fun _ h => by cases h) (by kernel_rfl) (fun _ h => by cases h) ticketBack_row_tie rfl ⟨rfl, rfl⟩ (by kernel_rfl) rfl plain (by kernel_rfl)
#print axioms card
end Go.Proofs.YtdgifgdadminbaaDoor.ticketBack
namespace Go.Proofs.YtdgifgdadminbaaDoor
/-- The card, under a short name, for the claim. -/
theorem ticketBack_holds : Rows.TicketBackCardSaid := ticketBack.card
end Go.Proofs.YtdgifgdadminbaaDoor
