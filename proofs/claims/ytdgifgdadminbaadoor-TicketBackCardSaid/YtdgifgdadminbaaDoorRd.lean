/- The reader of layer file: its lines, its faults. Written by this session. -/
import Derived.Test.YtdgifgdadminbaaDoorDw
import Derived.Test.YtdgifgdadminbaaDoorS1
import Derived.Test.YtdgifgdadminbaaDoorPFileParsesx0
import Derived.WalkLawsBesides
import Derived.BigQuiet
import Derived.StillTailTactics
set_option linter.unusedSimpArgs false
set_option linter.unusedVariables false
set_option maxRecDepth 100000
namespace Go.Proofs.YtdgifgdadminbaaDoor
open Go.RowKit Go.Proofs.YtdgifgdadminbaaDoorW.PrintWords Sp
open PFileParses (wrap_id ba_len toList_data)

def faultV (l e : Int) : Value := .iface 70 (.agg #[.int .i64 l, .int .i64 e])
def Fell (l er : Int) (e : Ending) : Prop := e = .panicked [{ v := faultV l er, recovered := false }]

/-- A reader in block R: its lines lie below R. -/
structure Rd (R : Nat) (A : Option Addr) (c : Nat) (lines : List ByteArray) (at_ : Int) (w : World) : Prop where
  blk : w.heap[R]? = some (.cells #[.slice A lines.length c, .int .i64 at_] 74 (0, 0))
  old : ∃ w0 : World, w0.heap.size = R ∧ Kd.string.C w0 A lines.length lines ∧ Below R w0 w
  env : Env w
  low : 3 ≤ R
  few : lines.length ≤ 1048577
  thin : ∀ l ∈ lines, l.size ≤ 1048576
  at0 : 0 ≤ at_
  at1 : at_ ≤ 2097152

theorem cell_of_heap {w : World} {b : Nat} {cs : Array Value} {t : TypeId} {f : Nat × Nat} (h : w.heap[b]? = some (.cells cs t f)) (k : Nat) {v : Value} (hv : cs[k]? = some v) : w.cell? ⟨b, k, none⟩ = some v := by
  simp [World.cell?, h, hv]
theorem frozen_of_heap {w : World} {b : Nat} {cs : Array Value} {t : TypeId} (h : w.heap[b]? = some (.cells cs t (0, 0))) (k : Nat) : w.frozen? ⟨b, k, none⟩ = false := by
  simp [World.frozen?, h]

theorem Rd.lt {R A c lines at_ w} (h : Rd R A c lines at_ w) : R < w.heap.size := by
  rcases Nat.lt_or_ge R w.heap.size with g | g
  · exact g
  · have := h.blk
    rw [Array.getElem?_eq_none g] at this
    cases this
theorem Rd.cell0 {R A c lines at_ w} (h : Rd R A c lines at_ w) : w.cell? ⟨R, 0, none⟩ = some (.slice A lines.length c) := cell_of_heap h.blk 0 rfl
theorem Rd.cell1 {R A c lines at_ w} (h : Rd R A c lines at_ w) : w.cell? ⟨R, 1, none⟩ = some (.int .i64 at_) := cell_of_heap h.blk 1 rfl
theorem Rd.fz {R A c lines at_ w} (h : Rd R A c lines at_ w) (k : Nat) : w.frozen? ⟨R, k, none⟩ = false := frozen_of_heap h.blk k
theorem Rd.reads {R A c lines at_ w} (h : Rd R A c lines at_ w) : Kd.string.C w A lines.length lines := by
  obtain ⟨w0, e, hC, hb⟩ := h.old
  subst e
  exact Kd.C_below hC hb
theorem Rd.below {R A c lines at_ w w'} (h : Rd R A c lines at_ w) (hb : Below w.heap.size w w') : Rd R A c lines at_ w' := by
  obtain ⟨w0, e, hC, hb0⟩ := h.old
  refine ⟨(hb.block R h.lt).trans h.blk, ⟨w0, e, hC, hb0.trans (hb.mono (Nat.le_of_lt h.lt))⟩, h.env.below hb (by have := h.lt; have := h.low; omega), h.low, h.few, h.thin, h.at0, h.at1⟩

set_option maxHeartbeats 4000000 in
theorem fail_c (R : Nat) (A c lines) (at_ er : Int) (w : World) (h : Rd R A c lines at_ w) :
    Calls Tryd.prog 69 #[.pointer (some ⟨R, 0, none⟩), .int .i64 er] w fun e w' => Fell at_ er e ∧ w' = w := by
  have h1 := h.cell1
  go_enter Tryd.func69, Tryd.ntmps69
  go_wp2_with fail
  exact ⟨rfl, rfl, rfl⟩

/-- But for block R nothing that was there has turned. -/
structure Ex (R : Nat) (w w' : World) : Prop where
  os : w'.os = w.os
  tape : w'.tape = w.tape
  output : w'.output = w.output
  size : w.heap.size ≤ w'.heap.size
  block : ∀ k, k < w.heap.size → k ≠ R → w'.heap[k]? = w.heap[k]?
theorem Ex.of_below {R w w'} (h : Below w.heap.size w w') : Ex R w w' := ⟨h.os, h.tape, h.output, h.size, fun k hk _ => h.block k hk⟩
theorem Ex.refl (R w) : Ex R w w := ⟨rfl, rfl, rfl, Nat.le_refl _, fun _ _ _ => rfl⟩
theorem Ex.trans {R a b c} (h : Ex R a b) (k : Ex R b c) : Ex R a c :=
  ⟨k.os.trans h.os, k.tape.trans h.tape, k.output.trans h.output, Nat.le_trans h.size k.size, fun i hi hR => (k.block i (Nat.lt_of_lt_of_le hi h.size) hR).trans (h.block i hi hR)⟩
theorem Ex.below {R a b} (h : Ex R a b) (hR : R ≤ a.heap.size) : Below R a b := ⟨h.os, h.tape, h.output, h.size, fun k hk => h.block k (by omega) (by omega)⟩
theorem ex_set {R : Nat} {k : Nat} {u : Value} (w : World) : Ex R w (w.setCell ⟨R, k, none⟩ u) :=
  ⟨rfl, rfl, rfl, by simp [World.setCell], fun i _ hi => Below.heap_setCell w ⟨R, k, none⟩ u i hi⟩

theorem Rd.step {R A c lines at_ w} (h : Rd R A c lines at_ w) (x : Int) (h0 : 0 ≤ x) (h1 : x ≤ 2097152) : Rd R A c lines x (w.setCell ⟨R, 1, none⟩ (.int .i64 x)) := by
  obtain ⟨w0, e, hC, hb0⟩ := h.old
  have hb : Below R w (w.setCell ⟨R, 1, none⟩ (.int .i64 x)) := (ex_set w).below (Nat.le_of_lt h.lt)
  refine ⟨?_, ⟨w0, e, hC, hb0.trans hb⟩, h.env.below hb h.low, h.low, h.few, h.thin, h0, h1⟩
  have := h.blk
  simp [World.setCell, Array.getElem?_modify, this]

/-- What a reading call answers: a fault at a line, or what Q says. -/
def Ans {α : Type} (R : Nat) (line : Int) (w : World) (s : Except Int α) (Q : α → Ending → World → Prop) (e : Ending) (w' : World) : Prop :=
  match s with
  | .error er => Fell line er e ∧ Below R w w'
  | .ok x => Q x e w'

def nextQ (R : Nat) (A : Option Addr) (c : Nat) (lines : List ByteArray) (at_ : Int) (w : World) (ws : List ByteArray) (e : Ending) (w' : World) : Prop :=
  ∃ A' c', e = .returned (.slice A' ws.length c') ∧ ws.length ≤ c' ∧ Kd.string.C w' A' ws.length ws ∧ Rd R A c lines at_ w' ∧ Ex R w w'

theorem C_tail {w : World} {ad : Addr} {x : ByteArray} {rest : List ByteArray} (h : Kd.string.C w (some ad) (x :: rest).length (x :: rest)) : Kd.string.C w (some ⟨ad.block, ad.off + 1, none⟩) rest.length rest := by
  obtain ⟨h1, h2, h3⟩ := h
  refine ⟨rfl, by rw [List.length_cons] at h2; omega, fun hn => ⟨_, rfl, fun j p hj => ?_⟩⟩
  obtain ⟨ad', e, hc⟩ := h3 (by simp)
  cases e
  obtain ⟨c, hl, hK, hcell⟩ := hc (j + 1) p (by simpa using hj)
  refine ⟨c, hl, hK, fun i u hu => ?_⟩
  have := hcell i u hu
  have hs : Kd.string.sz = 1 := rfl
  rw [hs] at this hl ⊢
  have hi : i = 0 := by
    have := (List.getElem?_eq_some_iff.1 hu).1
    omega
  subst hi
  rw [← this]
  congr 1
  unfold Addr.add
  by_cases hj0 : j = 0
  · subst hj0
    simp
  · simp [hj0]
    omega

def NextP (R : Nat) (A : Option Addr) (c : Nat) (lines : List ByteArray) (at_ : Int) (w0 w : World) : Prop := Rd R A c lines at_ w ∧ Ex R w0 w
theorem NextP.below {R A c lines at_ w0 w w'} (h : NextP R A c lines at_ w0 w) (hb : Below w.heap.size w w') : NextP R A c lines at_ w0 w' := ⟨h.1.below hb, h.2.trans (Ex.of_below hb)⟩
theorem cell_below {w w' : World} {p : Addr} {v : Value} (h : w.cell? p = some v) (hb : Below w.heap.size w w') : w'.cell? p = some v := pw_cell_below hb h
theorem keepN {R A c lines at_ w0 W W'} {p : Addr} {v1 v2 v3 : Value}
    (h : W.cell? ⟨R, 0, none⟩ = some v1 ∧ W.cell? ⟨R, 1, none⟩ = some v2 ∧ W.cell? p = some v3 ∧ NextP R A c lines at_ w0 W) (hb : Below W.heap.size W W') :
    W'.cell? ⟨R, 0, none⟩ = some v1 ∧ W'.cell? ⟨R, 1, none⟩ = some v2 ∧ W'.cell? p = some v3 ∧ NextP R A c lines at_ w0 W' :=
  ⟨cell_below h.1 hb, cell_below h.2.1 hb, cell_below h.2.2.1 hb, h.2.2.2.below hb⟩
theorem drewB (w : World) : Below w.heap.size w w.drew := (Below.refl _ _).drew

set_option maxHeartbeats 4000000 in
theorem next_c (R : Nat) (A c lines) (i : Nat) (first : ByteArray) (w : World) (h : Rd R A c lines i w) (hi : i ≤ 1048600) :
    Calls Tryd.prog 68 #[.pointer (some ⟨R, 0, none⟩), .string first] w fun e w' => Ans R (i + 1) w (nextS lines i first) (nextQ R A c lines (i + 1) w) e w' := by
  have hw1 : wrap64 ((i : Int) + 1) = (i : Int) + 1 := wrap_id (by omega) (by omega)
  have hst := h.step ((i : Int) + 1) (by omega) (by omega)
  have hex : Ex R w (w.setCell ⟨R, 1, none⟩ (.int .i64 ((i : Int) + 1))) := ex_set w
  have h0 := h.cell0
  have h1 := h.cell1
  have f1 := h.fz 1
  have hlt := h.lt
  obtain ⟨W, hW⟩ : ∃ W, W = w.setCell ⟨R, 1, none⟩ (.int .i64 ((i : Int) + 1)) := ⟨_, rfl⟩
  rw [← hW] at hst hex
  have c0 := hst.cell0
  have c1 := hst.cell1
  have H := Lib.hid h
  have HS := Lib.hid hst
  have HW := Lib.hid hW
  clear h hst hW
  have HS2 := fun n => HS.out.below (pw_below_drewN (Below.refl W.heap.size W) n)
  have HB2 := fun n => hex.trans (Ex.of_below (pw_below_drewN (Below.refl W.heap.size W) n))
  by_cases hshort : lines.length ≤ i
  · have hlen : decide ((lines.length : Int) < (i : Int) + 1) = true := decide_eq_true (by omega)
    have hn : nextS lines i first = .error 20 := by
      unfold nextS
      rw [List.getElem?_eq_none hshort]
    have HN := Lib.hid hn
    clear hn
    go_enter Tryd.func68, Tryd.ntmps68
    go_wp2_with fail
    rw [← HW.out]
    go_quiet (fail)
    go_wp2_with fail
    refine (fail_c R A c lines _ 20 _ (HS2 _)).mono ?_
    rintro e w' ⟨he, rfl⟩
    unfold Fell at he
    subst he
    go_wp2_with fail
    refine ⟨rfl, ?_⟩
    unfold Ans
    rw [HN.out]
    exact ⟨rfl, (HB2 _).below (Nat.le_of_lt hlt)⟩
  · have hlen : decide ((lines.length : Int) < (i : Int) + 1) = false := decide_eq_false (by omega)
    have hi1 : wrap64 ((i : Int) + 1 - 1) = (i : Int) := by rw [wrap_id (by omega) (by omega)]; omega
    have hi2 : wrap64 (i : Int) = (i : Int) := wrap_id (by omega) (by omega)
    have hi3 : IntKind.i64.wrap (i : Int) = (i : Int) := by rw [IntKind.wrap_i64]; omega
    have hil : i < lines.length := by omega
    obtain ⟨ad, rfl, hc0⟩ := Kd.at_string HS.out.reads i (by omega) (by omega)
    rw [Int.toNat_natCast] at hc0
    have hrd : rdOf ByteArray.empty lines (i : Int) = lines[i]'hil := by
      unfold rdOf
      rw [Int.toNat_natCast, List.getD_eq_getElem?_getD, List.getElem?_eq_getElem hil]
      rfl
    rw [hrd] at hc0
    have hil2 : (i : Int) < (lines.length : Int) := by omega
    clear hrd
    go_enter Tryd.func68, Tryd.ntmps68
    go_wp2_with fail
    rw [← HW.out]
    go_quiet (fail)
    go_wp2_with fail
    have hthin : (lines[i]'hil).size < 4294967281 := by have := HS.out.thin _ (List.getElem_mem hil); omega
    have hS0 : ∀ n, (W.drewN n).cell? ⟨R, 0, none⟩ = some (.slice (some ad) lines.length c) ∧ (W.drewN n).cell? ⟨R, 1, none⟩ = some (.int .i64 ((i : Int) + 1)) ∧ (W.drewN n).cell? (ad.add i) = some (.string (lines[i]'hil)) ∧ NextP R (some ad) c lines ((i : Int) + 1) w (W.drewN n) :=
      fun n => keepN (W := W) ⟨c0, c1, hc0, HS.out, hex⟩ (pw_below_drewN (Below.refl _ _) n)
    have HS0 := Lib.hid hS0
    clear hS0
    go_region_held3 (fun w' => w'.cell? ⟨R, 0, none⟩ = some (.slice (some ad) lines.length c) ∧ w'.cell? ⟨R, 1, none⟩ = some (.int .i64 ((i : Int) + 1)) ∧ w'.cell? (ad.add i) = some (.string (lines[i]'hil)) ∧ NextP R (some ad) c lines ((i : Int) + 1) w w')
      (first | assumption | exact keepN (HS0.out _) (drewB _) | exact keepN (by assumption) (by assumption))
      (first | (go_at_call 90; refine (words_walk (lines[i]'hil) _ ?_ hthin).mono ?_; (exact (Rd.env (And.left (And.right (And.right (And.right (by assumption))))))); rintro e w' ⟨v, rfl, hRv, hbX⟩))
    have hN : NextP R (some ad) c lines ((i : Int) + 1) w w' := ((by assumption : w'.cell? ⟨R, 0, none⟩ = some (.slice (some ad) lines.length c) ∧ w'.cell? ⟨R, 1, none⟩ = some (.int .i64 ((i : Int) + 1)) ∧ w'.cell? (ad.add i) = some (.string (lines[i]'hil)) ∧ NextP R (some ad) c lines ((i : Int) + 1) w w')).2.2.2
    have hRd := Lib.hid hN.1
    have hEx := Lib.hid hN.2
    clear hN
    have hn : nextS lines i first = (if (wordsS (lines[i]'hil)).2 ≠ 0 ∨ (wordsS (lines[i]'hil)).1 = [] ∨ (wordsS (lines[i]'hil)).1.head? ≠ some first then .error 21 else if 4096 < (wordsS (lines[i]'hil)).1.length - 1 then .error 3 else .ok (wordsS (lines[i]'hil)).1.tail) := by
      unfold nextS
      rw [List.getElem?_eq_getElem hil]
    obtain ⟨ws, er, hws⟩ : ∃ ws er, wordsS (lines[i]'hil) = (ws, er) := ⟨_, _, rfl⟩
    rw [hws] at hn hRv
    simp only [hws]
    have HWS := Lib.hid hws
    have HN := Lib.hid hn
    clear hn hws
    obtain ⟨A', c', rfl, hle, hC⟩ := Kd.R_reads hRv
    dsimp only at hle hC
    clear hRv
    have bad : nextS lines i first = .error 21 → ∀ e w2, Fell ((i : Int) + 1) 21 e ∧ w2 = w' → Ans R ((i : Int) + 1) w (nextS lines i first) (nextQ R (some ad) c lines ((i : Int) + 1) w) e w2 := by
      rintro h e w2 ⟨h1, rfl⟩
      unfold Ans
      rw [h]
      exact ⟨h1, hEx.out.below (Nat.le_of_lt hlt)⟩
    have BAD := Lib.hid bad
    clear bad
    by_cases he : er = 0
    · subst he
      cases ws with
      | nil =>
        go_wp2_with fail
        refine (fail_c R (some ad) c lines _ 21 _ hRd.out).mono ?_
        rintro e w2 hh
        have hA := BAD.out (by rw [HN.out]; simp) e w2 hh
        obtain ⟨he, rfl⟩ := hh
        unfold Fell at he
        subst he
        go_wp2_with fail
        exact ⟨rfl, hA⟩
      | cons x rest =>
        obtain ⟨ad', rfl, hx⟩ := Kd.at_string hC 0 (by omega) (by simp)
        have hx0 : rdOf ByteArray.empty (x :: rest) 0 = x := rfl
        rw [hx0] at hx
        have hx2 : w'.cell? ad' = some (.string x) := by simpa [Addr.add] using hx
        have hlen : ((x :: rest).length : Int) = (rest.length : Int) + 1 := by simp
        by_cases hxf : x = first
        · subst hxf
          have hEE : (x.toList != x.toList) = false := by simp
          have hbnd : (rest.length : Int) ≤ 9223372036854775807 := by
            have h1 : (x :: rest).length ≤ 9223372036854775807 := hC.2.1
            rw [List.length_cons] at h1
            omega
          by_cases hmany : 4096 < rest.length
          · have hb2 : decide ((4096 : Int) < (rest.length : Int)) = true := decide_eq_true (by omega)
            have hw5 : wrap64 (rest.length : Int) = (rest.length : Int) := wrap_id (by omega) hbnd
            clear hbnd
            have HM := Lib.hid hmany
            have HC := Lib.hid hC
            have HLE := Lib.hid hle
            clear hmany hlen hC hle
            go_wp2_with fail
            refine (fail_c R (some ad) c lines _ 3 _ hRd.out).mono ?_
            rintro e w2 ⟨he, rfl⟩
            unfold Fell at he
            subst he
            go_wp2_with fail
            refine ⟨rfl, ?_⟩
            unfold Ans
            rw [HN.out, if_neg (by simp), if_pos (by simpa using HM.out)]
            exact ⟨rfl, hEx.out.below (Nat.le_of_lt hlt)⟩
          · have hb2 : decide ((4096 : Int) < (rest.length : Int)) = false := decide_eq_false (by omega)
            have hw5 : wrap64 (rest.length : Int) = (rest.length : Int) := wrap_id (by omega) hbnd
            clear hbnd
            have HM := Lib.hid hmany
            have HC := Lib.hid hC
            have HLE := Lib.hid hle
            clear hmany hlen hC hle
            go_wp2_with fail
            all_goals go_ret
            all_goals (unfold Ans; rw [HN.out, if_neg (by simp), if_neg (by simpa using HM.out)])
            · refine ⟨some ad', 0, rfl, ?_, ?_, hRd.out, hEx.out⟩
              · have := HLE.out
                rw [List.length_cons] at this
                show rest.length ≤ 0
                omega
              · have h0 : rest = [] := by
                  have := HLE.out
                  rw [List.length_cons] at this
                  exact List.length_eq_zero_iff.1 (by omega)
                subst h0
                exact ⟨rfl, by simp, fun hn => absurd hn (by simp)⟩
            · refine ⟨_, _, rfl, ?_, C_tail HC.out, hRd.out, hEx.out⟩
              have := HLE.out
              rw [List.length_cons] at this
              show rest.length ≤ c' - 1
              omega
        · have hb1 : (x.toList == first.toList) = false := by
            rw [toList_data, toList_data]
            exact beq_eq_false_iff_ne.2 (fun e => hxf (ByteArray.ext (Array.toList_inj.1 e)))
          have hb2 : (x.toList != first.toList) = true := by rw [bne, hb1]; rfl
          go_wp2_with fail
          refine (fail_c R (some ad) c lines _ 21 _ hRd.out).mono ?_
          rintro e w2 hh
          have hA := BAD.out (by rw [HN.out]; simp [hxf]) e w2 hh
          obtain ⟨he, rfl⟩ := hh
          unfold Fell at he
          subst he
          go_wp2_with fail
          exact ⟨rfl, hA⟩
    · have hb1 : (er == 0) = false := by simpa using he
      go_wp2_with fail
      refine (fail_c R (some ad) c lines _ 21 _ hRd.out).mono ?_
      rintro e w2 hh
      have hA := BAD.out (by rw [HN.out]; simp [he]) e w2 hh
      obtain ⟨he, rfl⟩ := hh
      unfold Fell at he
      subst he
      go_wp2_with fail
      exact ⟨rfl, hA⟩
end Go.Proofs.YtdgifgdadminbaaDoor
