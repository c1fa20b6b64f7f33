/- Layer verb: Parse. Written by this session. -/
import Derived.Test.YtdgifgdadminbaaDoorV4
set_option linter.unusedSimpArgs false
set_option linter.unusedVariables false
set_option maxRecDepth 100000
namespace Go.Proofs.YtdgifgdadminbaaDoor
open Go.RowKit Go.Proofs.YtdgifgdadminbaaDoorW.PrintWords Sp
open PFileParses (wrap_id ba_len bt_nat toList_data info3 info2 info9)

/-- A row inside that may be the rest of a longer one. -/
def qslice {α : Type} (e : Nat) (d : Kd α) : Kd (List α) where
  sz := 1
  E := e :: d.E
  K := (Kd.slice e d).K
  M := fun w base ok xs cs => ∃ v, cs = [v] ∧ d.Q e w base ok v xs
  K_len := (Kd.slice e d).K_len
  K_one := (Kd.slice e d).K_one
  K_below := (Kd.slice e d).K_below
  K_of_M := by
    rintro w base ok x cs ⟨v, rfl, h⟩
    obtain ⟨A, c, rfl, hl, hr⟩ := Kd.Q_reads h
    exact ⟨A, c, rfl, hl, hr⟩
  M_mono := by
    rintro w base ok ok' x cs hok ⟨v, rfl, h⟩
    exact ⟨v, rfl, Kd.Q_mono h hok⟩
  M_bound := by
    rintro w base ok x cs ⟨v, rfl, h⟩
    exact ⟨v, rfl, Kd.Q_bound h⟩
  M_move := by
    rintro w w1 base ok x cs hm ⟨v, rfl, h⟩
    exact ⟨v, rfl, Kd.Q_move h hm⟩
  M_lower := by
    rintro w base base' ok x cs hb ⟨v, rfl, h⟩
    exact ⟨v, rfl, Kd.Q_lower h hb⟩
def kc : Kd Cmd := Kd.iso (Kd.pair (Kd.int .i64) (Kd.pair (Kd.int .i64) (Kd.pair (Kd.int .i64) (Kd.pair (Kd.int .i64) (Kd.pair (qslice 3 (Kd.int .i64)) Kd.string))))) (fun x : Cmd => (x.f0, x.f1, x.f2, x.f3, x.f4, x.f5))
theorem kc_mkM (w : World) (base : Nat) (ok : Nat → Prop) (x : Cmd) {v4 : Value} (g4 : (Kd.int .i64).Q 3 w base ok v4 x.f4) : kc.M w base ok x [.int .i64 x.f0, .int .i64 x.f1, .int .i64 x.f2, .int .i64 x.f3, v4, .string x.f5] := ⟨[.int .i64 x.f0], [.int .i64 x.f1, .int .i64 x.f2, .int .i64 x.f3, v4, .string x.f5], rfl, rfl, ⟨[.int .i64 x.f1], [.int .i64 x.f2, .int .i64 x.f3, v4, .string x.f5], rfl, rfl, ⟨[.int .i64 x.f2], [.int .i64 x.f3, v4, .string x.f5], rfl, rfl, ⟨[.int .i64 x.f3], [v4, .string x.f5], rfl, rfl, ⟨[v4], [.string x.f5], rfl, ⟨v4, rfl, g4⟩, rfl⟩⟩⟩⟩⟩
theorem kc_C {w : World} {A : Option Addr} {n : Nat} {xs : List Cmd} (h : kc.C w A n xs) : PVerbPrints.k55.C w A n xs := h
theorem info55 : (Tryd.prog.info? 55).map (fun i => (i.zero, i.size, i.bytes)) = some (some (.agg #[.int .i64 0, .int .i64 0, .int .i64 0, .int .i64 0, .slice none 0 0, .string ⟨#[]⟩]), 6, 72) := by kernel_rfl
theorem results_tmp3 {P : Program} {fn : Func} {p t u : Tmp} (h : fn.results = #[.tmp p, .tmp t, .tmp u]) (tmps : Array Value) (w : World) :
    (results fn tmps).run P w = .ok (.tuple #[tmps.getD p undef, tmps.getD t undef, tmps.getD u undef]) w := by
  simp [results, h]

def bodyL (ls : List ByteArray) : List UInt8 := joinL (ls.map fun x => x.data.toList)
def withText (c : Cmd) (t : ByteArray) : Cmd := { c with f5 := t }
def parseA : Nat → Nat → List ByteArray → List Cmd → Except (Int × Int) (List Cmd)
  | 0, _, _, acc => .ok acc
  | _ + 1, _, [], acc => .ok acc
  | f + 1, i, l :: r, acc =>
    match readV l with
    | .error e => .error ((i : Int) + 1, e)
    | .ok c =>
      if c.f0 = 1 then
        if (r.length : Int) < c.f1 then .error ((i : Int) + 1, 20)
        else parseA f (i + 1 + c.f1.toNat) (r.drop c.f1.toNat) (acc ++ [withText c (mk (bodyL (r.take c.f1.toNat)))])
      else parseA f (i + 1) r (acc ++ [c])
theorem parseA_nil (f i : Nat) (acc : List Cmd) : parseA f i [] acc = .ok acc := by cases f <;> rfl
def parseV (s : ByteArray) : Except (Int × Int) (List Cmd) := if (linesS s).2 ≠ 0 then .error (0, (linesS s).2) else parseA (linesS s).1.length 0 (linesS s).1 []
def parseVQ (s : ByteArray) (w : World) (e : Ending) (w' : World) : Prop := match parseV s with
  | .error x => e = .returned (.tuple #[.slice none 0 0, .int .i64 x.1, .int .i64 x.2]) ∧ Below w.heap.size w w'
  | .ok cs => ∃ v, e = .returned (.tuple #[v, .int .i64 0, .int .i64 0]) ∧ Kd.R kc 55 w' w.heap.size (fun _ => True) v cs ∧ Below w.heap.size w w'
theorem readV_inv {s : ByteArray} {c : Cmd} (h : readV s = .ok c) : ∃ nm rest, wordsS s = (nm :: rest, 0) ∧ kindS nm ≠ 0 ∧ lenB (kindS nm) rest.length = true ∧ rest.length ≤ 4098 ∧
    ((kindS nm = 4 ∧ (readS (rest.getD 0 ByteArray.empty)).2 = 0 ∧ c = ⟨4, 0, 0, (readS (rest.getD 0 ByteArray.empty)).1, [], ⟨#[]⟩⟩) ∨
     (kindS nm ≠ 4 ∧ ∃ ns, readAll wholeS rest = .ok ns ∧ c = ⟨kindS nm, ns.getD 0 0, ns.getD 1 0, 0, ns.drop 2, ⟨#[]⟩⟩)) := by
  unfold readV at h
  by_cases h0 : (wordsS s).2 = 0
  · rw [if_neg (fun e => e h0)] at h
    obtain ⟨ws, hws⟩ : ∃ ws, ws = (wordsS s).1 := ⟨_, rfl⟩
    rw [← hws] at h
    cases ws with
    | nil => cases h
    | cons nm rest =>
      dsimp only at h
      refine ⟨nm, rest, by rw [hws, ← h0], ?_⟩
      by_cases h1 : kindS nm = 0
      · rw [if_pos h1] at h; cases h
      · rw [if_neg h1] at h
        by_cases h2 : lenB (kindS nm) rest.length = false
        · rw [if_pos h2] at h; cases h
        · rw [if_neg h2] at h
          by_cases h3 : 4098 < rest.length
          · rw [if_pos h3] at h; cases h
          · rw [if_neg h3] at h
            refine ⟨h1, by simpa using h2, by omega, ?_⟩
            by_cases h4 : kindS nm = 4
            · rw [if_pos h4] at h
              by_cases h5 : (readS (rest.getD 0 ByteArray.empty)).2 = 0
              · rw [if_neg (fun e => e h5)] at h
                cases h
                exact .inl ⟨h4, h5, rfl⟩
              · rw [if_pos h5] at h; cases h
            · rw [if_neg h4] at h
              cases hr : readAll wholeS rest with
              | error e => rw [hr] at h; cases h
              | ok ns =>
                rw [hr] at h
                cases h
                exact .inr ⟨h4, ns, rfl, rfl⟩
  · rw [if_pos h0] at h; cases h
theorem readV_err {s : ByteArray} {er : Int} (h : readV s = .error er) : er ≠ 0 := by
  unfold readV at h
  by_cases h0 : (wordsS s).2 = 0
  · rw [if_neg (fun e => e h0)] at h
    obtain ⟨ws, hws⟩ : ∃ ws, ws = (wordsS s).1 := ⟨_, rfl⟩
    rw [← hws] at h
    cases ws with
    | nil => cases h; decide
    | cons nm rest =>
      dsimp only at h
      by_cases h1 : kindS nm = 0
      · rw [if_pos h1] at h; cases h; decide
      · rw [if_neg h1] at h
        by_cases h2 : lenB (kindS nm) rest.length = false
        · rw [if_pos h2] at h; cases h; decide
        · rw [if_neg h2] at h
          by_cases h3 : 4098 < rest.length
          · rw [if_pos h3] at h; cases h; decide
          · rw [if_neg h3] at h
            by_cases h4 : kindS nm = 4
            · rw [if_pos h4] at h
              by_cases h5 : (readS (rest.getD 0 ByteArray.empty)).2 = 0
              · rw [if_neg (fun e => e h5)] at h; cases h
              · rw [if_pos h5] at h; cases h; exact h5
            · rw [if_neg h4] at h
              cases hr : readAll wholeS rest with
              | error e => rw [hr] at h; cases h; exact readAll_errV hr
              | ok ns => rw [hr] at h; cases h
  · rw [if_pos h0] at h; cases h; exact h0
theorem readAll_okV {f : ByteArray → Int × Int} {ws : List ByteArray} {ns : List Int} (h : readAll f ws = .ok ns) : (∀ x ∈ ws, (f x).2 = 0) ∧ ns = ws.map fun x => (f x).1 := by
  unfold readAll at h
  split at h
  · cases h
  · rename_i hn
    cases h
    exact ⟨fun x hx => by have := List.find?_eq_none.1 hn x hx; simpa using this, rfl⟩
theorem readV_load {s : ByteArray} {c : Cmd} (h : readV s = .ok c) : 0 ≤ c.f1 ∧ c.f5 = ⟨#[]⟩ := by
  obtain ⟨nm, rest, _, _, _, _, h1 | h1⟩ := readV_inv h
  · obtain ⟨_, _, rfl⟩ := h1
    exact ⟨Int.le_refl _, rfl⟩
  · obtain ⟨_, ns, hr, rfl⟩ := h1
    refine ⟨?_, rfl⟩
    obtain ⟨hz, rfl⟩ := readAll_okV hr
    show 0 ≤ ((rest.map fun x => (wholeS x).1).getD 0 0)
    cases rest with
    | nil => exact Int.le_refl _
    | cons a b => exact wholeS_sign a (hz a (by simp))
theorem linesV_thin {s : ByteArray} (h : (linesS s).2 = 0) : (linesS s).1.length ≤ 1048577 ∧ (∀ x ∈ (linesS s).1, x.size ≤ 1048576) ∧ (bodyL (linesS s).1).length ≤ 1048576 := by
  obtain ⟨h1, h2⟩ := linesS_inv (s := s) (ls := (linesS s).1) (by rw [← h])
  have hb : ∀ ls : List ByteArray, ls.length ≤ bulk ls ∧ (∀ x ∈ ls, x.size ≤ bulk ls) ∧ (bodyL ls).length = bulk ls := by
    intro ls
    induction ls with
    | nil => exact ⟨Nat.le_refl _, fun x hx => by simp at hx, rfl⟩
    | cons a r ih =>
      have e : bulk (a :: r) = (a.size + 1) + bulk r := by simp [bulk]
      refine ⟨by rw [e, List.length_cons]; have := ih.1; omega, fun x hx => ?_, ?_⟩
      · rw [e]
        rcases List.mem_cons.1 hx with rfl | hx
        · omega
        · have := ih.2.1 x hx; omega
      · unfold bodyL
        rw [List.map_cons, joinL_cons, List.length_append, List.length_cons, ba_len, e]
        have := ih.2.2
        unfold bodyL at this
        omega
  have := hb (linesS s).1
  exact ⟨by have := this.1; omega, fun x hx => by have := this.2.1 x hx; omega, by have := this.2.2; omega⟩
theorem bodyL_take (ls : List ByteArray) (k : Nat) : (bodyL (ls.take k)).length ≤ (bodyL ls).length := by
  have : bodyL ls = bodyL (ls.take k) ++ bodyL (ls.drop k) := by
    unfold bodyL
    rw [← joinL_append, ← List.map_append, List.take_append_drop]
  rw [this, List.length_append]
  omega
theorem bodyL_drop (ls : List ByteArray) (k : Nat) : (bodyL (ls.drop k)).length ≤ (bodyL ls).length := by
  have : bodyL ls = bodyL (ls.take k) ++ bodyL (ls.drop k) := by
    unfold bodyL
    rw [← joinL_append, ← List.map_append, List.take_append_drop]
  rw [this, List.length_append]
  omega
theorem bodyL_succ (ls : List ByteArray) (k : Nat) (h : k < ls.length) : mk (bodyL (ls.take (k + 1))) = mk (bodyL (ls.take k)) ++ (ls[k]'h ++ ⟨#[10]⟩) := by
  have e : bodyL (ls.take (k + 1)) = bodyL (ls.take k) ++ ((ls[k]'h).data.toList ++ [10]) := by
    unfold bodyL
    rw [List.take_succ_eq_append_getElem h, List.map_append, joinL_append]
    simp [joinL]
  rw [e]
  refine ByteArray.ext (Array.ext' ?_)
  simp [mk, ByteArray.data_append]

set_option maxHeartbeats 8000000 in
theorem parseV_c (s : ByteArray) (w : World) (hE : EnvV w) (hs : s.size < 4294967281) :
    Calls Tryd.prog 26 #[.string s] w fun e w' => parseVQ s w e w' := by
  have h3 := hE.size
  have hli := lines_walk s w hE.env hs
  obtain ⟨ls, hls⟩ : ∃ ls, ls = (linesS s).1 := ⟨_, rfl⟩
  obtain ⟨el, hel⟩ : ∃ el, el = (linesS s).2 := ⟨_, rfl⟩
  rw [← hls, ← hel] at hli
  have HLS := Lib.hid hls
  have HEL := Lib.hid hel
  have HLI := Lib.hid hli
  have HE := Lib.hid hE
  clear hls hel hli hE
  go_enter Tryd.func26, Tryd.ntmps26
  go_wp2_with fail
  refine HLI.out.mono ?_
  rintro e w1 ⟨v1, rfl, hR1, hbe1⟩
  have hz1 := hbe1.size
  have HBE1 := Lib.hid hbe1
  have HR1 := Lib.hid hR1
  clear hR1 hbe1 HLI
  by_cases he : el = 0
  · subst he
    obtain ⟨hmany, hthin, hbody⟩ := linesV_thin (s := s) HEL.out.symm
    rw [← HLS.out] at hmany hthin hbody
    obtain ⟨A, cl, rfl, hle, hC⟩ := Kd.R_reads HR1.out
    have hps : parseV s = parseA ls.length 0 ls [] := by unfold parseV; rw [← HEL.out, ← HLS.out, if_neg (by decide)]
    have HPS := Lib.hid hps
    have HCL := Lib.hid hC
    have HTH := Lib.hid hthin
    have HBODY := Lib.hid hbody
    clear hps hC hthin hbody
    go_wp2_with fail
    go_loopw [7, 8] (fun out i wr => ∃ (I f : Nat) (acc : List Cmd), I ≤ ls.length ∧ i = .int .i64 I ∧ ls.length - I ≤ f ∧ acc.length ≤ I ∧ parseV s = parseA f I (ls.drop I) acc ∧ Kd.R kc 55 wr w1.heap.size (fun _ => True) out acc ∧ Below w1.heap.size w1 wr) (fun _ i _ => ls.length - (intOf i).toNat)
    case atStart => exact ⟨0, ls.length, [], Nat.zero_le _, rfl, by omega, by simp, by rw [HPS.out, List.drop_zero], Kd.R_nil _ _ _ _ _, Below.refl _ _⟩
    case round =>
      obtain ⟨I, f, acc, hI, rfl, hf, hacc, hpa, hO, hB⟩ := hrel
      have hzr := hB.size
      have HPA := Lib.hid hpa
      have HO := Lib.hid hO
      have HB := Lib.hid hB
      have HBE := Lib.hid (HBE1.out.trans (hB.mono hz1))
      have HCR := Lib.hid (Kd.C_below HCL.out hB)
      clear hpa hO hB
      by_cases hlt : I < ls.length
      · obtain ⟨f, rfl⟩ : ∃ q, f = q + 1 := ⟨f - 1, by omega⟩
        obtain ⟨ad, hAe, hc⟩ := Kd.at_string HCR.out I (by omega) (by omega)
        subst hAe
        rw [Int.toNat_natCast] at hc
        have hrd : rdOf ByteArray.empty ls (I : Int) = ls[I]'hlt := by
          unfold rdOf
          rw [Int.toNat_natCast, List.getD_eq_getElem?_getD, List.getElem?_eq_getElem hlt]
          rfl
        rw [hrd] at hc
        have hxk := HTH.out (ls[I]'hlt) (List.getElem_mem hlt)
        have hdr := List.drop_eq_getElem_cons hlt
        obtain ⟨l, hl⟩ : ∃ l, l = ls[I]'hlt := ⟨_, rfl⟩
        rw [← hl] at hc hxk hdr
        have hpa : parseV s = parseA (f + 1) I (l :: ls.drop (I + 1)) acc := by rw [HPA.out, hdr]
        have HPB := Lib.hid hpa
        have hrl := readV_c l wr (HE.out.below HBE.out h3) (by omega)
        unfold readQ at hrl
        have HI1 : wrap64 ((I : Int) + 1) = (I : Int) + 1 := wrap_id (by omega) (by omega)
        have HW1 := Lib.hid HI1
        clear hrd hl hdr hpa HPA HI1
        cases hrv : readV l with
        | error er =>
          rw [hrv] at hrl
          dsimp only at hrl
          have hspec : parseV s = .error ((I : Int) + 1, er) := by rw [HPB.out, parseA, hrv]
          have HSP := Lib.hid hspec
          have HRL := Lib.hid hrl
          have hner : er ≠ 0 := readV_err hrv
          have g1 : (er != 0) = true := bne_iff_ne.2 hner
          clear hspec hrl hrv hner
          go_wp2_with fail
          refine HRL.out.mono ?_
          rintro e w2 ⟨rfl, hb2⟩
          have hz2 := hb2.size
          have HB2 := Lib.hid (HBE.out.trans (hb2.mono (by omega)))
          clear hb2
          go_wp2_with fail
          refine bodyPost_ret (v := .tuple #[.slice none 0 0, .int .i64 ((I : Int) + 1), .int .i64 er]) ?_ rfl ?_
          · exact results_tmp3 (P := Tryd.prog) (fn := Tryd.f26) (p := 2) (t := 3) (u := 4) rfl _ _
          · unfold parseVQ
            rw [HSP.out]
            exact ⟨rfl, HB2.out.alloc (by omega) _⟩
        | ok c =>
          rw [hrv] at hrl
          dsimp only at hrl
          obtain ⟨hf1, hf5⟩ := readV_load hrv
          have HRV := Lib.hid hrv
          have HRL := Lib.hid hrl
          clear hrv hrl
          go_wp2_with fail
          refine HRL.out.mono ?_
          rintro e w2 ⟨v4, rfl, hQ, hb2⟩
          have hz2 := hb2.size
          obtain ⟨A4, c4, rfl, hle4⟩ := Kd.Q_slice hQ
          go_upto_region 9 with fail
          obtain ⟨W3, hW3⟩ : ∃ W, W = w2.alloc (.cells #[.int .i64 c.f0, .int .i64 c.f1, .int .i64 c.f2, .int .i64 c.f3, .slice A4 c.f4.length c4, .string ⟨#[]⟩] 55) := ⟨_, rfl⟩
          rw [← hW3]
          have hbW3 : Below w2.heap.size w2 W3 := by rw [hW3]; exact (Below.refl _ _).alloc (Nat.le_refl _) _
          have hn3 : W3.heap[w2.heap.size]? = some (.cells #[.int .i64 c.f0, .int .i64 c.f1, .int .i64 c.f2, .int .i64 c.f3, .slice A4 c.f4.length c4, .string ⟨#[]⟩] 55 (0, 0)) := by rw [hW3]; exact heap_alloc_new w2 _
          have hz3 : w2.heap.size < W3.heap.size := by rw [hW3]; simp
          have HB23 := Lib.hid (hb2.trans (hbW3.mono hz2))
          have HBW3 := Lib.hid hbW3
          have HQ2 := Lib.hid hQ
          have HN3 := Lib.hid hn3
          have p0 := cell_of_heap hn3 0 rfl
          have p1 := cell_of_heap hn3 1 rfl
          have hc3 := cell_below hc HB23.out
          clear hW3 hbW3 hn3 hQ hb2 HRL hc
          go_upto_if 42 with fail
          go_cut [8] (fun i wx => ∃ (M : Nat) (t : ByteArray), i = .int .i64 M ∧ I ≤ M ∧ M < ls.length ∧ ls.length - (M + 1) ≤ f ∧ parseV s = parseA f (M + 1) (ls.drop (M + 1)) (acc ++ [withText c t]) ∧ wx.heap[w2.heap.size]? = some (.cells #[.int .i64 c.f0, .int .i64 c.f1, .int .i64 c.f2, .int .i64 c.f3, .slice A4 c.f4.length c4, .string t] 55 (0, 0)) ∧ Below w2.heap.size W3 wx)
          case first =>
            by_cases h1 : c.f0 = 1
            · have g2 : (c.f0 == 1) = true := beq_iff_eq.2 h1
              by_cases hsh : (ls.length : Int) - (I : Int) - 1 < c.f1
              · have g3 : decide ((ls.length : Int) - (I : Int) - 1 < c.f1) = true := decide_eq_true hsh
                have hspec : parseV s = .error ((I : Int) + 1, 20) := by rw [HPB.out, parseA, HRV.out]; dsimp only; rw [if_pos h1, if_pos (by rw [List.length_drop]; omega)]
                have HSP := Lib.hid hspec
                clear hspec hsh
                go_wp2_with fail
                refine bodyPost_ret (v := .tuple #[.slice none 0 0, .int .i64 ((I : Int) + 1), .int .i64 20]) ?_ rfl ?_
                · exact results_tmp3 (P := Tryd.prog) (fn := Tryd.f26) (p := 2) (t := 3) (u := 4) rfl _ _
                · unfold parseVQ
                  rw [HSP.out]
                  exact ⟨rfl, HBE.out.trans (HB23.out.mono (by omega))⟩
              · have g3 : decide ((ls.length : Int) - (I : Int) - 1 < c.f1) = false := decide_eq_false hsh
                obtain ⟨N, hN⟩ : ∃ N : Nat, c.f1 = (N : Int) := ⟨c.f1.toNat, by omega⟩
                have hNl : I + 1 + N ≤ ls.length := by omega
                have hspec : parseV s = parseA f (I + N + 1) (ls.drop (I + N + 1)) (acc ++ [withText c (mk (bodyL ((ls.drop (I + 1)).take N)))]) := by
                  rw [HPB.out, parseA, HRV.out]
                  dsimp only
                  rw [if_pos h1, if_neg (by rw [List.length_drop]; omega), hN, Int.toNat_natCast, List.drop_drop, show I + 1 + N = I + N + 1 by omega]
                have HSP := Lib.hid hspec
                rw [hN] at p1 g3
                clear hsh hspec
                obtain ⟨rows, hrows⟩ : ∃ rows, rows = (ls.drop (I + 1)).take N := ⟨_, rfl⟩
                have hrl : rows.length = N := by rw [hrows, List.length_take, List.length_drop]; omega
                have hbl : (bodyL rows).length ≤ 1048576 := by
                  rw [hrows]
                  exact Nat.le_trans (bodyL_take _ _) (Nat.le_trans (bodyL_drop _ _) HBODY.out)
                have hrt : ∀ x ∈ rows, x.size ≤ 1048576 := by
                  intro x hx
                  rw [hrows] at hx
                  exact HTH.out x (List.mem_of_mem_drop (List.mem_of_mem_take hx))
                rw [← hrows] at HSP
                have HROWS := Lib.hid hrows
                have HRT := Lib.hid hrt
                have HBL := Lib.hid hbl
                clear hrows hrt hbl
                by_cases hcl : cl = I + 1
                · have hN0 : N = 0 := by omega
                  subst hN0
                  subst hcl
                  have hr0 := List.eq_nil_of_length_eq_zero hrl
                  subst hr0
                  go_wp2_with fail
                  go_loopw [63] (fun j wx => j = .int .i64 0 ∧ wx = W3) (fun _ _ => 0)
                  case atStart => exact ⟨rfl, rfl⟩
                  case round =>
                    obtain ⟨rfl, rfl⟩ := hrel
                    go_wp2_with fail
                    go_meet
                    case rel => exact ⟨I, ⟨#[]⟩, rfl, Nat.le_refl _, hlt, by omega, HSP.out, HN3.out, Below.refl _ _⟩
                · go_wp2_with fail
                  go_loopw [63] (fun j wx => ∃ J : Nat, J ≤ N ∧ j = .int .i64 J ∧ wx.heap[w2.heap.size]? = some (.cells #[.int .i64 c.f0, .int .i64 c.f1, .int .i64 c.f2, .int .i64 c.f3, .slice A4 c.f4.length c4, .string (mk (bodyL (rows.take J)))] 55 (0, 0)) ∧ Below w2.heap.size W3 wx) (fun j _ => N - (intOf j).toNat)
                  case atStart => exact ⟨0, Nat.zero_le _, rfl, HN3.out, Below.refl _ _⟩
                  case round =>
                    obtain ⟨J, hJ, rfl, hnx, hbx⟩ := hrel
                    have HNX := Lib.hid hnx
                    have HBX := Lib.hid hbx
                    clear hnx hbx
                    by_cases hJN : J < N
                    · have hK : I + 1 + J < ls.length := by omega
                      obtain ⟨ad', hae, hcj⟩ := Kd.at_string (Kd.C_below HCR.out (HB23.out.trans (HBX.out.mono hz2))) (I + 1 + J : Nat) (by omega) (by omega)
                      obtain rfl := Option.some.inj hae
                      rw [Int.toNat_natCast] at hcj
                      have hrj : rdOf ByteArray.empty ls ((I + 1 + J : Nat) : Int) = rows[J]'(by omega) := by
                        unfold rdOf
                        rw [Int.toNat_natCast, List.getD_eq_getElem?_getD, List.getElem?_eq_getElem hK]
                        simp [HROWS.out]
                      have hJr : J < rows.length := by omega
                      have hsx := HRT.out (rows[J]'hJr) (List.getElem_mem hJr)
                      have hsuc := bodyL_succ rows J hJr
                      rw [hrj, show ad.add (I + 1 + J) = ⟨ad.block, ad.off + (I + 1) + J, none⟩ by simp [Addr.add]; omega] at hcj
                      obtain ⟨x, hx⟩ : ∃ x, x = rows[J]'hJr := ⟨_, rfl⟩
                      obtain ⟨tj, htj⟩ : ∃ tj, tj = mk (bodyL (rows.take J)) := ⟨_, rfl⟩
                      have hts : tj.size ≤ 1048576 := by rw [htj, mk_size]; exact Nat.le_trans (bodyL_take _ _) HBL.out
                      rw [← hx] at hcj hsx hsuc
                      rw [← htj] at hsuc
                      have hnx := HNX.out
                      rw [← htj] at hnx
                      have p5 := cell_of_heap hnx 5 rfl
                      have f5 := frozen_of_heap hnx 5
                      have HSUC := Lib.hid hsuc
                      have HNX2 := Lib.hid hnx
                      clear hx htj hsuc hnx hrj HNX
                      go_wp2_with fail
                      go_roundw
                      case rel => exact ⟨J + 1, by omega, rfl, by rw [HSUC.out]; exact setBlk HNX2.out 5 _, HBX.out.setCell (p := ⟨w2.heap.size, 5, none⟩) (Nat.le_refl _) _⟩
                      case measure => (simp [intOf]; omega)
                    · have hJe : J = N := by omega
                      subst hJe
                      rw [List.take_of_length_le (by omega)] at HNX
                      have p1x := cell_of_heap HNX.out 1 rfl
                      rw [hN] at p1x
                      go_wp2_with fail
                      go_meet
                      case rel => exact ⟨I + J, mk (bodyL rows), by go_num, by omega, by omega, by omega, HSP.out, HNX.out, HBX.out⟩
            · have g2 : (c.f0 == 1) = false := beq_eq_false_iff_ne.2 h1
              have hspec : parseV s = parseA f (I + 1) (ls.drop (I + 1)) (acc ++ [withText c ⟨#[]⟩]) := by
                rw [HPB.out, parseA, HRV.out]
                dsimp only
                rw [if_neg h1]
                rw [show withText c ⟨#[]⟩ = c by unfold withText; rw [← hf5]]
              have HSP := Lib.hid hspec
              clear hspec h1
              go_wp2_with fail
              go_meet
              case rel => exact ⟨I, ⟨#[]⟩, rfl, Nat.le_refl _, hlt, by omega, HSP.out, HN3.out, Below.refl _ _⟩
          case rest =>
            obtain ⟨M, t, rfl, hM1, hM2, hM3, hsp, hnw, hbw⟩ := hcut
            have HSP := Lib.hid hsp
            have hbc : Below wr.heap.size wr wc := HB23.out.trans (hbw.mono hz2)
            have hOc := Kd.R_below HO.out hbc
            have hQc : Kd.Q (Kd.int .i64) 3 wc wr.heap.size (fun k => wr.heap.size ≤ k ∧ k < w2.heap.size) (.slice A4 c.f4.length c4) c.f4 :=
              Kd.Q_below (Kd.Q_mono (Kd.Q_bound HQ2.out) (fun k h => ⟨h.1, h.2.2.1⟩)) (HBW3.out.trans hbw)
            have hM := kc_mkM wc w1.heap.size (fun k => wr.heap.size ≤ k ∧ k < w2.heap.size) (withText c t) (Kd.Q_lower hQc hzr)
            have hk : ∀ k, (wr.heap.size ≤ k ∧ k < w2.heap.size) → True ∧ some k ≠ u7.ownBlock := fun k hk => ⟨trivial, fun e => by have := Kd.R_lt HO.out k e.symm; omega⟩
            have hB1 : Below w1.heap.size w1 wc := HB.out.trans (hbc.mono hzr)
            have hzc := hbw.size
            have p0 := cell_of_heap hnw 0 rfl
            have p1 := cell_of_heap hnw 1 rfl
            have p2 := cell_of_heap hnw 2 rfl
            have p3 := cell_of_heap hnw 3 rfl
            have p4 := cell_of_heap hnw 4 rfl
            have p5 := cell_of_heap hnw 5 rfl
            have HOC := Lib.hid hOc
            have HM := Lib.hid hM
            have HK := Lib.hid hk
            have HB1 := Lib.hid hB1
            have hl72 : (acc.length + 1) * 72 ≤ 140737488355328 := by omega
            clear hsp hbc hOc hQc hM hk hB1 hnw hbw hc3
            go_wp2_with (first | ((with_reducible refine gate_builtin (b := .append) (xs := #[.tmp 78, .tmp 80]) rfl ?_); at_builtin; refine Kd.R_append kc (w0 := w1) w1.heap.size rfl (.tmp 78) (.tmp 80) 45 55 (.agg #[.int .i64 0, .int .i64 0, .int .i64 0, .int .i64 0, .slice none 0 0, .string ⟨#[]⟩]) 72 rfl Tryd.underlying45 info55 rfl (by decide) (by decide) u7 acc (withText c t) [.int .i64 c.f0, .int .i64 c.f1, .int .i64 c.f2, .int .i64 c.f3, .slice A4 c.f4.length c4, .string t] (fun _ => True) (fun k => wr.heap.size ≤ k ∧ k < w2.heap.size) rfl rfl HM.out HK.out (fun _ _ => trivial) HOC.out HB1.out (by omega) hl72 ?_; intro v1 w13 ho hb hg hat; have n0_ := Lib.hid hb; have n1_ := Lib.hid ho; clear ho hb hg hat))
            go_roundw
            case rel => exact ⟨M + 1, f, acc ++ [withText c t], by omega, by go_num, by omega, by simp; omega, HSP.out, n1_.out, n0_.out⟩
            case measure => (simp [intOf]; omega)
      · have hIe : I = ls.length := by omega
        subst hIe
        have hspec : parseV s = .ok acc := by rw [HPA.out, List.drop_length, parseA_nil]
        have HSP := Lib.hid hspec
        clear hspec
        go_wp2_with fail
        refine bodyPost_ret (v := .tuple #[u7, .int .i64 0, .int .i64 0]) ?_ rfl ?_
        · exact results_tmp3 (P := Tryd.prog) (fn := Tryd.f26) (p := 2) (t := 3) (u := 4) rfl _ _
        · unfold parseVQ
          rw [HSP.out]
          exact ⟨_, rfl, Kd.R_lower HO.out hz1, HBE.out⟩
  · have g1 : (el != 0) = true := bne_iff_ne.2 he
    have hspec : parseV s = .error (0, el) := by unfold parseV; rw [← HEL.out, if_pos he]
    have HSP := Lib.hid hspec
    clear hspec he
    go_wp2_with fail
    refine bodyPost_ret (v := .tuple #[.slice none 0 0, .int .i64 0, .int .i64 el]) ?_ rfl ?_
    · exact results_tmp3 (P := Tryd.prog) (fn := Tryd.f26) (p := 2) (t := 3) (u := 4) rfl _ _
    · unfold parseVQ
      rw [HSP.out]
      exact ⟨rfl, HBE1.out⟩
end Go.Proofs.YtdgifgdadminbaaDoor
