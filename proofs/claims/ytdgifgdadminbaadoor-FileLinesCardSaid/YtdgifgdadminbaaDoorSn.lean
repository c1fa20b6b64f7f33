/- Where a text's lines begin. No program here. Written by this session. -/
import Derived.Test.YtdgifgdadminbaaDoorSm
namespace Go.Proofs.YtdgifgdadminbaaDoor
open Sp Go.Lib

theorem count_free {l : List UInt8} (h : (10 : UInt8) ∉ l) : l.count 10 = 0 := List.count_eq_zero.2 h
theorem joinL_count : ∀ ls : List (List UInt8), (∀ l ∈ ls, (10 : UInt8) ∉ l) → (joinL ls).count 10 = ls.length
  | [], _ => rfl
  | l :: ls, h => by
    rw [joinL_cons, List.count_append, List.count_cons_self, count_free (h l (by simp)), joinL_count ls (fun x hx => h x (by simp [hx])), List.length_cons]
    omega
theorem take_count (s : List UInt8) (i : Nat) (h : i < s.length) : (s.take (i + 1)).count 10 = (s.take i).count 10 + if s[i]'h = 10 then 1 else 0 := by
  rw [List.take_succ_eq_append_getElem h, List.count_append, List.count_singleton]
  congr 1
  by_cases e : s[i]'h = 10
  · rw [if_pos e, e]; rfl
  · rw [if_neg e, if_neg (by simpa using e)]

/-- Place i of the lines ls lies in line k. -/
structure Place (ls : List (List UInt8)) (i k : Nat) (a : List (List UInt8)) (l : List UInt8) (b : List (List UInt8)) (r r' : List UInt8) : Prop where
  all : ls = a ++ l :: b
  len : a.length = k
  cut : l = r ++ r'
  pos : i = (joinL a).length + r.length
theorem Place.start {l : List UInt8} {b : List (List UInt8)} : Place (l :: b) 0 0 [] l b [] l := ⟨rfl, rfl, rfl, rfl⟩
theorem Place.split {ls i k a l b r r'} (h : Place ls i k a l b r r') : joinL ls = (joinL a ++ r) ++ (r' ++ 10 :: joinL b) := by
  rw [h.all, joinL_append, joinL_cons, h.cut]
  simp
theorem Place.lt {ls i k a l b r r'} (h : Place ls i k a l b r r') : i < (joinL ls).length := by
  rw [h.split, h.pos]
  simp only [List.length_append, List.length_cons]
  omega
theorem Place.at_ {ls i k a l b r r'} (h : Place ls i k a l b r r') (hi : i < (joinL ls).length) : (joinL ls)[i]'hi = (r' ++ 10 :: joinL b).head (by simp) := by
  have e := h.split
  have hl : (joinL a ++ r).length = i := by rw [List.length_append, h.pos]
  have : (joinL ls)[i]? = some ((r' ++ 10 :: joinL b).head (by simp)) := by
    rw [e, List.getElem?_append_right (by omega), hl, Nat.sub_self]
    rw [← List.head?_eq_getElem?, List.head?_eq_some_head]
  rw [List.getElem?_eq_getElem hi] at this
  exact Option.some.inj this
/-- At a line's end the next line begins. -/
theorem Place.next {ls i k a l b r} (h : Place ls i k a l b r []) {l2 : List UInt8} {b2 : List (List UInt8)} (hb : b = l2 :: b2) : Place ls (i + 1) (k + 1) (a ++ [l]) l2 b2 [] l2 := by
  refine ⟨by rw [h.all, hb]; simp, by rw [List.length_append, h.len]; rfl, rfl, ?_⟩
  have hc := h.cut
  rw [List.append_nil] at hc
  rw [h.pos, joinL_append, List.length_append, joinL_cons, joinL_nil, hc]
  simp only [List.length_append, List.length_cons, List.length_nil]
  omega
theorem Place.more {ls i k a l b r c r'} (h : Place ls i k a l b r (c :: r')) : Place ls (i + 1) k a l b (r ++ [c]) r' := by
  refine ⟨h.all, h.len, by rw [h.cut]; simp, ?_⟩
  rw [h.pos, List.length_append]
  simp only [List.length_cons, List.length_nil]
  omega
theorem Place.take_ {ls i k a l b r'} (h : Place ls i k a l b [] r') : (joinL ls).take i = joinL a ∧ (joinL ls).drop i = joinL (l :: b) := by
  have e : joinL ls = joinL a ++ joinL (l :: b) := by rw [h.all, joinL_append]
  have hi : i = (joinL a).length := by have := h.pos; simpa using this
  rw [e, hi]
  exact ⟨List.take_left' rfl, List.drop_left' rfl⟩
end Go.Proofs.YtdgifgdadminbaaDoor
