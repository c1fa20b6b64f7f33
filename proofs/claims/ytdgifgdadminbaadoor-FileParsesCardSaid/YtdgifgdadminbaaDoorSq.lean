/- An error's number is not 0. No program here. Written by this session. -/
import Derived.Test.YtdgifgdadminbaaDoorS1
namespace Go.Proofs.YtdgifgdadminbaaDoor
open Sp Go.Lib

theorem nextS_err {lines : List ByteArray} {i : Nat} {f : ByteArray} {er : Int} (h : nextS lines i f = .error er) : er ≠ 0 := by
  unfold nextS at h
  split at h
  · cases h; simp
  · split at h
    · cases h; simp
    · split at h
      · cases h; simp
      · cases h
theorem readAll_err {f : ByteArray → Int × Int} {ws : List ByteArray} {er : Int} (h : readAll f ws = .error er) : er ≠ 0 := by
  unfold readAll at h
  split at h
  · rename_i x hx
    cases h
    have := List.find?_some hx
    simpa using this
  · cases h
theorem routeS_err {lines : List ByteArray} {i : Nat} {x : Int × Int} (h : routeS lines i = .error x) : x.2 ≠ 0 := by
  unfold routeS at h
  split at h
  · rename_i er he
    cases h
    exact nextS_err he
  · split at h
    · cases h; simp
    · split at h
      · rename_i er he
        cases h
        exact readAll_err he
      · split at h
        · rename_i er he
          cases h
          exact nextS_err he
        · split at h
          · cases h; simp
          · split at h
            · rename_i er he
              cases h
              exact readAll_err he
            · cases h
theorem routesS_err {lines : List ByteArray} : ∀ (k : Nat) {x : Int × Int}, routesS lines k = .error x → x.2 ≠ 0
  | 0, x, h => by cases h
  | k + 1, x, h => by
    unfold routesS at h
    split at h
    · rename_i e he
      cases h
      exact routesS_err k he
    · split at h
      · rename_i e he
        cases h
        exact routeS_err he
      · cases h
theorem planS_err {lines : List ByteArray} {x : Int × Int} (h : planS lines = .error x) : x.2 ≠ 0 := by
  unfold planS at h
  split at h
  · rename_i er he
    cases h
    exact nextS_err he
  · split at h
    · split at h
      · rename_i ha
        cases h
        exact ha
      · split at h
        · rename_i hb
          cases h
          exact hb
        · split at h
          · cases h; simp
          · split at h
            · rename_i e he
              cases h
              exact routesS_err _ he
            · split at h
              · rename_i er he
                cases h
                exact nextS_err he
              · split at h
                · rename_i er he
                  cases h
                  exact readAll_err he
                · split at h
                  · cases h; simp
                  · cases h
    · cases h; simp
theorem parseS_err {s : ByteArray} {x : Int × Int} (h : parseS s = .error x) : x.2 ≠ 0 := by
  unfold parseS at h
  split at h
  · rename_i hl
    cases h
    exact hl
  · exact planS_err h
end Go.Proofs.YtdgifgdadminbaaDoor
