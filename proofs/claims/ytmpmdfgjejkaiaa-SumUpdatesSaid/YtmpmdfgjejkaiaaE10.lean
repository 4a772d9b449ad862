/- From a function's contract to a law's row. -/
import Derived.Test.YtmpmdfgjejkaiaaE9
namespace Go.Aq
open Go.RowKit (Below)
theorem FnOk.law {P : Program} {f : FuncId} {args : List SV} {α : Type} {m : O α} {enc : α → SV} (h : FnOk P f args m enc) {r : α} (hm : m = .ok r) {as : Array Value} (ha : (denL ν0 args).toArray = as) (w : World) :
    Calls P f as w fun e w' => e = .returned (den ν0 (enc r)) ∧ Below w.heap.size w w' := by
  subst ha
  refine (h (by rw [hm]; intro h; cases h) w).mono ?_
  intro e w' hp
  cases e with
  | returned v =>
    obtain ⟨r', hr, rfl, hB⟩ := hp
    rw [hm] at hr; cases hr
    exact ⟨rfl, hB⟩
  | panicked ch =>
    obtain ⟨p, hr, _, _⟩ := hp
    rw [hm] at hr; cases hr
  | outgrown => exact hp.elim
end Go.Aq
