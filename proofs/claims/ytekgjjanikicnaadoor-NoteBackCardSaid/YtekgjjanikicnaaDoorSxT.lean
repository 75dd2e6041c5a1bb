/- Short names for what the walks normalise with. -/
import Derived.KernelRfl
namespace Go.Proofs.YtekgjjanikicnaaDoor.Sx
theorem n1 {p : Prop} [Decidable p] : (decide p = true) = p := decide_eq_true_eq
theorem n2 {p : Prop} [Decidable p] : (decide p = false) ↔ ¬ p := decide_eq_false_iff_not
theorem n3 {b : Bool} : ((!b) = true) = (b = false) := Bool.not_eq_true' b
theorem n4 {b : Bool} : ((!b) = false) = (b = true) := Bool.not_eq_false' b
theorem n5 : (!true) = false := Bool.not_true
theorem n6 : (!false) = true := Bool.not_false
end Go.Proofs.YtekgjjanikicnaaDoor.Sx
