/- Short names for what the walks normalise with. -/
import Derived.KernelRfl
namespace Go.Proofs.Ytekgjjanikicnaa.Sx
theorem n1 {p : Prop} [Decidable p] : (decide p = true) = p := decide_eq_true_eq
theorem n2 {p : Prop} [Decidable p] : (decide p = false) ↔ ¬ p := decide_eq_false_iff_not
theorem n3 {b : Bool} : ((!b) = true) = (b = false) := Bool.not_eq_true' b
theorem n4 {b : Bool} : ((!b) = false) = (b = true) := Bool.not_eq_false' b
theorem n5 : (!true) = false := Bool.not_true
theorem n6 : (!false) = true := Bool.not_false
/-! Steps of a walk: what is left open is the last part. -/
theorem w1 {a b c : Prop} (h : c) (x : a := by repeat' first | exact trivial | refine And.intro rfl ?_) (y : b := by first | exact fun _ h => h | exact fun _ => List.mem_cons_of_mem _ | exact fun _ => List.mem_append_right _) : a ∧ b ∧ c := ⟨x, y, h⟩
theorem w2 {a b c d : Prop} (h : a → b) (k : c → d) : (a → b) ∧ (c → d) := ⟨h, k⟩
theorem w3 {a b : Prop} (h : b) (x : a := by omega) : a ∧ b := ⟨x, h⟩
end Go.Proofs.Ytekgjjanikicnaa.Sx
