/- The mark, plainly: what its calls make of a disk; that it is old or new, wherever the power goes. -/
import Derived.Test.YtekgjjanikicnaaDk2
namespace Go.Proofs.Ytekgjjanikicnaa.Sx
open Go
set_option linter.unusedSimpArgs false
set_option linter.unusedVariables false

def DS.inb (d : DS) (i : Int) : Bool := decide (0 ≤ i ∧ i < (d.l.length : Int))
/-- How a read ends. -/
def DS.rerr (d : DS) (i : Int) : Int := if d.down = true then 6 else if d.inb i = true then 0 else 3
def DS.putS (d : DS) (i : Int) (b : Sec) : Int × DS := if (d.write i b).1 = 0 then (d.write i b).2.sync else d.write i b
def DS.putN (d : DS) (i : Int) (b : Sec) : Nat → Int × DS
  | 0 => (0, d)
  | n + 1 => if (d.putS i b).1 = 0 then (d.putS i b).2.putN (i + 1) b n else d.putS i b
def pad (b : Sec) : Sec := b ++ List.replicate (64 - b.length) 0
theorem pad_length {b : Sec} (h : b.length ≤ 64) : (pad b).length = 64 := by simp [pad]; omega
def DS.save (d : DS) (at_ : Int) (b : Sec) : Int × DS := if 64 < b.length then (1, d) else d.putN at_ (pad b) 3
/-- How a read of three ends. -/
def DS.lerr (d : DS) (at_ : Int) : Int := if d.rerr at_ ≠ 0 then d.rerr at_ else if d.rerr (at_ + 1) ≠ 0 then d.rerr (at_ + 1) else d.rerr (at_ + 2)
def val3 (x y z : Sec) : Sec := if y = z then z else x
def DS.val (d : DS) (at_ : Int) : Sec := val3 (d.get at_.toNat) (d.get (at_ + 1).toNat) (d.get (at_ + 2).toNat)
/-- What is left to be mended: the sectors as they were read. -/
def DS.fix (d : DS) (i : Int) (v : Sec) : List Sec → Int × DS
  | [] => (0, d)
  | x :: r => if x = v then d.fix (i + 1) v r else if (d.putS i v).1 = 0 then (d.putS i v).2.fix (i + 1) v r else d.putS i v
def DS.mend (d : DS) (at_ : Int) : Int × DS :=
  if d.lerr at_ ≠ 0 then (d.lerr at_, d) else d.fix at_ (d.val at_) [d.get at_.toNat, d.get (at_ + 1).toNat, d.get (at_ + 2).toNat]
theorem DS.Ok.putS {d : DS} (h : d.Ok) (i : Int) (b : Sec) : (d.putS i b).2.Ok := by
  unfold DS.putS
  split
  · exact (h.write i b).sync
  · exact h.write i b
theorem DS.Ok.putN {d : DS} (h : d.Ok) (i : Int) (b : Sec) (n : Nat) : (d.putN i b n).2.Ok := by
  induction n generalizing d i with
  | zero => exact h
  | succ n ih =>
    unfold DS.putN
    split
    · exact ih (h.putS i b) _
    · exact h.putS i b
theorem DS.Ok.save {d : DS} (h : d.Ok) (i : Int) (b : Sec) : (d.save i b).2.Ok := by
  unfold DS.save
  split
  · exact h
  · exact h.putN _ _ _
theorem DS.Ok.fix {d : DS} (h : d.Ok) (i : Int) (v : Sec) (l : List Sec) : (d.fix i v l).2.Ok := by
  induction l generalizing d i with
  | nil => exact h
  | cons x r ih =>
    unfold DS.fix
    split
    · exact ih h _
    · split
      · exact ih (h.putS i v) _
      · exact h.putS i v
theorem DS.Ok.mend {d : DS} (h : d.Ok) (i : Int) : (d.mend i).2.Ok := by
  unfold DS.mend
  split
  · exact h
  · exact h.fix _ _ _
end Go.Proofs.Ytekgjjanikicnaa.Sx
