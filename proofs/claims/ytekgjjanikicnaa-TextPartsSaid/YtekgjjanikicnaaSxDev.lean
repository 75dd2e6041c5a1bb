/- A tool for the bench alone: goals shown without the code that follows. Never part of a claim. -/
import Lean
import Derived.Test.YtekgjjanikicnaaSxG
open Lean Meta Elab Tactic
namespace SxDev
def dots : Prop := True
def hot : List String := ["codeK","opsK","opK","stepK","guardK","putK","insK","delK","pureK","evK","evLK","resK","resLK","knownK","forceN","forceI","callK","planK","getK","objK","newK","swapK","withO","outI","outB","afterK","renK"]
partial def el (e : Expr) : Expr := e.replace fun x =>
  match x.getAppFn with
  | .const n _ =>
    let s := n.getString!
    if x.isApp && (`Go.Proofs).isPrefixOf n && hot.contains s then some (mkConst ``dots)
    else if x.isApp && s == "LoopVC" && x.getAppNumArgs == 6 then some (mkApp (mkConst `LOOP) (el (x.getAppArgs[4]!)))
    else if x.isApp && s == "RoundVC" && x.getAppNumArgs == 7 then some (mkAppN (mkConst `ROUND) #[x.getAppArgs[3]!, el (x.getAppArgs[5]!)])
    else if x.isApp && s == "DrawVC" && x.getAppNumArgs == 7 then some (mkAppN (mkConst `DRAW) #[x.getAppArgs[3]!, el (x.getAppArgs[5]!)])
    else if x.isApp && s == "Tri" && x.getAppNumArgs == 7 then some (mkAppN (mkConst `TRI) ((x.getAppArgs.extract 1 6).map el))
    else if x.isApp && (`Go.Proofs).isPrefixOf n && ["fx","hp","nx","sl"].contains s && x.appArg!.isAppOfArity (n.getPrefix ++ `mk) 4 then
      let a := x.appArg!.getAppArgs
      some (el (match s with | "sl" => a[0]! | "hp" => a[1]! | "nx" => a[2]! | _ => a[3]!))
    else none
  | .lam .. => none
  | _ => none

def showGoal (g : MVarId) : MetaM MessageData := g.withContext do
  let mut m : MessageData := m!""
  for d in ← getLCtx do
    if d.isImplementationDetail then continue
    if ← Meta.isProp d.type then m := m ++ m!"{d.userName} : {el d.type}\n"
    else m := m ++ m!"{d.userName} "
  let t ← instantiateMVars (← g.getType)
  addMessageContextFull (m ++ m!"\n⊢ {el t}\n")
elab "sg" : tactic => do
  let gs ← getUnsolvedGoals
  let mut i : Nat := 0
  for g in gs do
    i := i + 1
    if i ≤ 12 then logInfo (m!"[{i} of {gs.length}] " ++ (← showGoal g))
elab "sgn" n:num : tactic => do
  let gs ← getUnsolvedGoals
  let g := gs[n.getNat - 1]!
  logInfo (m!"[{n.getNat} of {gs.length}] " ++ (← showGoal g))
elab "sgc" : tactic => do logInfo m!"{(← getUnsolvedGoals).length} goals"
end SxDev
