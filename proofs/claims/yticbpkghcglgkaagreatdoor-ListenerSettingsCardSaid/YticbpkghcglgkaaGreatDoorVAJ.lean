/- Joined: Rn3, Rn4. -/
import Derived.Test.YticbpkghcglgkaaGreatDoorVAI
set_option linter.unusedVariables false
set_option linter.unusedSimpArgs false
set_option linter.unnecessarySimpa false
namespace Go.Proofs.YticbpkghcglgkaaGreatDoor
open Go.Proofs.Tryz Go.RowKit
set_option maxRecDepth 20000
def Dj (a b:Option Nat):Prop:=∀ k,a=some k->b=some k->False
theorem Dj.symm {a b:Option Nat} (h:Dj a b):Dj b a:=fun k h1 h2=>h k h2 h1
theorem Dj.ne {a b:Option Nat} (h:Dj a b):a=none∨a≠b:=by
 cases a with
 | none=>exact .inl rfl
 | some k=>exact .inr fun e=>h k rfl e.symm
end Go.Proofs.YticbpkghcglgkaaGreatDoor
namespace Go.Proofs.YticbpkghcglgkaaGreatDoor
open Go.Proofs.Tryz Go.RowKit
set_option maxRecDepth 100000
def yI (rs:List Nat):ByteArray:=⟨((zm rs).map fun b=>UInt8.ofNat b).toArray⟩
theorem qf8 (rs:List Nat):(zm rs).length<=4 * rs.length:=by
 induction rs with
 | nil=>simp [zm]
 | cons r t ih =>
  have e:zm (r::t)=vQ r++zm t:=by simp [zm]
  have:=qaR r
  rw [e,List.length_append,List.length_cons]
  omega
theorem qfl {rs:List Nat} (h : ∀ r∈rs,qR r) : ∀ b∈zm rs,b<256:=by
 intro b hb
 rw [zm,List.mem_flatMap] at hb
 obtain ⟨r,hr,hb⟩:=hb
 exact qh8 (h r hr) b hb
end Go.Proofs.YticbpkghcglgkaaGreatDoor
