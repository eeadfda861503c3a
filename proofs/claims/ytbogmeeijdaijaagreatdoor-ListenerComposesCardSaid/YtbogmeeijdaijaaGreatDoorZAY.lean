/- Joined: Lw7. -/
import Derived.LoopN
import Derived.BigRegion
import Derived.Laws.EntriesVeiled
import Derived.StillTailTactics
import Derived.Test.YtbogmeeijdaijaaGreatDoorZAJ
import Derived.Test.YtbogmeeijdaijaaGreatDoorZAK
set_option linter.unusedVariables false
set_option linter.unusedSimpArgs false
set_option linter.unnecessarySimpa false
namespace Go.Proofs.YtbogmeeijdaijaaGreatDoor
open Go.Proofs.Tryz Go.RowKit
set_option maxRecDepth 20000
theorem wf_u8 {a:Int} (h:(Lit.int .u8 a).wf=true):0<=a/\a<=255:=by
 simp [Lit.wf] at h
 have h1:IntKind.u8.min=0:=rfl;have h2:IntKind.u8.max=255:=rfl
 omega
theorem lim_u8 {a:Int} (h:(Lit.int .u8 a).wf=true) (k:Int) (h1:1<=k) (h2:k<=200):1<=wrap64 (1+(wrap64 a).tmod k)/\wrap64 (1+(wrap64 a).tmod k)<=k:=by
 obtain ⟨a0,a1⟩:=wf_u8 h;have e:wrap64 a=a:=by unfold wrap64;omega
 rw [e,Int.tmod_eq_emod_of_nonneg a0];have h3:=Int.emod_nonneg a (show k≠0 by omega);have h4:=Int.emod_lt_of_pos a (show 0<k by omega);generalize a % k=x at *
 unfold wrap64
 omega
end Go.Proofs.YtbogmeeijdaijaaGreatDoor
