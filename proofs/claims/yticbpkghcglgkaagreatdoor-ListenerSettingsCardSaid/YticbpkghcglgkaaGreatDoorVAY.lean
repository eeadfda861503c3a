/- Joined: Uc3, Gd0. -/
import Derived.LoopN
import Derived.Test.YticbpkghcglgkaaGreatDoorVAQ
import Derived.Test.YticbpkghcglgkaaGreatDoorVAU
set_option linter.unusedVariables false
set_option linter.unusedSimpArgs false
set_option linter.unnecessarySimpa false
namespace Go.Proofs.YticbpkghcglgkaaGreatDoor
open Go.Proofs.Tryz Go.RowKit
set_option maxRecDepth 20000
def ChgBox (w:World) (c:Chg) (A:Option Addr) (cap:Nat) (wx:World):Prop :=
 wx.cell? ⟨w.heap.size,0,none⟩=some (.int .i64 c.kind)/\wx.cell? ⟨w.heap.size,1,none⟩=some (.int .i64 c.row)/\wx.cell? ⟨w.heap.size,2,none⟩=some (.int .i64 c.col)/\wx.cell? ⟨w.heap.size,3,none⟩=some (.int .i64 c.count)/\wx.cell? ⟨w.heap.size,4,none⟩=some (.int .i64 c.til)/\wx.cell? ⟨w.heap.size,5,none⟩=some (.slice A c.glyphs.length cap)/\Below w.heap.size w wx/\w.heap.size+1<=wx.heap.size
theorem ChgBox.on {w wx wy:World} {c:Chg} {A:Option Addr} {cap:Nat} (h:ChgBox w c A cap wx) (hb:Below wx.heap.size wx wy):ChgBox w c A cap wy:=by
 obtain ⟨h0,h1,h2,h3,h4,h5,h6,h7⟩:=h
 have k : ∀ i,wy.cell? ⟨w.heap.size,i,none⟩=wx.cell? ⟨w.heap.size,i,none⟩:=fun i=>hb.cell (by show w.heap.size<_;omega)
 exact ⟨(k 0).trans h0,(k 1).trans h1,(k 2).trans h2,(k 3).trans h3,(k 4).trans h4,(k 5).trans h5,h6.trans (hb.mono (by omega)),by have:=hb.size;omega⟩
def Gd (w:World):Prop:=Sp w/\U8 w/\Sty w
theorem Gd.below {w w':World} (h:Gd w) (hb:Below w.heap.size w w'):Gd w':=⟨h.1.below hb (Nat.le_refl _),h.2.1.below hb,h.2.2.below hb (Nat.le_refl _)⟩
theorem qas {w:World} {base size n c:Nat} {e:TypeId} {A:Option Addr} {xs:List Value} (h:w.ownsRow base e size (.slice A n c) n xs):n<=c/\c<=maxLen:=by
 rcases h.2 with ⟨h0,_⟩ | ⟨g,cap,cur,hv,h1,h2,h3,h4,_⟩
 ·injection h0 with _ h0 h0';exact ⟨by omega,by unfold maxLen;omega⟩
 ·injection hv with _ _ hv;exact ⟨by omega,by omega⟩
end Go.Proofs.YticbpkghcglgkaaGreatDoor
