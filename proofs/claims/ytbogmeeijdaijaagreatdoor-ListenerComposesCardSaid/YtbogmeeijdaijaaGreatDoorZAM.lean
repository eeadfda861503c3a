/- Joined: PaD, PaF, Ur3. -/
import Derived.LoopN
import Derived.Test.YtbogmeeijdaijaaGreatDoorZAJ
import Derived.Test.YtbogmeeijdaijaaGreatDoorZAL
set_option linter.unusedVariables false
set_option linter.unusedSimpArgs false
set_option linter.unnecessarySimpa false
set_option maxHeartbeats 4000000
namespace Go.Proofs.YtbogmeeijdaijaaGreatDoor
open Go.Proofs.Tryz Go.RowKit
set_option maxRecDepth 20000
theorem PaS.words1 {w:World} {g nb:Nat} {q:Prs} (h:PaS w g nb q) : ∃ A c,w.cell? ⟨g,1,none⟩=some (.slice A q.words.length c):=by
 obtain ⟨A,n,c,A2,c2,h1,h2,h3,h4,h5⟩:=h;have hn:q.words.length=n:=by have:=h4.1;simp [sv] at this;omega
 have C1:=h3.cell 1;simp only [jh,La,Lb,Lc] at C1;exact ⟨A,c,by rw [hn];exact C1⟩
theorem PaS.out_lt {w:World} {g nb:Nat} {q:Prs} (h:PaS w g nb q) : ∀ b o s n c,w.cell? ⟨g,2,none⟩=some (.slice (some ⟨b,o,s⟩) n c)->b<w.heap.size:=by
 obtain ⟨A,n,c,A2,c2,h1,h2,h3,h4,h5⟩:=h;have C2:=h3.cell 2;simp only [jh,La,Lb,Lc] at C2;intro b o s n' c' hc;rw [C2] at hc;simp only [Option.some.injEq,Value.slice.injEq] at hc;obtain ⟨rfl,rfl,rfl⟩:=hc
 rcases h5.2 with ⟨h0,_⟩ | ⟨G,cap,cur,hv,h1,h2,_⟩
 ·cases h0
 ·simp only [Value.slice.injEq,Option.some.injEq,Addr.mk.injEq] at hv;obtain ⟨⟨rfl,_,_⟩,_,_⟩:=hv;have hb:Blk w b 64 cur:=h2;exact hb.lt
def PaV (w:World) (g:Nat) (X:World):Prop:=Below w.heap.size w X/\X.heap.size=w.heap.size+1 /\
 X.cell? ⟨w.heap.size,0,none⟩=some (.func (.func 161) #[.pointer (some ⟨g,0,none⟩)] #[])/\X.cell? ⟨w.heap.size,1,none⟩=some (.func (.func 162) #[.pointer (some ⟨g,0,none⟩)] #[])/\X.cell? ⟨w.heap.size,2,none⟩=some (.func (.func 163) #[.pointer (some ⟨g,0,none⟩)] #[]) /\
 X.cell? ⟨w.heap.size,3,none⟩=some (.func (.func 164) #[.pointer (some ⟨g,0,none⟩)] #[])/\X.cell? ⟨w.heap.size,4,none⟩=some (.func (.func 165) #[.pointer (some ⟨g,0,none⟩)] #[])
theorem PaV.new (w:World) (g:Nat) (t:TypeId):PaV w g (w.alloc (.cells #[(.func (.func 161) #[.pointer (some ⟨g,0,none⟩)] #[]),(.func (.func 162) #[.pointer (some ⟨g,0,none⟩)] #[]),(.func (.func 163) #[.pointer (some ⟨g,0,none⟩)] #[]),(.func (.func 164) #[.pointer (some ⟨g,0,none⟩)] #[]),(.func (.func 165) #[.pointer (some ⟨g,0,none⟩)] #[])] t)) :=
 ⟨L5,by simp,qu w _ t 0,qu w _ t 1,qu w _ t 2,qu w _ t 3,qu w _ t 4⟩
def PaP (g nb:Nat) (o:Option Prs) (w:World) (e:Ending) (w':World):Prop :=
 Below g w w'/\match o with
 | some q=>e = .returned (.bool true)/\PaS w' g nb q
 | none=>e = .returned (.bool false)
theorem part_ (E:World) (p:Prs) (g nb:Nat) (w:World) (hE:PaE E g nb) (hSt:Sty E) (hEw:Below g E w) (h:PaS w g nb p) (hk:PaK p):Calls prog 138 #[.pointer (some ⟨g,0,none⟩)] w (PaP g nb (va p) w):=by
 have hgl:=h.lt;have hmf : ∀ (fn:Fn) (first cap:Array Value) (w:World),(Instr.makeFunc fn first cap).run prog w = .ok (.func fn first cap) w:=fun _ _ _ _=>rfl
 have hE0:E.heap.size=g:=hE.2.2.2;obtain ⟨A1,c1,C1⟩:=h.words1;have KW : ∀ {w':World},Below w.heap.size w w'->Below g E w':=fun hw=>hEw.trans (hw.mono (Lr hgl))
 have HCz:Hid (∀ w',Below w.heap.size w w'->w'.cell? ⟨g,1,none⟩=some (.slice A1 p.words.length c1)):=Lh fun w' hw=>(hw.cell (show g<_ from hgl)).trans C1
 have HO:=Lh h.out_lt;have Q0:Hid (∀ w',Below w.heap.size w w'->Calls prog 161 #[.pointer (some ⟨g,0,none⟩)] w' (PaR g nb p (zP p) w')):=Lh fun w' hw=>styled_ p g nb w' (hSt.below (KW hw) (Nat.le_of_eq hE0)) (h.below hw)
 have Q1:Hid (∀ w',Below w.heap.size w w'->Calls prog 162 #[.pointer (some ⟨g,0,none⟩)] w' (PaR g nb p (jP p) w')):=Lh fun w' hw=>word_ p g nb w' (h.below hw) (hE.set (KW hw)) hk
 have Q2:Hid (∀ w',Below w.heap.size w w'->Calls prog 163 #[.pointer (some ⟨g,0,none⟩)] w' (PaR g nb p (qaP p) w')):=Lh fun w' hw=>figures_ p g nb w' (h.below hw) hk
 have Q3:Hid (∀ w',Below w.heap.size w w'->Calls prog 164 #[.pointer (some ⟨g,0,none⟩)] w' (PaR2 g nb p (ko p) w')):=Lh fun w' hw=>sign_ E p g nb w' hE (KW hw) (h.below hw) hk
 have Q4:Hid (∀ (q:Prs) (w':World),q.words=p.words->PaS w' g nb q->(charW p.words=none->q=p)->Below g w w'->Calls prog 165 #[.pointer (some ⟨g,0,none⟩)] w' (PaR3 g nb p (kD p) w')):=Lh fun q w' hq hs hc hw=>by
  by_cases hcw:charW p.words=none
  ·obtain rfl:=hc hcw;exact amount_ E q g nb w' hE (hEw.trans hw) hs hk
  ·obtain ⟨x,hx⟩:=Option.ne_none_iff_exists'.1 hcw;have hp:=qfu hx;have ha:kD p=none:=by unfold kD;rw [hp]
   rw [ha];refine (qeQ q g nb w' hs (fun s hs=>hk.sz s (by rw [<- hq];exact hs)) (by rw [hq];exact hk.len) (by rw [hq];exact hp)).mono fun e w'' ⟨h1,h2,h3⟩=>⟨h1,h2,q,hq,h3⟩
 have hpl:p.words.length<=950000:=hk.len;clear hE hSt hEw hk hE0 C1 h KW
 cases e0:zP p with
 | some q =>
  have er:va p=some q:=by unfold va;rw [e0];rfl
  rw [er];rw [e0] at Q0;clear er e0 Q1 Q2 Q3 Q4
  go_enter func138,ntmps138
  go_upto_region 2 with fail
  refine qa (PaV w g) (PaV.new w g _) ?_;rintro X ⟨hbX,hzX,F0,G1,G2,G3,G4⟩;have hFl:w.heap.size<X.heap.size:=by omega
  have HW:Hid (∀ w',Below X.heap.size X w'->Below w.heap.size w w'):=Lh fun w' hb=>hbX.trans (hb.mono hbX.size)
  have HC1:Hid (∀ w',Below X.heap.size X w'->w'.cell? ⟨g,1,none⟩=some (.slice A1 p.words.length c1)):=Lh fun w' hb=>HCz.out w' (HW.out w' hb)
  have HFz:Hid (∀ w',Below X.heap.size X w'->w.heap.size<w'.heap.size):=Lh fun w' hb=>by have:=hb.size;omega
  have HF1:Hid (∀ w',Below X.heap.size X w'->w'.cell? ⟨w.heap.size,1,none⟩=some (.func (.func 162) #[.pointer (some ⟨g,0,none⟩)] #[])):=Lh fun w' hb=>(hb.cell hFl).trans G1
  have HF2:Hid (∀ w',Below X.heap.size X w'->w'.cell? ⟨w.heap.size,2,none⟩=some (.func (.func 163) #[.pointer (some ⟨g,0,none⟩)] #[])):=Lh fun w' hb=>(hb.cell hFl).trans G2
  have HF3:Hid (∀ w',Below X.heap.size X w'->w'.cell? ⟨w.heap.size,3,none⟩=some (.func (.func 164) #[.pointer (some ⟨g,0,none⟩)] #[])):=Lh fun w' hb=>(hb.cell hFl).trans G3
  have HF4:Hid (∀ w',Below X.heap.size X w'->w'.cell? ⟨w.heap.size,4,none⟩=some (.func (.func 165) #[.pointer (some ⟨g,0,none⟩)] #[])):=Lh fun w' hb=>(hb.cell hFl).trans G4
  have hb1:Below X.heap.size X X:=Le _ _;have cc1:=HC1.out _ hb1;clear G1 G2 G3 G4 hzX;have K0:Hid (∀ w',Below X.heap.size X w'->Calls prog 161 #[.pointer (some ⟨g,0,none⟩)] w' fun e w''=>e = .returned (.bool true)/\Below g w w''/\PaS w'' g nb q):=Lh fun w' hb=>(Q0.out w' (HW.out w' hb)).mono fun e w'' ⟨a,b,c⟩=>⟨b,((HW.out w' hb).mono (Lr hgl)).trans a,c⟩
  clear HF1 HF2 HF3 HF4 HFz;go_wp2;refine wp_loop_rounds 6 ?_;rw [rounds_succ]
  go_wp2_with (go_at_call 161;refine (K0.out _ hb1).mono ?_;rintro e wz ⟨rfl,hbz,hpz⟩)
  go_ret;exact ⟨hbz,rfl,hpz⟩
 | none =>
  rw [e0] at Q0
  cases e1:jP p with
  | some q =>
   have er:va p=some q:=by unfold va;rw [e0,e1];rfl
   rw [er];rw [e1] at Q1;clear er e0 e1 Q2 Q3 Q4
   go_enter func138,ntmps138
   go_upto_region 2 with fail
   refine qa (PaV w g) (PaV.new w g _) ?_;rintro X ⟨hbX,hzX,F0,G1,G2,G3,G4⟩;have hFl:w.heap.size<X.heap.size:=by omega
   have HW:Hid (∀ w',Below X.heap.size X w'->Below w.heap.size w w'):=Lh fun w' hb=>hbX.trans (hb.mono hbX.size)
   have HC1:Hid (∀ w',Below X.heap.size X w'->w'.cell? ⟨g,1,none⟩=some (.slice A1 p.words.length c1)):=Lh fun w' hb=>HCz.out w' (HW.out w' hb)
   have HFz:Hid (∀ w',Below X.heap.size X w'->w.heap.size<w'.heap.size):=Lh fun w' hb=>by have:=hb.size;omega
   have HF1:Hid (∀ w',Below X.heap.size X w'->w'.cell? ⟨w.heap.size,1,none⟩=some (.func (.func 162) #[.pointer (some ⟨g,0,none⟩)] #[])):=Lh fun w' hb=>(hb.cell hFl).trans G1
   have HF2:Hid (∀ w',Below X.heap.size X w'->w'.cell? ⟨w.heap.size,2,none⟩=some (.func (.func 163) #[.pointer (some ⟨g,0,none⟩)] #[])):=Lh fun w' hb=>(hb.cell hFl).trans G2
   have HF3:Hid (∀ w',Below X.heap.size X w'->w'.cell? ⟨w.heap.size,3,none⟩=some (.func (.func 164) #[.pointer (some ⟨g,0,none⟩)] #[])):=Lh fun w' hb=>(hb.cell hFl).trans G3
   have HF4:Hid (∀ w',Below X.heap.size X w'->w'.cell? ⟨w.heap.size,4,none⟩=some (.func (.func 165) #[.pointer (some ⟨g,0,none⟩)] #[])):=Lh fun w' hb=>(hb.cell hFl).trans G4
   have hb1:Below X.heap.size X X:=Le _ _;have cc1:=HC1.out _ hb1;clear G1 G2 G3 G4 hzX;have K0:Hid (∀ w',Below X.heap.size X w'->Calls prog 161 #[.pointer (some ⟨g,0,none⟩)] w' fun e w''=>e = .returned (.bool false)/\Below X.heap.size X w''):=Lh fun w' hb=>(Q0.out w' (HW.out w' hb)).mono fun e w'' ⟨_,a,_,c⟩=>⟨a,hb.trans (c.mono hb.size)⟩
   have K1:Hid (∀ w',Below X.heap.size X w'->Calls prog 162 #[.pointer (some ⟨g,0,none⟩)] w' fun e w''=>e = .returned (.bool true)/\Below g w w''/\PaS w'' g nb q):=Lh fun w' hb=>(Q1.out w' (HW.out w' hb)).mono fun e w'' ⟨a,b,c⟩=>⟨b,((HW.out w' hb).mono (Lr hgl)).trans a,c⟩
   clear HF2 HF3 HF4 HFz;go_wp2;refine wp_loop_rounds 6 ?_;rw [rounds_succ]
   go_wp2_with (go_at_call 161;refine (K0.out _ hb1).mono ?_;rintro e w2 ⟨rfl,hb2⟩;have cc2:=HC1.out _ hb2;have F1:=HF1.out _ hb2)
   rw [rounds_succ]
   go_wp2_with (go_at_call 162;refine (K1.out _ hb2).mono ?_;rintro e wz ⟨rfl,hbz,hpz⟩)
   go_ret;exact ⟨hbz,rfl,hpz⟩
  | none =>
   rw [e1] at Q1
   cases e2:qaP p with
   | some q =>
    have er:va p=some q:=by unfold va;rw [e0,e1,e2];rfl
    rw [er];rw [e2] at Q2;clear er e0 e1 e2 Q3 Q4
    go_enter func138,ntmps138
    go_upto_region 2 with fail
    refine qa (PaV w g) (PaV.new w g _) ?_;rintro X ⟨hbX,hzX,F0,G1,G2,G3,G4⟩;have hFl:w.heap.size<X.heap.size:=by omega
    have HW:Hid (∀ w',Below X.heap.size X w'->Below w.heap.size w w'):=Lh fun w' hb=>hbX.trans (hb.mono hbX.size)
    have HC1:Hid (∀ w',Below X.heap.size X w'->w'.cell? ⟨g,1,none⟩=some (.slice A1 p.words.length c1)):=Lh fun w' hb=>HCz.out w' (HW.out w' hb)
    have HFz:Hid (∀ w',Below X.heap.size X w'->w.heap.size<w'.heap.size):=Lh fun w' hb=>by have:=hb.size;omega
    have HF1:Hid (∀ w',Below X.heap.size X w'->w'.cell? ⟨w.heap.size,1,none⟩=some (.func (.func 162) #[.pointer (some ⟨g,0,none⟩)] #[])):=Lh fun w' hb=>(hb.cell hFl).trans G1
    have HF2:Hid (∀ w',Below X.heap.size X w'->w'.cell? ⟨w.heap.size,2,none⟩=some (.func (.func 163) #[.pointer (some ⟨g,0,none⟩)] #[])):=Lh fun w' hb=>(hb.cell hFl).trans G2
    have HF3:Hid (∀ w',Below X.heap.size X w'->w'.cell? ⟨w.heap.size,3,none⟩=some (.func (.func 164) #[.pointer (some ⟨g,0,none⟩)] #[])):=Lh fun w' hb=>(hb.cell hFl).trans G3
    have HF4:Hid (∀ w',Below X.heap.size X w'->w'.cell? ⟨w.heap.size,4,none⟩=some (.func (.func 165) #[.pointer (some ⟨g,0,none⟩)] #[])):=Lh fun w' hb=>(hb.cell hFl).trans G4
    have hb1:Below X.heap.size X X:=Le _ _;have cc1:=HC1.out _ hb1;clear G1 G2 G3 G4 hzX;have K0:Hid (∀ w',Below X.heap.size X w'->Calls prog 161 #[.pointer (some ⟨g,0,none⟩)] w' fun e w''=>e = .returned (.bool false)/\Below X.heap.size X w''):=Lh fun w' hb=>(Q0.out w' (HW.out w' hb)).mono fun e w'' ⟨_,a,_,c⟩=>⟨a,hb.trans (c.mono hb.size)⟩
    have K1:Hid (∀ w',Below X.heap.size X w'->Calls prog 162 #[.pointer (some ⟨g,0,none⟩)] w' fun e w''=>e = .returned (.bool false)/\Below X.heap.size X w''):=Lh fun w' hb=>(Q1.out w' (HW.out w' hb)).mono fun e w'' ⟨_,a,_,c⟩=>⟨a,hb.trans (c.mono hb.size)⟩
    have K2:Hid (∀ w',Below X.heap.size X w'->Calls prog 163 #[.pointer (some ⟨g,0,none⟩)] w' fun e w''=>e = .returned (.bool true)/\Below g w w''/\PaS w'' g nb q):=Lh fun w' hb=>(Q2.out w' (HW.out w' hb)).mono fun e w'' ⟨a,b,c⟩=>⟨b,((HW.out w' hb).mono (Lr hgl)).trans a,c⟩
    clear HF3 HF4 HFz;go_wp2;refine wp_loop_rounds 6 ?_;rw [rounds_succ]
    go_wp2_with (go_at_call 161;refine (K0.out _ hb1).mono ?_;rintro e w2 ⟨rfl,hb2⟩;have cc2:=HC1.out _ hb2;have F1:=HF1.out _ hb2)
    rw [rounds_succ]
    go_wp2_with (go_at_call 162;refine (K1.out _ hb2).mono ?_;rintro e w3 ⟨rfl,hb3⟩;have cc3:=HC1.out _ hb3;have F2:=HF2.out _ hb3)
    rw [rounds_succ]
    go_wp2_with (go_at_call 163;refine (K2.out _ hb3).mono ?_;rintro e wz ⟨rfl,hbz,hpz⟩)
    go_ret;exact ⟨hbz,rfl,hpz⟩
   | none =>
    rw [e2] at Q2
    cases e3:ko p with
    | some q =>
     have er:va p=some q:=by unfold va;rw [e0,e1,e2,e3];rfl
     rw [er];rw [e3] at Q3;clear er e0 e1 e2 e3 Q4
     go_enter func138,ntmps138
     go_upto_region 2 with fail
     refine qa (PaV w g) (PaV.new w g _) ?_;rintro X ⟨hbX,hzX,F0,G1,G2,G3,G4⟩;have hFl:w.heap.size<X.heap.size:=by omega
     have HW:Hid (∀ w',Below X.heap.size X w'->Below w.heap.size w w'):=Lh fun w' hb=>hbX.trans (hb.mono hbX.size)
     have HC1:Hid (∀ w',Below X.heap.size X w'->w'.cell? ⟨g,1,none⟩=some (.slice A1 p.words.length c1)):=Lh fun w' hb=>HCz.out w' (HW.out w' hb)
     have HFz:Hid (∀ w',Below X.heap.size X w'->w.heap.size<w'.heap.size):=Lh fun w' hb=>by have:=hb.size;omega
     have HF1:Hid (∀ w',Below X.heap.size X w'->w'.cell? ⟨w.heap.size,1,none⟩=some (.func (.func 162) #[.pointer (some ⟨g,0,none⟩)] #[])):=Lh fun w' hb=>(hb.cell hFl).trans G1
     have HF2:Hid (∀ w',Below X.heap.size X w'->w'.cell? ⟨w.heap.size,2,none⟩=some (.func (.func 163) #[.pointer (some ⟨g,0,none⟩)] #[])):=Lh fun w' hb=>(hb.cell hFl).trans G2
     have HF3:Hid (∀ w',Below X.heap.size X w'->w'.cell? ⟨w.heap.size,3,none⟩=some (.func (.func 164) #[.pointer (some ⟨g,0,none⟩)] #[])):=Lh fun w' hb=>(hb.cell hFl).trans G3
     have HF4:Hid (∀ w',Below X.heap.size X w'->w'.cell? ⟨w.heap.size,4,none⟩=some (.func (.func 165) #[.pointer (some ⟨g,0,none⟩)] #[])):=Lh fun w' hb=>(hb.cell hFl).trans G4
     have hb1:Below X.heap.size X X:=Le _ _;have cc1:=HC1.out _ hb1;clear G1 G2 G3 G4 hzX;have K0:Hid (∀ w',Below X.heap.size X w'->Calls prog 161 #[.pointer (some ⟨g,0,none⟩)] w' fun e w''=>e = .returned (.bool false)/\Below X.heap.size X w''):=Lh fun w' hb=>(Q0.out w' (HW.out w' hb)).mono fun e w'' ⟨_,a,_,c⟩=>⟨a,hb.trans (c.mono hb.size)⟩
     have K1:Hid (∀ w',Below X.heap.size X w'->Calls prog 162 #[.pointer (some ⟨g,0,none⟩)] w' fun e w''=>e = .returned (.bool false)/\Below X.heap.size X w''):=Lh fun w' hb=>(Q1.out w' (HW.out w' hb)).mono fun e w'' ⟨_,a,_,c⟩=>⟨a,hb.trans (c.mono hb.size)⟩
     have K2:Hid (∀ w',Below X.heap.size X w'->Calls prog 163 #[.pointer (some ⟨g,0,none⟩)] w' fun e w''=>e = .returned (.bool false)/\Below X.heap.size X w''):=Lh fun w' hb=>(Q2.out w' (HW.out w' hb)).mono fun e w'' ⟨_,a,_,c⟩=>⟨a,hb.trans (c.mono hb.size)⟩
     have K3:Hid (∀ w',Below X.heap.size X w'->Calls prog 164 #[.pointer (some ⟨g,0,none⟩)] w' fun e w''=>e = .returned (.bool true)/\Below g w w''/\PaS w'' g nb q):=Lh fun w' hb=>(Q3.out w' (HW.out w' hb)).mono fun e w'' ⟨a,b,c⟩=>⟨b,((HW.out w' hb).mono (Lr hgl)).trans a,c⟩
     clear HF4 HFz;go_wp2;refine wp_loop_rounds 6 ?_;rw [rounds_succ]
     go_wp2_with (go_at_call 161;refine (K0.out _ hb1).mono ?_;rintro e w2 ⟨rfl,hb2⟩;have cc2:=HC1.out _ hb2;have F1:=HF1.out _ hb2)
     rw [rounds_succ]
     go_wp2_with (go_at_call 162;refine (K1.out _ hb2).mono ?_;rintro e w3 ⟨rfl,hb3⟩;have cc3:=HC1.out _ hb3;have F2:=HF2.out _ hb3)
     rw [rounds_succ]
     go_wp2_with (go_at_call 163;refine (K2.out _ hb3).mono ?_;rintro e w4 ⟨rfl,hb4⟩;have cc4:=HC1.out _ hb4;have F3:=HF3.out _ hb4)
     rw [rounds_succ]
     go_wp2_with (go_at_call 164;refine (K3.out _ hb4).mono ?_;rintro e wz ⟨rfl,hbz,hpz⟩)
     go_ret;exact ⟨hbz,rfl,hpz⟩
    | none =>
     have er:va p=kD p:=by unfold va;rw [e0,e1,e2,e3];rfl
     rw [er];rw [e3] at Q3;clear er e0 e1 e2 e3
     cases e4:kD p with
     | some q =>
      rw [e4] at Q4;clear e4
      go_enter func138,ntmps138
      go_upto_region 2 with fail
      refine qa (PaV w g) (PaV.new w g _) ?_;rintro X ⟨hbX,hzX,F0,G1,G2,G3,G4⟩;have hFl:w.heap.size<X.heap.size:=by omega
      have HW:Hid (∀ w',Below X.heap.size X w'->Below w.heap.size w w'):=Lh fun w' hb=>hbX.trans (hb.mono hbX.size)
      have HC1:Hid (∀ w',Below X.heap.size X w'->w'.cell? ⟨g,1,none⟩=some (.slice A1 p.words.length c1)):=Lh fun w' hb=>HCz.out w' (HW.out w' hb)
      have HFz:Hid (∀ w',Below X.heap.size X w'->w.heap.size<w'.heap.size):=Lh fun w' hb=>by have:=hb.size;omega
      have HF1:Hid (∀ w',Below X.heap.size X w'->w'.cell? ⟨w.heap.size,1,none⟩=some (.func (.func 162) #[.pointer (some ⟨g,0,none⟩)] #[])):=Lh fun w' hb=>(hb.cell hFl).trans G1
      have HF2:Hid (∀ w',Below X.heap.size X w'->w'.cell? ⟨w.heap.size,2,none⟩=some (.func (.func 163) #[.pointer (some ⟨g,0,none⟩)] #[])):=Lh fun w' hb=>(hb.cell hFl).trans G2
      have HF3:Hid (∀ w',Below X.heap.size X w'->w'.cell? ⟨w.heap.size,3,none⟩=some (.func (.func 164) #[.pointer (some ⟨g,0,none⟩)] #[])):=Lh fun w' hb=>(hb.cell hFl).trans G3
      have HF4:Hid (∀ w',Below X.heap.size X w'->w'.cell? ⟨w.heap.size,4,none⟩=some (.func (.func 165) #[.pointer (some ⟨g,0,none⟩)] #[])):=Lh fun w' hb=>(hb.cell hFl).trans G4
      have hb1:Below X.heap.size X X:=Le _ _;have cc1:=HC1.out _ hb1;clear G1 G2 G3 G4 hzX;have K0:Hid (∀ w',Below X.heap.size X w'->Calls prog 161 #[.pointer (some ⟨g,0,none⟩)] w' fun e w''=>e = .returned (.bool false)/\Below X.heap.size X w''):=Lh fun w' hb=>(Q0.out w' (HW.out w' hb)).mono fun e w'' ⟨_,a,_,c⟩=>⟨a,hb.trans (c.mono hb.size)⟩
      have K1:Hid (∀ w',Below X.heap.size X w'->Calls prog 162 #[.pointer (some ⟨g,0,none⟩)] w' fun e w''=>e = .returned (.bool false)/\Below X.heap.size X w''):=Lh fun w' hb=>(Q1.out w' (HW.out w' hb)).mono fun e w'' ⟨_,a,_,c⟩=>⟨a,hb.trans (c.mono hb.size)⟩
      have K2:Hid (∀ w',Below X.heap.size X w'->Calls prog 163 #[.pointer (some ⟨g,0,none⟩)] w' fun e w''=>e = .returned (.bool false)/\Below X.heap.size X w''):=Lh fun w' hb=>(Q2.out w' (HW.out w' hb)).mono fun e w'' ⟨_,a,_,c⟩=>⟨a,hb.trans (c.mono hb.size)⟩
      have K3:Hid (∀ w',Below X.heap.size X w'->w.heap.size<w'.heap.size->Calls prog 164 #[.pointer (some ⟨g,0,none⟩)] w' fun e w''=>e = .returned (.bool false)/\Below g w w''/\∃ q:Prs,q.words=p.words/\PaS w'' g nb q/\(charW p.words=none->q=p) /\
        (∀ i:Nat,w''.cell? ⟨w.heap.size,i,none⟩=w'.cell? ⟨w.heap.size,i,none⟩)/\∃ A c,w''.cell? ⟨g,1,none⟩=some (.slice A p.words.length c)):=Lh fun w' hb hF =>
       (Q3.out w' (HW.out w' hb)).mono fun e w'' ⟨a,b,q,hq,hs,hc,hap⟩=>⟨b,((HW.out w' hb).mono (Lr hgl)).trans a,q,hq,hs,hc,
        fun i=>hap w.heap.size i L0 hF (fun b o s n c hcell=>Nat.ne_of_lt (HO.out b o s n c (((HW.out w' hb).cell (show g<_ from hgl)).symm.trans hcell))),by rw [<- hq];exact hs.words1⟩
      have K4:Hid (∀ (q':Prs) (w':World),q'.words=p.words->PaS w' g nb q'->(charW p.words=none->q'=p)->Below g w w'->Calls prog 165 #[.pointer (some ⟨g,0,none⟩)] w' fun e w''=>e = .returned (.bool true)/\Below g w w''/\PaS w'' g nb q):=Lh fun q' w' hq hs hc hw =>
       (Q4.out q' w' hq hs hc hw).mono fun e w'' ⟨a,b,c⟩=>⟨b,hw.trans a,c⟩
      go_wp2;refine wp_loop_rounds 6 ?_;rw [rounds_succ]
      go_wp2_with (go_at_call 161;refine (K0.out _ hb1).mono ?_;rintro e w2 ⟨rfl,hb2⟩;have cc2:=HC1.out _ hb2;have F1:=HF1.out _ hb2)
      rw [rounds_succ]
      go_wp2_with (go_at_call 162;refine (K1.out _ hb2).mono ?_;rintro e w3 ⟨rfl,hb3⟩;have cc3:=HC1.out _ hb3;have F2:=HF2.out _ hb3)
      rw [rounds_succ]
      go_wp2_with (go_at_call 163;refine (K2.out _ hb3).mono ?_;rintro e w4 ⟨rfl,hb4⟩;have cc4:=HC1.out _ hb4;have F3:=HF3.out _ hb4)
      rw [rounds_succ]
      go_wp2_with (go_at_call 164;refine (K3.out _ hb4 (HFz.out _ hb4)).mono ?_;rintro e w5 ⟨rfl,hb5,q5,hq5,hp5,hc5,hk5,A5,c5,cc5⟩;have F4:=(hk5 4).trans (HF4.out _ hb4);replace hk5:=Lh hk5;replace hc5:=Lh hc5;replace hq5:=Lh hq5)
      rw [rounds_succ]
      go_wp2_with (go_at_call 165;refine (K4.out q5 _ hq5.out hp5 hc5.out hb5).mono ?_;rintro e wz ⟨rfl,hbz,hpz⟩)
      go_ret;exact ⟨hbz,rfl,hpz⟩
     | none =>
      rw [e4] at Q4;clear e4
      go_enter func138,ntmps138
      go_upto_region 2 with fail
      refine qa (PaV w g) (PaV.new w g _) ?_;rintro X ⟨hbX,hzX,F0,G1,G2,G3,G4⟩;have hFl:w.heap.size<X.heap.size:=by omega
      have HW:Hid (∀ w',Below X.heap.size X w'->Below w.heap.size w w'):=Lh fun w' hb=>hbX.trans (hb.mono hbX.size)
      have HC1:Hid (∀ w',Below X.heap.size X w'->w'.cell? ⟨g,1,none⟩=some (.slice A1 p.words.length c1)):=Lh fun w' hb=>HCz.out w' (HW.out w' hb)
      have HFz:Hid (∀ w',Below X.heap.size X w'->w.heap.size<w'.heap.size):=Lh fun w' hb=>by have:=hb.size;omega
      have HF1:Hid (∀ w',Below X.heap.size X w'->w'.cell? ⟨w.heap.size,1,none⟩=some (.func (.func 162) #[.pointer (some ⟨g,0,none⟩)] #[])):=Lh fun w' hb=>(hb.cell hFl).trans G1
      have HF2:Hid (∀ w',Below X.heap.size X w'->w'.cell? ⟨w.heap.size,2,none⟩=some (.func (.func 163) #[.pointer (some ⟨g,0,none⟩)] #[])):=Lh fun w' hb=>(hb.cell hFl).trans G2
      have HF3:Hid (∀ w',Below X.heap.size X w'->w'.cell? ⟨w.heap.size,3,none⟩=some (.func (.func 164) #[.pointer (some ⟨g,0,none⟩)] #[])):=Lh fun w' hb=>(hb.cell hFl).trans G3
      have HF4:Hid (∀ w',Below X.heap.size X w'->w'.cell? ⟨w.heap.size,4,none⟩=some (.func (.func 165) #[.pointer (some ⟨g,0,none⟩)] #[])):=Lh fun w' hb=>(hb.cell hFl).trans G4
      have hb1:Below X.heap.size X X:=Le _ _;have cc1:=HC1.out _ hb1;clear G1 G2 G3 G4 hzX;have K0:Hid (∀ w',Below X.heap.size X w'->Calls prog 161 #[.pointer (some ⟨g,0,none⟩)] w' fun e w''=>e = .returned (.bool false)/\Below X.heap.size X w''):=Lh fun w' hb=>(Q0.out w' (HW.out w' hb)).mono fun e w'' ⟨_,a,_,c⟩=>⟨a,hb.trans (c.mono hb.size)⟩
      have K1:Hid (∀ w',Below X.heap.size X w'->Calls prog 162 #[.pointer (some ⟨g,0,none⟩)] w' fun e w''=>e = .returned (.bool false)/\Below X.heap.size X w''):=Lh fun w' hb=>(Q1.out w' (HW.out w' hb)).mono fun e w'' ⟨_,a,_,c⟩=>⟨a,hb.trans (c.mono hb.size)⟩
      have K2:Hid (∀ w',Below X.heap.size X w'->Calls prog 163 #[.pointer (some ⟨g,0,none⟩)] w' fun e w''=>e = .returned (.bool false)/\Below X.heap.size X w''):=Lh fun w' hb=>(Q2.out w' (HW.out w' hb)).mono fun e w'' ⟨_,a,_,c⟩=>⟨a,hb.trans (c.mono hb.size)⟩
      have K3:Hid (∀ w',Below X.heap.size X w'->w.heap.size<w'.heap.size->Calls prog 164 #[.pointer (some ⟨g,0,none⟩)] w' fun e w''=>e = .returned (.bool false)/\Below g w w''/\∃ q:Prs,q.words=p.words/\PaS w'' g nb q/\(charW p.words=none->q=p) /\
        (∀ i:Nat,w''.cell? ⟨w.heap.size,i,none⟩=w'.cell? ⟨w.heap.size,i,none⟩)/\∃ A c,w''.cell? ⟨g,1,none⟩=some (.slice A p.words.length c)):=Lh fun w' hb hF =>
       (Q3.out w' (HW.out w' hb)).mono fun e w'' ⟨a,b,q,hq,hs,hc,hap⟩=>⟨b,((HW.out w' hb).mono (Lr hgl)).trans a,q,hq,hs,hc,
        fun i=>hap w.heap.size i L0 hF (fun b o s n c hcell=>Nat.ne_of_lt (HO.out b o s n c (((HW.out w' hb).cell (show g<_ from hgl)).symm.trans hcell))),by rw [<- hq];exact hs.words1⟩
      have K4:Hid (∀ (q':Prs) (w':World),q'.words=p.words->PaS w' g nb q'->(charW p.words=none->q'=p)->Below g w w'->Calls prog 165 #[.pointer (some ⟨g,0,none⟩)] w' fun e w''=>e = .returned (.bool false)/\Below g w w''/\∃ A c,w''.cell? ⟨g,1,none⟩=some (.slice A p.words.length c)):=Lh fun q' w' hq hs hc hw =>
       (Q4.out q' w' hq hs hc hw).mono fun e w'' ⟨a,b,q2,hq2,hs2⟩=>⟨b,hw.trans a,by rw [<- hq2];exact hs2.words1⟩
      go_wp2;refine wp_loop_rounds 6 ?_;rw [rounds_succ]
      go_wp2_with (go_at_call 161;refine (K0.out _ hb1).mono ?_;rintro e w2 ⟨rfl,hb2⟩;have cc2:=HC1.out _ hb2;have F1:=HF1.out _ hb2)
      rw [rounds_succ]
      go_wp2_with (go_at_call 162;refine (K1.out _ hb2).mono ?_;rintro e w3 ⟨rfl,hb3⟩;have cc3:=HC1.out _ hb3;have F2:=HF2.out _ hb3)
      rw [rounds_succ]
      go_wp2_with (go_at_call 163;refine (K2.out _ hb3).mono ?_;rintro e w4 ⟨rfl,hb4⟩;have cc4:=HC1.out _ hb4;have F3:=HF3.out _ hb4)
      rw [rounds_succ]
      go_wp2_with (go_at_call 164;refine (K3.out _ hb4 (HFz.out _ hb4)).mono ?_;rintro e w5 ⟨rfl,hb5,q5,hq5,hp5,hc5,hk5,A5,c5,cc5⟩;have F4:=(hk5 4).trans (HF4.out _ hb4);replace hk5:=Lh hk5;replace hc5:=Lh hc5;replace hq5:=Lh hq5)
      rw [rounds_succ]
      go_wp2_with (go_at_call 165;refine (K4.out q5 _ hq5.out hp5 hc5.out hb5).mono ?_;rintro e w6 ⟨rfl,hb6,A6,c6,cc6⟩)
      rw [rounds_succ];go_wp2;go_ret;exact ⟨hb6,rfl⟩
def GlR (o:Option (List Gl)) (w:World) (e:Ending) (w':World):Prop :=
 Below w.heap.size w w'/\match o with
 | none=>e = .returned (.tuple #[.slice none 0 0,.int .i64 17])
 | some G=>∃ A c,e = .returned (.tuple #[.slice A G.length c,.int .i64 0])/\w'.ownsRow w.heap.size 64 3 (.slice A G.length c) G.length (qi G)
def leftN (w:World) (g:Nat):Nat:=match w.cell? ⟨g,1,none⟩ with
 | some (.slice _ n _)=>n
 | _=>0
theorem PaS.left {w:World} {g nb:Nat} {q:Prs} (h:PaS w g nb q):leftN w g=q.words.length:=by
 obtain ⟨A,c,hc⟩:=h.words1;unfold leftN;rw [hc]
theorem PaS.out2 {w:World} {g nb:Nat} {q:Prs} (h:PaS w g nb q) : ∃ A c,w.cell? ⟨g,2,none⟩=some (.slice A q.out.length c)/\w.ownsRow (g+1) 64 3 (.slice A q.out.length c) q.out.length (qi q.out):=by
 obtain ⟨A,n,c,A2,c2,h1,h2,h3,h4,h5⟩:=h;have C2:=h3.cell 2;simp only [jh,La,Lb,Lc] at C2;exact ⟨A2,c2,C2,h5⟩
def GlI (w w1:World) (nb:Nat) (R:Option (List Gl)) (wr:World):Prop :=
 ∃ q f,q.words.length<=f/\ka f q=R/\PaS wr w1.heap.size nb q/\PaK2 q/\Below w1.heap.size w1 wr/\Below w.heap.size w wr
theorem glyphs_ (l:List ByteArray) (A:Option Addr) (n c:Nat) (w:World) (hn:l.length=n) (hc:n<=c) (hm:c<=maxLen) (rd:Rd w w.heap.size 1 A n (sv l)) (hsz : ∀ s∈l,s.size<=1000) (hl:l.length<=850000) (hs:Sp w) (hu:U8 w) (hy:Sty w) :
  Calls prog 119 #[.slice A n c] w (GlR (kC l) w):=by
 obtain ⟨R,hR⟩ : ∃ R,R=kC l:=⟨_,rfl⟩
 rw [<- hR];have HR:=Lh (qkq w hs);have HI:Hid (∀ (w1:World) (b1:Nat),SetM w1 b1 200 jF->Below w.heap.size w w1->GlI w w1 b1 R (w1.alloc (.cells (jh b1 (.slice A n c) (.slice none 0 0) 0 false) 185))/\PaE w1 w1.heap.size b1/\Sty w1):=Lh fun w1 b1 hset hb =>
  ⟨⟨⟨l,[],0,false⟩,l.length,Ld _,hR.symm,
   ⟨A,n,c,none,0,hc,hm,Blk.new w1 _ _,((rd.below hb).more hb.size).below (Below.alloc (Le w1.heap.size w1) (Ld _) _),zY _ _ _ _⟩,
   ⟨⟨hsz,by show 0+1100 * l.length<=_;omega,fun x hx=>by cases hx⟩,hl⟩,(Le w1.heap.size w1).alloc (Ld _) _,hb.alloc hb.size _⟩,
   ⟨hs.below hb (Ld _),hu.below hb,hset,rfl⟩,hy.below hb (Ld _)⟩
 clear rd hsz hl hs hu hy hR hn hc hm
 go_enter func119,ntmps119
 go_wp2_with (go_at_call 137;refine HR.out.mono ?_;rintro e w1 ⟨b1,rfl,hset1,hb1,hbel1⟩)
 obtain ⟨hI,hE,hSt⟩:=HI.out w1 b1 hset1 hbel1;have hE':=Lh hE;have hSt':=Lh hSt;have hsz1:w.heap.size<=w1.heap.size:=hbel1.size;clear hset1 hE hSt HI HR hb1 hbel1
 go_loopw [17] (fun x wr=>GlI w w1 b1 R wr) (fun x wr=>leftN wr w1.heap.size)
 case atStart=>exact hI
 case round =>
  clear hI;obtain ⟨q,f,hf,hq,hp,hk,hb1,hb⟩:=hrel;have hleft:=Lh hp.left;obtain ⟨A1,c1,C1⟩:=hp.words1
  by_cases h0:q.words=[]
  ·have e0:R=some q.out:=by rw [<- hq];cases f <;> simp [ka,h0]
   have hl0:q.words.length=0:=by rw [h0];rfl
   rw [hl0] at C1;obtain ⟨A2,c2,C2,ho⟩:=hp.out2;replace e0:=Lh e0;clear hq hk hl0 h0;go_wp2;go_ret2;rw [e0.out];exact ⟨hb,A2,c2,rfl,qt ho L0⟩
  ·have hpos:0<q.words.length:=List.length_pos_iff.2 h0;obtain ⟨f',rfl⟩ : ∃ f',f=f'+1:=⟨f-1,by omega⟩
   have hgt:decide ((0:Int)<q.words.length)=true:=Ll L0;have HP:=Lh (part_ w1 q w1.heap.size b1 _ hE'.out hSt'.out hb1 hp hk.1);rw [ka,if_neg h0] at hq
   cases hpt:va q with
   | none =>
    rw [hpt] at hq HP;have e0:=Lh hq.symm;clear hq hk hp hpos hgt hpt;have hb1':=Lh hb1;have hb':=Lh hb;clear hb hb1;have hpos:(0:Int)<q.words.length:=by have:=List.length_pos_iff.2 h0;omega
    go_wp2_with (go_at_call 138;refine HP.out.mono ?_;rintro e w5 ⟨hb5,rfl⟩)
    go_ret2;rw [e0.out];exact ⟨hb'.out.trans (hb5.mono hsz1),rfl⟩
   | some q' =>
    rw [hpt] at hq HP;have hless:=qcs hpt;have hk':=hk.part hpt;have hqq:=Lh hq;have hb1':=Lh hb1;have hb':=Lh hb;have hk2:=Lh hk';clear hq hk hp hpos hgt hpt hk' hb hb1;have hpos:(0:Int)<q.words.length:=by have:=List.length_pos_iff.2 h0;omega
    go_wp2_with (go_at_call 138;refine HP.out.mono ?_;rintro e w5 ⟨hb5,rfl,hp5⟩)
    exact ⟨⟨q',f',by omega,hqq.out,hp5,hk2.out,hb1'.out.trans hb5,hb'.out.trans (hb5.mono hsz1)⟩,by rw [hp5.left,hleft.out];exact hless⟩
theorem qms {l:List ByteArray} {k:Nat} (hk:k<l.length) (h:l[k]=vD):zx false (l.drop k)=(zx false (l.drop (k+2))).map (· + 2):=by
 rw [Ls hk]
 show (if l[k]=vD then (zx true (l.drop (k+1))).map (· + 1) else _)=_
 rw [if_pos h]
 by_cases h2:k+1<l.length
 ·rw [Ls h2]
  show Option.map (· + 1) (Option.map (· + 1) (zx false (l.drop (k+1+1))))=_
  rw [Option.map_map]
  rfl
 ·rw [Lv L0,Lv L0]
  rfl
theorem qmo {l:List ByteArray} {k:Nat} (hk:k<l.length) (h:l[k]=vF):zx false (l.drop k)=some 0:=by
 rw [Ls hk]
 show (if l[k]=vD then _ else if l[k]=vF then some 0 else _)=_
 rw [if_neg (by rw [h];decide),if_pos h]
theorem qml {l:List ByteArray} {k:Nat} (hk:k<l.length) (h:l[k]≠vD) (h2:l[k]≠vF):zx false (l.drop k)=(zx false (l.drop (k+1))).map (· + 1):=by
 rw [Ls hk]
 show (if l[k]=vD then _ else if l[k]=vF then some 0 else (zx false (l.drop (k+1))).map (· + 1))=_
 rw [if_neg h,if_neg h2]
theorem qmm {a:ByteArray} (h:a=vD):(a.toList==[119,111,114,100])=true:=(qct (b:=vD) rfl).trans (Ll h)
theorem qit {a:ByteArray} (h:a≠vD):(a.toList==[119,111,114,100])=false:=(qct (b:=vD) rfl).trans (Lk h)
theorem qmr {a:ByteArray} (h:a=vF):(a.toList==[115,116,111,112])=true:=(qct (b:=vF) rfl).trans (Ll h)
theorem qmj {a:ByteArray} (h:a≠vF):(a.toList==[115,116,111,112])=false:=(qct (b:=vF) rfl).trans (Lk h)
def qaF (l:List ByteArray) (o:Option Nat):Option (List Gl × List ByteArray):=o.bind fun i=>match kC (l.take i) with
 | some (g::gs)=>some (g::gs,l.drop (i+1))
 | _=>none
theorem qka (l:List ByteArray):qae l=qaF l (zx false l):=rfl
def TRet (w:World) (B:Nat) (r:Option (List Gl × List ByteArray)) (e:Ending) (w':World):Prop:=∃ A G c v,e = .returned (.tuple #[.slice A (List.length G) c,v])/\w'.ownsRow w.heap.size 64 3 (.slice A G.length c) G.length (qi G)/\RV w' B (r.map (·.2)) v/\Below w.heap.size w w'/\(r.map (·.1)).getD []=G
theorem utext_ (r:Option (List ByteArray)) (v:Value) (B:Nat) (w:World) (h:RV w B r v) (hB:B<=w.heap.size) (hl : ∀ l,r=some l->l.length<=850000) (hs:Sp w) (hu:U8 w) (hy:Sty w) :
  Calls prog 95 #[v] w (TRet w B (r.bind qae)):=by
 obtain ⟨A,n,c,l,bad,rfl,hW,rfl⟩:=h;obtain ⟨R,hR⟩ : ∃ x,x=(y7 bad l).bind qae:=⟨_,rfl⟩
 rw [<- hR];have hX:RX w B bad l ((w.alloc (.cells #[.slice A n c,.bool bad] 72)).alloc (.cells #[.slice none 0 0,.bool false] 72)) :=
  ⟨A,n,c,hW,Blk.alloc (Blk.new w _ _) _,Blk.new_ L1,(L5).alloc L1 _⟩
 clear hW
 cases bad with
 | true =>
  have HE:Hid (R=none):=Lh hR;clear hR hl hs hu hy
  go_enter func95,ntmps95
  go_upto_region 1 with fail
  refine qa (RX w B true l) hX ?_;clear hX;intro X hX;go_wp2
  go_loopw [4] (fun x wr=>x = .int .i64 0/\wr=X) (fun x _=>0)
  case atStart=>exact ⟨rfl,rfl⟩
  case round =>
   obtain ⟨rfl,rfl⟩:=hrel;obtain ⟨A',n',c',hW,B1,B2,tx⟩:=id hX;have z1:=B2.lt;have z0:=B1.lt;have c0:=B1.cell 0;have c1:=B1.cell 1;have d0:=B2.cell 0;have d1:=B2.cell 1;have f0:=B1.frozen 0;have f1:=B1.frozen 1;have g0:=B2.frozen 0;have g1:=B2.frozen 1;simp only [La,Lb,Lc] at c0 c1 d0 d1;have C2:=B2
   by_cases hn:n'=0
   ·subst hn;go_wp2;have Rr:=vd (a':=.slice none 0 0) (b':=.bool true) C2;have tz:=(tx.setCell (p:=⟨w.heap.size+1,0,none⟩) L7 (.slice none 0 0)).setCell (p:=⟨w.heap.size+1,1,none⟩) L7 (.bool true);exact bodyPost_ret (zn rfl _ _ (w.heap.size+1) 72 _ (0,0) _ rfl Rr underlying72 rfl zG) rfl ⟨none,[],0,_,rfl,zY _ _ _ _,by rw [HE.out];exact RV.bad _ B,tz,by rw [HE.out];rfl⟩
   ·have hn0:(0:Int)<n':=by omega
    clear hn;go_wp2;have Rr:=vd (a':=.slice none 0 0) (b':=.bool true) C2;have tz:=(tx.setCell (p:=⟨w.heap.size+1,0,none⟩) L7 (.slice none 0 0)).setCell (p:=⟨w.heap.size+1,1,none⟩) L7 (.bool true);exact bodyPost_ret (zn rfl _ _ (w.heap.size+1) 72 _ (0,0) _ rfl Rr underlying72 rfl zG) rfl ⟨none,[],0,_,rfl,zY _ _ _ _,by rw [HE.out];exact RV.bad _ B,tz,by rw [HE.out];rfl⟩
 | false =>
  have hl':=hl l rfl;have HS:Hid (Sp w/\U8 w/\Sty w):=Lh ⟨hs,hu,hy⟩;have H0:Hid (R=qaF l ((zx false (l.drop 0)).map (· + 0))):=Lh (by rw [hR];show qae l=_;rw [qka];simp);clear hR hl hs hu hy
  go_enter func95,ntmps95
  go_upto_region 1 with fail
  refine qa (RX w B false l) hX ?_;clear hX;intro X hX;go_wp2
  go_loopw [4] (fun x wr=>∃ (k:Nat),k<=l.length+1/\x = .int .i64 k/\RX w B false l wr/\Hid (R=qaF l ((zx false (l.drop k)).map (· + k)))) (fun x _=>l.length+1-(intOf x).toNat)
  case atStart=>exact ⟨0,by omega,rfl,hX,H0⟩
  case round =>
   clear hX H0;obtain ⟨k,hk,rfl,hX,HK⟩:=hrel;obtain ⟨A',n',c',hW,B1,B2,tx⟩:=id hX;have z1:=B2.lt;have z0:=B1.lt;have c0:=B1.cell 0;have c1:=B1.cell 1;have d0:=B2.cell 0;have d1:=B2.cell 1;have f0:=B1.frozen 0;have f1:=B1.frozen 1;have g0:=B2.frozen 0;have g1:=B2.frozen 1;simp only [La,Lb,Lc] at c0 c1 d0 d1;have hln:=hW.len
   by_cases hlt:k<n'
   ·have hkl:k<l.length:=by omega
    have hki:(k:Int)<n':=by omega
    obtain ⟨bw,ow,rfl,hbw,hcw⟩:=hW.rd.at_ hlt;rw [yM _ _ hkl] at hcw;replace hcw:=(tx.cell (p:=⟨bw,ow+k,none⟩) L7).trans hcw
    by_cases hwd:l[k]=vD
    ·have HK2:Hid (R=qaF l ((zx false (l.drop (k+2))).map (· + (k+2)))):=Lh (by rw [HK.out,qms hkl hwd,Option.map_map];congr 2;funext i;show i+2+k=i+(k+2);omega);have q1:(l[k].toList==[119,111,114,100])=true:=qmm hwd;generalize l[k]=s at *
     clear HK hwd hW;go_wp2;exact ⟨⟨k+2,by omega,by go_num,hX,HK2⟩,by simp [intOf];omega⟩
    ·by_cases hst:l[k]=vF
     ·have HK2:Hid (R=qaF l (some k)):=Lh (by rw [HK.out,qmo hkl hst];simp);have q1:(l[k].toList==[119,111,114,100])=false:=qit hwd;have q2:(l[k].toList==[115,116,111,112])=true:=qmr hst;generalize l[k]=s at *
      have hcap:=hW.cap;have hmax:=hW.max;have hcut:=hW.cut (k:=k+1) L0;have htk:Rd wr wr.heap.size 1 (some ⟨bw,ow,none⟩) k (sv (l.take k)):=by
       have:=((hW.rd.below (tx.mono hB)).more (Lj hB tx.size)).take (k:=k) L0
       rwa [show (sv l).take (k * 1)=sv (l.take k) by simp [sv]] at this
      have HG:=Lh (glyphs_ (l.take k) (some ⟨bw,ow,none⟩) k c' wr (by rw [Lu];omega) L0 hmax htk (fun s hs=>hW.sz s (List.mem_of_mem_take hs)) (by rw [Lu];omega) (HS.out.1.below tx (Ld _)) (HS.out.2.1.below tx) (HS.out.2.2.below tx (Ld _)));have i1:(k:Int)<=c':=by omega
      have i2:(k:Int)+1<=n':=by omega
      have i3:(k:Int)+1<=c':=by omega
      have i4:(c':Int)<=9223372036854775807:=by unfold maxLen at hmax;omega
      have i0:(0:Int)<=k:=by omega
      have HW:=Lh hW;clear HK hst hwd htk hmax hW;have HC:=hcut
      cases hg:kC (l.take k) with
      | none =>
       have HE:Hid (R=none):=Lh (by rw [HK2.out];simp [qaF,hg]);rw [hg] at HG;clear HK2 hg hcut HC
       go_wp2_with (go_at_call 119;refine HG.out.mono ?_;rintro e w1 ⟨hb1,rfl⟩;clear c0 c1 d0 d1 f0 f1 g0 g1;have C2:=B2.below hb1 B2.lt;have d0:=C2.cell 0;have d1:=C2.cell 1;have g0:=C2.frozen 0;have g1:=C2.frozen 1;simp only [La,Lb,Lc] at d0 d1)
       have Rr:=vd (a':=.slice none 0 0) (b':=.bool true) C2;have tz:=((tx.trans (hb1.mono L0)).setCell (p:=⟨w.heap.size+1,0,none⟩) L7 (.slice none 0 0)).setCell (p:=⟨w.heap.size+1,1,none⟩) L7 (.bool true);exact bodyPost_ret (zn rfl _ _ (w.heap.size+1) 72 _ (0,0) _ rfl Rr underlying72 rfl zG) rfl ⟨none,[],0,_,rfl,zY _ _ _ _,by rw [HE.out];exact RV.bad _ B,tz,by rw [HE.out];rfl⟩
      | some G =>
       rw [hg] at HG
       cases G with
       | nil =>
        have HE:Hid (R=none):=Lh (by rw [HK2.out];simp [qaF,hg]);clear HK2 hg hcut HC
        go_wp2_with (go_at_call 119;refine HG.out.mono ?_;rintro e w1 ⟨hb1,A1,c1',rfl,-⟩;clear c0 c1 d0 d1 f0 f1 g0 g1;have C2:=B2.below hb1 B2.lt;have d0:=C2.cell 0;have d1:=C2.cell 1;have g0:=C2.frozen 0;have g1:=C2.frozen 1;simp only [La,Lb,Lc] at d0 d1)
        have Rr:=vd (a':=.slice none 0 0) (b':=.bool true) C2;have tz:=((tx.trans (hb1.mono L0)).setCell (p:=⟨w.heap.size+1,0,none⟩) L7 (.slice none 0 0)).setCell (p:=⟨w.heap.size+1,1,none⟩) L7 (.bool true);exact bodyPost_ret (zn rfl _ _ (w.heap.size+1) 72 _ (0,0) _ rfl Rr underlying72 rfl zG) rfl ⟨none,[],0,_,rfl,zY _ _ _ _,by rw [HE.out];exact RV.bad _ B,tz,by rw [HE.out];rfl⟩
       | cons g0' gs =>
        have HE:Hid (R=some (g0'::gs,l.drop (k+1))):=Lh (by rw [HK2.out];simp [qaF,hg]);have hgl : ¬ ((g0'::gs).length:Int)=0:=by simp;omega
        have hgl2:(((g0'::gs).length:Int)==0)=false:=Lm.2 hgl;clear HK2 hg hcut;generalize hGG:g0'::gs=GG at *
        clear hGG hgl
        go_upto_region 11 with (go_at_call 119;refine HG.out.mono ?_;rintro e w1 ⟨hb1,A1,c1',rfl,hown1⟩;clear c0 c1 d0 d1 f0 f1 g0 g1;have C1:=B1.below hb1 B1.lt;have C2:=B2.below hb1 B2.lt;have c0:=C1.cell 0;have d0:=C2.cell 0;have d1:=C2.cell 1;have g0:=C2.frozen 0;have g1:=C2.frozen 1;simp only [La,Lb,Lc] at c0 d0 d1)
        have tx1:=tx.trans (hb1.mono L0);have hwr:IntKind.i64.wrap ((k:Int)+1)=(k:Int)+1:=by rw [Lx];omega
        have i5:(0:Int)<=(k:Int)+1:=by omega
        simp only [Nat.mul_one] at HC
        by_cases hck:c'=k+1
        ·rw [if_pos hck] at HC;subst hck;have hz2:n'=k+1:=by omega
         subst hz2;rw [Nat.sub_self] at HC;have Rr:=vd (a':=.slice (some ⟨bw,ow,none⟩) 0 0) (b':=.bool false) C2;have tz:=(tx1.setCell (p:=⟨w.heap.size+1,0,none⟩) L7 (.slice (some ⟨bw,ow,none⟩) 0 0)).setCell (p:=⟨w.heap.size+1,1,none⟩) L7 (.bool false);have Rd:=Rr.drew;have td:=tz.drew
         go_region_law (fail)
         all_goals go_wp2
         all_goals exact bodyPost_ret (zn rfl _ _ (w.heap.size+1) 72 _ (0,0) _ rfl Rd underlying72 rfl zG) rfl ⟨A1,GG,c1',_,rfl,qt (base:=wr.heap.size) (qb (zZ (zZ hown1 L7 _) L7 _) (Le _ _).drew) L0,by rw [HE.out];exact ⟨_,_,_,_,false,rfl,HC.below (td.mono hB),rfl⟩,td,by rw [HE.out];rfl⟩
        ·rw [if_neg hck] at HC;have Rr:=vd (a':=.slice (some ⟨bw,ow+(k+1),none⟩) (n'-(k+1)) (c'-(k+1))) (b':=.bool false) C2;have tz:=(tx1.setCell (p:=⟨w.heap.size+1,0,none⟩) L7 (.slice (some ⟨bw,ow+(k+1),none⟩) (n'-(k+1)) (c'-(k+1)))).setCell (p:=⟨w.heap.size+1,1,none⟩) L7 (.bool false);have Rd:=Rr.drew;have td:=tz.drew
         go_region_law (fail)
         all_goals go_wp2
         all_goals exact bodyPost_ret (zn rfl _ _ (w.heap.size+1) 72 _ (0,0) _ rfl Rd underlying72 rfl zG) rfl ⟨A1,GG,c1',_,rfl,qt (base:=wr.heap.size) (qb (zZ (zZ hown1 L7 _) L7 _) (Le _ _).drew) L0,by rw [HE.out];exact ⟨_,_,_,_,false,rfl,HC.below (td.mono hB),rfl⟩,td,by rw [HE.out];rfl⟩
     ·have HK2:Hid (R=qaF l ((zx false (l.drop (k+1))).map (· + (k+1)))):=Lh (by rw [HK.out,qml hkl hwd hst,Option.map_map];congr 2;funext i;show i+1+k=i+(k+1);omega);have q1:(l[k].toList==[119,111,114,100])=false:=qit hwd;have q2:(l[k].toList==[115,116,111,112])=false:=qmj hst;generalize l[k]=s at *
      clear HK hwd hst hW;go_wp2;exact ⟨⟨k+1,by omega,by go_num,hX,HK2⟩,by simp [intOf];omega⟩
   ·have HE:Hid (R=none):=Lh (by rw [HK.out,Lv L0];rfl);have hki : ¬ (k:Int)<n':=by omega
    have C2:=B2;clear HK;go_wp2;have Rr:=vd (a':=.slice none 0 0) (b':=.bool true) C2;have tz:=(tx.setCell (p:=⟨w.heap.size+1,0,none⟩) L7 (.slice none 0 0)).setCell (p:=⟨w.heap.size+1,1,none⟩) L7 (.bool true);exact bodyPost_ret (zn rfl _ _ (w.heap.size+1) 72 _ (0,0) _ rfl Rr underlying72 rfl zG) rfl ⟨none,[],0,_,rfl,zY _ _ _ _,by rw [HE.out];exact RV.bad _ B,tz,by rw [HE.out];rfl⟩
end Go.Proofs.YtbogmeeijdaijaaGreatDoor
