/- Joined: PaD, PaF, Ur3, Ur4, Lvg. -/
import Derived.Test.YticbpkghcglgkaaGreatDoorVEE
set_option linter.unusedVariables false
set_option linter.unusedSimpArgs false
set_option linter.unnecessarySimpa false
set_option maxHeartbeats 4000000
namespace Go.Proofs.YticbpkghcglgkaaGreatDoor
open Go.Proofs.Tryz Go.RowKit
set_option maxRecDepth 20000
theorem PaS.words1 {w:World} {g nb:Nat} {q:Prs} (h:PaS w g nb q) : ∃ A c,w.cell? ⟨g,1,none⟩=some (.slice A q.words.length c):=by
 obtain ⟨A,n,c,A2,c2,h1,h2,h3,h4,h5⟩:=h
 have hn:q.words.length=n:=by have:=h4.1;simp [sv] at this;omega
 have C1:=h3.cell 1
 simp only [jh,La,Lb,Lc] at C1
 exact ⟨A,c,by rw [hn];exact C1⟩
theorem PaS.out_lt {w:World} {g nb:Nat} {q:Prs} (h:PaS w g nb q) : ∀ b o s n c,w.cell? ⟨g,2,none⟩=some (.slice (some ⟨b,o,s⟩) n c)->b<w.heap.size:=by
 obtain ⟨A,n,c,A2,c2,h1,h2,h3,h4,h5⟩:=h
 have C2:=h3.cell 2
 simp only [jh,La,Lb,Lc] at C2
 intro b o s n' c' hc
 rw [C2] at hc
 simp only [Option.some.injEq,Value.slice.injEq] at hc
 obtain ⟨rfl,rfl,rfl⟩:=hc
 rcases h5.2 with ⟨h0,_⟩ | ⟨G,cap,cur,hv,h1,h2,_⟩
 ·cases h0
 ·simp only [Value.slice.injEq,Option.some.injEq,Addr.mk.injEq] at hv
  obtain ⟨⟨rfl,_,_⟩,_,_⟩:=hv
  have hb:Blk w b 86 cur:=h2
  exact hb.lt
def PaV (w:World) (g:Nat) (X:World):Prop:=Below w.heap.size w X/\X.heap.size=w.heap.size+1 /\
 X.cell? ⟨w.heap.size,0,none⟩=some (.func (.func 171) #[.pointer (some ⟨g,0,none⟩)] #[])/\X.cell? ⟨w.heap.size,1,none⟩=some (.func (.func 172) #[.pointer (some ⟨g,0,none⟩)] #[])/\X.cell? ⟨w.heap.size,2,none⟩=some (.func (.func 173) #[.pointer (some ⟨g,0,none⟩)] #[]) /\
 X.cell? ⟨w.heap.size,3,none⟩=some (.func (.func 174) #[.pointer (some ⟨g,0,none⟩)] #[])/\X.cell? ⟨w.heap.size,4,none⟩=some (.func (.func 175) #[.pointer (some ⟨g,0,none⟩)] #[])
theorem PaV.new (w:World) (g:Nat) (t:TypeId):PaV w g (w.alloc (.cells #[(.func (.func 171) #[.pointer (some ⟨g,0,none⟩)] #[]),(.func (.func 172) #[.pointer (some ⟨g,0,none⟩)] #[]),(.func (.func 173) #[.pointer (some ⟨g,0,none⟩)] #[]),(.func (.func 174) #[.pointer (some ⟨g,0,none⟩)] #[]),(.func (.func 175) #[.pointer (some ⟨g,0,none⟩)] #[])] t)) :=
 ⟨(Below.refl _ _).alloc (Nat.le_refl _) _,by simp,qu w _ t 0,qu w _ t 1,qu w _ t 2,qu w _ t 3,qu w _ t 4⟩
def PaP (g nb:Nat) (o:Option Prs) (w:World) (e:Ending) (w':World):Prop :=
 Below g w w'/\match o with
 | some q=>e = .returned (.bool true)/\PaS w' g nb q
 | none=>e = .returned (.bool false)
theorem part_ (E:World) (p:Prs) (g nb:Nat) (w:World) (hE:PaE E g nb) (hSt:Sty E) (hEw:Below g E w) (h:PaS w g nb p) (hk:PaK p):Calls prog 148 #[.pointer (some ⟨g,0,none⟩)] w (PaP g nb (va p) w):=by
 have hgl:=h.lt
 have hmf : ∀ (fn:Fn) (first cap:Array Value) (w:World),(Instr.makeFunc fn first cap).run prog w = .ok (.func fn first cap) w:=fun _ _ _ _=>rfl
 have hE0:E.heap.size=g:=hE.2.2.2
 obtain ⟨A1,c1,C1⟩:=h.words1
 have KW : ∀ {w':World},Below w.heap.size w w'->Below g E w':=fun hw=>hEw.trans (hw.mono (Nat.le_of_lt hgl))
 have HCz:Hid (∀ w',Below w.heap.size w w'->w'.cell? ⟨g,1,none⟩=some (.slice A1 p.words.length c1)):=Lh fun w' hw=>(hw.cell (show g<_ from hgl)).trans C1
 have HO:=Lh h.out_lt
 have Q0:Hid (∀ w',Below w.heap.size w w'->Calls prog 171 #[.pointer (some ⟨g,0,none⟩)] w' (PaR g nb p (zP p) w')):=Lh fun w' hw=>styled_ p g nb w' (hSt.below (KW hw) (Nat.le_of_eq hE0)) (h.below hw)
 have Q1:Hid (∀ w',Below w.heap.size w w'->Calls prog 172 #[.pointer (some ⟨g,0,none⟩)] w' (PaR g nb p (jP p) w')):=Lh fun w' hw=>word_ p g nb w' (h.below hw) (hE.set (KW hw)) hk
 have Q2:Hid (∀ w',Below w.heap.size w w'->Calls prog 173 #[.pointer (some ⟨g,0,none⟩)] w' (PaR g nb p (qaP p) w')):=Lh fun w' hw=>figures_ p g nb w' (h.below hw) hk
 have Q3:Hid (∀ w',Below w.heap.size w w'->Calls prog 174 #[.pointer (some ⟨g,0,none⟩)] w' (PaR2 g nb p (ko p) w')):=Lh fun w' hw=>sign_ E p g nb w' hE (KW hw) (h.below hw) hk
 have Q4:Hid (∀ (q:Prs) (w':World),q.words=p.words->PaS w' g nb q->(vi p.words=none->q=p)->Below g w w'->Calls prog 175 #[.pointer (some ⟨g,0,none⟩)] w' (PaR3 g nb p (kD p) w')):=Lh fun q w' hq hs hc hw=>by
  by_cases hcw:vi p.words=none
  ·obtain rfl:=hc hcw
   exact amount_ E q g nb w' hE (hEw.trans hw) hs hk
  ·obtain ⟨x,hx⟩:=Option.ne_none_iff_exists'.1 hcw
   have hp:=qfu hx
   have ha:kD p=none:=by unfold kD;rw [hp]
   rw [ha]
   refine (qeQ q g nb w' hs (fun s hs=>hk.sz s (by rw [<- hq];exact hs)) (by rw [hq];exact hk.len) (by rw [hq];exact hp)).mono fun e w'' ⟨h1,h2,h3⟩=>⟨h1,h2,q,hq,h3⟩
 have hpl:p.words.length<=500000:=hk.len
 clear hE hSt hEw hk hE0 C1 h KW
 cases e0:zP p with
 | some q =>
  have er:va p=some q:=by unfold va;rw [e0];rfl
  rw [er]
  rw [e0] at Q0
  clear er e0 Q1 Q2 Q3 Q4
  go_enter func148,ntmps148
  go_upto_region 2 with fail
  refine qa (PaV w g) (PaV.new w g _) ?_
  rintro X ⟨hbX,hzX,F0,G1,G2,G3,G4⟩
  have hFl:w.heap.size<X.heap.size:=by omega
  have HW:Hid (∀ w',Below X.heap.size X w'->Below w.heap.size w w'):=Lh fun w' hb=>hbX.trans (hb.mono hbX.size)
  have HC1:Hid (∀ w',Below X.heap.size X w'->w'.cell? ⟨g,1,none⟩=some (.slice A1 p.words.length c1)):=Lh fun w' hb=>HCz.out w' (HW.out w' hb)
  have HFz:Hid (∀ w',Below X.heap.size X w'->w.heap.size<w'.heap.size):=Lh fun w' hb=>by have:=hb.size;omega
  have HF1:Hid (∀ w',Below X.heap.size X w'->w'.cell? ⟨w.heap.size,1,none⟩=some (.func (.func 172) #[.pointer (some ⟨g,0,none⟩)] #[])):=Lh fun w' hb=>(hb.cell hFl).trans G1
  have HF2:Hid (∀ w',Below X.heap.size X w'->w'.cell? ⟨w.heap.size,2,none⟩=some (.func (.func 173) #[.pointer (some ⟨g,0,none⟩)] #[])):=Lh fun w' hb=>(hb.cell hFl).trans G2
  have HF3:Hid (∀ w',Below X.heap.size X w'->w'.cell? ⟨w.heap.size,3,none⟩=some (.func (.func 174) #[.pointer (some ⟨g,0,none⟩)] #[])):=Lh fun w' hb=>(hb.cell hFl).trans G3
  have HF4:Hid (∀ w',Below X.heap.size X w'->w'.cell? ⟨w.heap.size,4,none⟩=some (.func (.func 175) #[.pointer (some ⟨g,0,none⟩)] #[])):=Lh fun w' hb=>(hb.cell hFl).trans G4
  have hb1:Below X.heap.size X X:=Below.refl _ _
  have cc1:=HC1.out _ hb1
  clear G1 G2 G3 G4 hzX
  have K0:Hid (∀ w',Below X.heap.size X w'->Calls prog 171 #[.pointer (some ⟨g,0,none⟩)] w' fun e w''=>e = .returned (.bool true)/\Below g w w''/\PaS w'' g nb q):=Lh fun w' hb=>(Q0.out w' (HW.out w' hb)).mono fun e w'' ⟨a,b,c⟩=>⟨b,((HW.out w' hb).mono (Nat.le_of_lt hgl)).trans a,c⟩
  clear HF1 HF2 HF3 HF4 HFz
  go_wp2
  refine wp_loop_rounds 6 ?_
  rw [rounds_succ]
  go_wp2_with (go_at_call 171;refine (K0.out _ hb1).mono ?_;rintro e wz ⟨rfl,hbz,hpz⟩)
  go_ret
  exact ⟨hbz,rfl,hpz⟩
 | none =>
  rw [e0] at Q0
  cases e1:jP p with
  | some q =>
   have er:va p=some q:=by unfold va;rw [e0,e1];rfl
   rw [er]
   rw [e1] at Q1
   clear er e0 e1 Q2 Q3 Q4
   go_enter func148,ntmps148
   go_upto_region 2 with fail
   refine qa (PaV w g) (PaV.new w g _) ?_
   rintro X ⟨hbX,hzX,F0,G1,G2,G3,G4⟩
   have hFl:w.heap.size<X.heap.size:=by omega
   have HW:Hid (∀ w',Below X.heap.size X w'->Below w.heap.size w w'):=Lh fun w' hb=>hbX.trans (hb.mono hbX.size)
   have HC1:Hid (∀ w',Below X.heap.size X w'->w'.cell? ⟨g,1,none⟩=some (.slice A1 p.words.length c1)):=Lh fun w' hb=>HCz.out w' (HW.out w' hb)
   have HFz:Hid (∀ w',Below X.heap.size X w'->w.heap.size<w'.heap.size):=Lh fun w' hb=>by have:=hb.size;omega
   have HF1:Hid (∀ w',Below X.heap.size X w'->w'.cell? ⟨w.heap.size,1,none⟩=some (.func (.func 172) #[.pointer (some ⟨g,0,none⟩)] #[])):=Lh fun w' hb=>(hb.cell hFl).trans G1
   have HF2:Hid (∀ w',Below X.heap.size X w'->w'.cell? ⟨w.heap.size,2,none⟩=some (.func (.func 173) #[.pointer (some ⟨g,0,none⟩)] #[])):=Lh fun w' hb=>(hb.cell hFl).trans G2
   have HF3:Hid (∀ w',Below X.heap.size X w'->w'.cell? ⟨w.heap.size,3,none⟩=some (.func (.func 174) #[.pointer (some ⟨g,0,none⟩)] #[])):=Lh fun w' hb=>(hb.cell hFl).trans G3
   have HF4:Hid (∀ w',Below X.heap.size X w'->w'.cell? ⟨w.heap.size,4,none⟩=some (.func (.func 175) #[.pointer (some ⟨g,0,none⟩)] #[])):=Lh fun w' hb=>(hb.cell hFl).trans G4
   have hb1:Below X.heap.size X X:=Below.refl _ _
   have cc1:=HC1.out _ hb1
   clear G1 G2 G3 G4 hzX
   have K0:Hid (∀ w',Below X.heap.size X w'->Calls prog 171 #[.pointer (some ⟨g,0,none⟩)] w' fun e w''=>e = .returned (.bool false)/\Below X.heap.size X w''):=Lh fun w' hb=>(Q0.out w' (HW.out w' hb)).mono fun e w'' ⟨_,a,_,c⟩=>⟨a,hb.trans (c.mono hb.size)⟩
   have K1:Hid (∀ w',Below X.heap.size X w'->Calls prog 172 #[.pointer (some ⟨g,0,none⟩)] w' fun e w''=>e = .returned (.bool true)/\Below g w w''/\PaS w'' g nb q):=Lh fun w' hb=>(Q1.out w' (HW.out w' hb)).mono fun e w'' ⟨a,b,c⟩=>⟨b,((HW.out w' hb).mono (Nat.le_of_lt hgl)).trans a,c⟩
   clear HF2 HF3 HF4 HFz
   go_wp2
   refine wp_loop_rounds 6 ?_
   rw [rounds_succ]
   go_wp2_with (go_at_call 171;refine (K0.out _ hb1).mono ?_;rintro e w2 ⟨rfl,hb2⟩;have cc2:=HC1.out _ hb2;have F1:=HF1.out _ hb2)
   rw [rounds_succ]
   go_wp2_with (go_at_call 172;refine (K1.out _ hb2).mono ?_;rintro e wz ⟨rfl,hbz,hpz⟩)
   go_ret
   exact ⟨hbz,rfl,hpz⟩
  | none =>
   rw [e1] at Q1
   cases e2:qaP p with
   | some q =>
    have er:va p=some q:=by unfold va;rw [e0,e1,e2];rfl
    rw [er]
    rw [e2] at Q2
    clear er e0 e1 e2 Q3 Q4
    go_enter func148,ntmps148
    go_upto_region 2 with fail
    refine qa (PaV w g) (PaV.new w g _) ?_
    rintro X ⟨hbX,hzX,F0,G1,G2,G3,G4⟩
    have hFl:w.heap.size<X.heap.size:=by omega
    have HW:Hid (∀ w',Below X.heap.size X w'->Below w.heap.size w w'):=Lh fun w' hb=>hbX.trans (hb.mono hbX.size)
    have HC1:Hid (∀ w',Below X.heap.size X w'->w'.cell? ⟨g,1,none⟩=some (.slice A1 p.words.length c1)):=Lh fun w' hb=>HCz.out w' (HW.out w' hb)
    have HFz:Hid (∀ w',Below X.heap.size X w'->w.heap.size<w'.heap.size):=Lh fun w' hb=>by have:=hb.size;omega
    have HF1:Hid (∀ w',Below X.heap.size X w'->w'.cell? ⟨w.heap.size,1,none⟩=some (.func (.func 172) #[.pointer (some ⟨g,0,none⟩)] #[])):=Lh fun w' hb=>(hb.cell hFl).trans G1
    have HF2:Hid (∀ w',Below X.heap.size X w'->w'.cell? ⟨w.heap.size,2,none⟩=some (.func (.func 173) #[.pointer (some ⟨g,0,none⟩)] #[])):=Lh fun w' hb=>(hb.cell hFl).trans G2
    have HF3:Hid (∀ w',Below X.heap.size X w'->w'.cell? ⟨w.heap.size,3,none⟩=some (.func (.func 174) #[.pointer (some ⟨g,0,none⟩)] #[])):=Lh fun w' hb=>(hb.cell hFl).trans G3
    have HF4:Hid (∀ w',Below X.heap.size X w'->w'.cell? ⟨w.heap.size,4,none⟩=some (.func (.func 175) #[.pointer (some ⟨g,0,none⟩)] #[])):=Lh fun w' hb=>(hb.cell hFl).trans G4
    have hb1:Below X.heap.size X X:=Below.refl _ _
    have cc1:=HC1.out _ hb1
    clear G1 G2 G3 G4 hzX
    have K0:Hid (∀ w',Below X.heap.size X w'->Calls prog 171 #[.pointer (some ⟨g,0,none⟩)] w' fun e w''=>e = .returned (.bool false)/\Below X.heap.size X w''):=Lh fun w' hb=>(Q0.out w' (HW.out w' hb)).mono fun e w'' ⟨_,a,_,c⟩=>⟨a,hb.trans (c.mono hb.size)⟩
    have K1:Hid (∀ w',Below X.heap.size X w'->Calls prog 172 #[.pointer (some ⟨g,0,none⟩)] w' fun e w''=>e = .returned (.bool false)/\Below X.heap.size X w''):=Lh fun w' hb=>(Q1.out w' (HW.out w' hb)).mono fun e w'' ⟨_,a,_,c⟩=>⟨a,hb.trans (c.mono hb.size)⟩
    have K2:Hid (∀ w',Below X.heap.size X w'->Calls prog 173 #[.pointer (some ⟨g,0,none⟩)] w' fun e w''=>e = .returned (.bool true)/\Below g w w''/\PaS w'' g nb q):=Lh fun w' hb=>(Q2.out w' (HW.out w' hb)).mono fun e w'' ⟨a,b,c⟩=>⟨b,((HW.out w' hb).mono (Nat.le_of_lt hgl)).trans a,c⟩
    clear HF3 HF4 HFz
    go_wp2
    refine wp_loop_rounds 6 ?_
    rw [rounds_succ]
    go_wp2_with (go_at_call 171;refine (K0.out _ hb1).mono ?_;rintro e w2 ⟨rfl,hb2⟩;have cc2:=HC1.out _ hb2;have F1:=HF1.out _ hb2)
    rw [rounds_succ]
    go_wp2_with (go_at_call 172;refine (K1.out _ hb2).mono ?_;rintro e w3 ⟨rfl,hb3⟩;have cc3:=HC1.out _ hb3;have F2:=HF2.out _ hb3)
    rw [rounds_succ]
    go_wp2_with (go_at_call 173;refine (K2.out _ hb3).mono ?_;rintro e wz ⟨rfl,hbz,hpz⟩)
    go_ret
    exact ⟨hbz,rfl,hpz⟩
   | none =>
    rw [e2] at Q2
    cases e3:ko p with
    | some q =>
     have er:va p=some q:=by unfold va;rw [e0,e1,e2,e3];rfl
     rw [er]
     rw [e3] at Q3
     clear er e0 e1 e2 e3 Q4
     go_enter func148,ntmps148
     go_upto_region 2 with fail
     refine qa (PaV w g) (PaV.new w g _) ?_
     rintro X ⟨hbX,hzX,F0,G1,G2,G3,G4⟩
     have hFl:w.heap.size<X.heap.size:=by omega
     have HW:Hid (∀ w',Below X.heap.size X w'->Below w.heap.size w w'):=Lh fun w' hb=>hbX.trans (hb.mono hbX.size)
     have HC1:Hid (∀ w',Below X.heap.size X w'->w'.cell? ⟨g,1,none⟩=some (.slice A1 p.words.length c1)):=Lh fun w' hb=>HCz.out w' (HW.out w' hb)
     have HFz:Hid (∀ w',Below X.heap.size X w'->w.heap.size<w'.heap.size):=Lh fun w' hb=>by have:=hb.size;omega
     have HF1:Hid (∀ w',Below X.heap.size X w'->w'.cell? ⟨w.heap.size,1,none⟩=some (.func (.func 172) #[.pointer (some ⟨g,0,none⟩)] #[])):=Lh fun w' hb=>(hb.cell hFl).trans G1
     have HF2:Hid (∀ w',Below X.heap.size X w'->w'.cell? ⟨w.heap.size,2,none⟩=some (.func (.func 173) #[.pointer (some ⟨g,0,none⟩)] #[])):=Lh fun w' hb=>(hb.cell hFl).trans G2
     have HF3:Hid (∀ w',Below X.heap.size X w'->w'.cell? ⟨w.heap.size,3,none⟩=some (.func (.func 174) #[.pointer (some ⟨g,0,none⟩)] #[])):=Lh fun w' hb=>(hb.cell hFl).trans G3
     have HF4:Hid (∀ w',Below X.heap.size X w'->w'.cell? ⟨w.heap.size,4,none⟩=some (.func (.func 175) #[.pointer (some ⟨g,0,none⟩)] #[])):=Lh fun w' hb=>(hb.cell hFl).trans G4
     have hb1:Below X.heap.size X X:=Below.refl _ _
     have cc1:=HC1.out _ hb1
     clear G1 G2 G3 G4 hzX
     have K0:Hid (∀ w',Below X.heap.size X w'->Calls prog 171 #[.pointer (some ⟨g,0,none⟩)] w' fun e w''=>e = .returned (.bool false)/\Below X.heap.size X w''):=Lh fun w' hb=>(Q0.out w' (HW.out w' hb)).mono fun e w'' ⟨_,a,_,c⟩=>⟨a,hb.trans (c.mono hb.size)⟩
     have K1:Hid (∀ w',Below X.heap.size X w'->Calls prog 172 #[.pointer (some ⟨g,0,none⟩)] w' fun e w''=>e = .returned (.bool false)/\Below X.heap.size X w''):=Lh fun w' hb=>(Q1.out w' (HW.out w' hb)).mono fun e w'' ⟨_,a,_,c⟩=>⟨a,hb.trans (c.mono hb.size)⟩
     have K2:Hid (∀ w',Below X.heap.size X w'->Calls prog 173 #[.pointer (some ⟨g,0,none⟩)] w' fun e w''=>e = .returned (.bool false)/\Below X.heap.size X w''):=Lh fun w' hb=>(Q2.out w' (HW.out w' hb)).mono fun e w'' ⟨_,a,_,c⟩=>⟨a,hb.trans (c.mono hb.size)⟩
     have K3:Hid (∀ w',Below X.heap.size X w'->Calls prog 174 #[.pointer (some ⟨g,0,none⟩)] w' fun e w''=>e = .returned (.bool true)/\Below g w w''/\PaS w'' g nb q):=Lh fun w' hb=>(Q3.out w' (HW.out w' hb)).mono fun e w'' ⟨a,b,c⟩=>⟨b,((HW.out w' hb).mono (Nat.le_of_lt hgl)).trans a,c⟩
     clear HF4 HFz
     go_wp2
     refine wp_loop_rounds 6 ?_
     rw [rounds_succ]
     go_wp2_with (go_at_call 171;refine (K0.out _ hb1).mono ?_;rintro e w2 ⟨rfl,hb2⟩;have cc2:=HC1.out _ hb2;have F1:=HF1.out _ hb2)
     rw [rounds_succ]
     go_wp2_with (go_at_call 172;refine (K1.out _ hb2).mono ?_;rintro e w3 ⟨rfl,hb3⟩;have cc3:=HC1.out _ hb3;have F2:=HF2.out _ hb3)
     rw [rounds_succ]
     go_wp2_with (go_at_call 173;refine (K2.out _ hb3).mono ?_;rintro e w4 ⟨rfl,hb4⟩;have cc4:=HC1.out _ hb4;have F3:=HF3.out _ hb4)
     rw [rounds_succ]
     go_wp2_with (go_at_call 174;refine (K3.out _ hb4).mono ?_;rintro e wz ⟨rfl,hbz,hpz⟩)
     go_ret
     exact ⟨hbz,rfl,hpz⟩
    | none =>
     have er:va p=kD p:=by unfold va;rw [e0,e1,e2,e3];rfl
     rw [er]
     rw [e3] at Q3
     clear er e0 e1 e2 e3
     cases e4:kD p with
     | some q =>
      rw [e4] at Q4
      clear e4
      go_enter func148,ntmps148
      go_upto_region 2 with fail
      refine qa (PaV w g) (PaV.new w g _) ?_
      rintro X ⟨hbX,hzX,F0,G1,G2,G3,G4⟩
      have hFl:w.heap.size<X.heap.size:=by omega
      have HW:Hid (∀ w',Below X.heap.size X w'->Below w.heap.size w w'):=Lh fun w' hb=>hbX.trans (hb.mono hbX.size)
      have HC1:Hid (∀ w',Below X.heap.size X w'->w'.cell? ⟨g,1,none⟩=some (.slice A1 p.words.length c1)):=Lh fun w' hb=>HCz.out w' (HW.out w' hb)
      have HFz:Hid (∀ w',Below X.heap.size X w'->w.heap.size<w'.heap.size):=Lh fun w' hb=>by have:=hb.size;omega
      have HF1:Hid (∀ w',Below X.heap.size X w'->w'.cell? ⟨w.heap.size,1,none⟩=some (.func (.func 172) #[.pointer (some ⟨g,0,none⟩)] #[])):=Lh fun w' hb=>(hb.cell hFl).trans G1
      have HF2:Hid (∀ w',Below X.heap.size X w'->w'.cell? ⟨w.heap.size,2,none⟩=some (.func (.func 173) #[.pointer (some ⟨g,0,none⟩)] #[])):=Lh fun w' hb=>(hb.cell hFl).trans G2
      have HF3:Hid (∀ w',Below X.heap.size X w'->w'.cell? ⟨w.heap.size,3,none⟩=some (.func (.func 174) #[.pointer (some ⟨g,0,none⟩)] #[])):=Lh fun w' hb=>(hb.cell hFl).trans G3
      have HF4:Hid (∀ w',Below X.heap.size X w'->w'.cell? ⟨w.heap.size,4,none⟩=some (.func (.func 175) #[.pointer (some ⟨g,0,none⟩)] #[])):=Lh fun w' hb=>(hb.cell hFl).trans G4
      have hb1:Below X.heap.size X X:=Below.refl _ _
      have cc1:=HC1.out _ hb1
      clear G1 G2 G3 G4 hzX
      have K0:Hid (∀ w',Below X.heap.size X w'->Calls prog 171 #[.pointer (some ⟨g,0,none⟩)] w' fun e w''=>e = .returned (.bool false)/\Below X.heap.size X w''):=Lh fun w' hb=>(Q0.out w' (HW.out w' hb)).mono fun e w'' ⟨_,a,_,c⟩=>⟨a,hb.trans (c.mono hb.size)⟩
      have K1:Hid (∀ w',Below X.heap.size X w'->Calls prog 172 #[.pointer (some ⟨g,0,none⟩)] w' fun e w''=>e = .returned (.bool false)/\Below X.heap.size X w''):=Lh fun w' hb=>(Q1.out w' (HW.out w' hb)).mono fun e w'' ⟨_,a,_,c⟩=>⟨a,hb.trans (c.mono hb.size)⟩
      have K2:Hid (∀ w',Below X.heap.size X w'->Calls prog 173 #[.pointer (some ⟨g,0,none⟩)] w' fun e w''=>e = .returned (.bool false)/\Below X.heap.size X w''):=Lh fun w' hb=>(Q2.out w' (HW.out w' hb)).mono fun e w'' ⟨_,a,_,c⟩=>⟨a,hb.trans (c.mono hb.size)⟩
      have K3:Hid (∀ w',Below X.heap.size X w'->w.heap.size<w'.heap.size->Calls prog 174 #[.pointer (some ⟨g,0,none⟩)] w' fun e w''=>e = .returned (.bool false)/\Below g w w''/\∃ q:Prs,q.words=p.words/\PaS w'' g nb q/\(vi p.words=none->q=p) /\
        (∀ i:Nat,w''.cell? ⟨w.heap.size,i,none⟩=w'.cell? ⟨w.heap.size,i,none⟩)/\∃ A c,w''.cell? ⟨g,1,none⟩=some (.slice A p.words.length c)):=Lh fun w' hb hF =>
       (Q3.out w' (HW.out w' hb)).mono fun e w'' ⟨a,b,q,hq,hs,hc,hap⟩=>⟨b,((HW.out w' hb).mono (Nat.le_of_lt hgl)).trans a,q,hq,hs,hc,
        fun i=>hap w.heap.size i (by omega) hF (fun b o s n c hcell=>Nat.ne_of_lt (HO.out b o s n c (((HW.out w' hb).cell (show g<_ from hgl)).symm.trans hcell))),by rw [<- hq];exact hs.words1⟩
      have K4:Hid (∀ (q':Prs) (w':World),q'.words=p.words->PaS w' g nb q'->(vi p.words=none->q'=p)->Below g w w'->Calls prog 175 #[.pointer (some ⟨g,0,none⟩)] w' fun e w''=>e = .returned (.bool true)/\Below g w w''/\PaS w'' g nb q):=Lh fun q' w' hq hs hc hw =>
       (Q4.out q' w' hq hs hc hw).mono fun e w'' ⟨a,b,c⟩=>⟨b,hw.trans a,c⟩
      go_wp2
      refine wp_loop_rounds 6 ?_
      rw [rounds_succ]
      go_wp2_with (go_at_call 171;refine (K0.out _ hb1).mono ?_;rintro e w2 ⟨rfl,hb2⟩;have cc2:=HC1.out _ hb2;have F1:=HF1.out _ hb2)
      rw [rounds_succ]
      go_wp2_with (go_at_call 172;refine (K1.out _ hb2).mono ?_;rintro e w3 ⟨rfl,hb3⟩;have cc3:=HC1.out _ hb3;have F2:=HF2.out _ hb3)
      rw [rounds_succ]
      go_wp2_with (go_at_call 173;refine (K2.out _ hb3).mono ?_;rintro e w4 ⟨rfl,hb4⟩;have cc4:=HC1.out _ hb4;have F3:=HF3.out _ hb4)
      rw [rounds_succ]
      go_wp2_with (go_at_call 174;refine (K3.out _ hb4 (HFz.out _ hb4)).mono ?_;rintro e w5 ⟨rfl,hb5,q5,hq5,hp5,hc5,hk5,A5,c5,cc5⟩;have F4:=(hk5 4).trans (HF4.out _ hb4);replace hk5:=Lh hk5;replace hc5:=Lh hc5;replace hq5:=Lh hq5)
      rw [rounds_succ]
      go_wp2_with (go_at_call 175;refine (K4.out q5 _ hq5.out hp5 hc5.out hb5).mono ?_;rintro e wz ⟨rfl,hbz,hpz⟩)
      go_ret
      exact ⟨hbz,rfl,hpz⟩
     | none =>
      rw [e4] at Q4
      clear e4
      go_enter func148,ntmps148
      go_upto_region 2 with fail
      refine qa (PaV w g) (PaV.new w g _) ?_
      rintro X ⟨hbX,hzX,F0,G1,G2,G3,G4⟩
      have hFl:w.heap.size<X.heap.size:=by omega
      have HW:Hid (∀ w',Below X.heap.size X w'->Below w.heap.size w w'):=Lh fun w' hb=>hbX.trans (hb.mono hbX.size)
      have HC1:Hid (∀ w',Below X.heap.size X w'->w'.cell? ⟨g,1,none⟩=some (.slice A1 p.words.length c1)):=Lh fun w' hb=>HCz.out w' (HW.out w' hb)
      have HFz:Hid (∀ w',Below X.heap.size X w'->w.heap.size<w'.heap.size):=Lh fun w' hb=>by have:=hb.size;omega
      have HF1:Hid (∀ w',Below X.heap.size X w'->w'.cell? ⟨w.heap.size,1,none⟩=some (.func (.func 172) #[.pointer (some ⟨g,0,none⟩)] #[])):=Lh fun w' hb=>(hb.cell hFl).trans G1
      have HF2:Hid (∀ w',Below X.heap.size X w'->w'.cell? ⟨w.heap.size,2,none⟩=some (.func (.func 173) #[.pointer (some ⟨g,0,none⟩)] #[])):=Lh fun w' hb=>(hb.cell hFl).trans G2
      have HF3:Hid (∀ w',Below X.heap.size X w'->w'.cell? ⟨w.heap.size,3,none⟩=some (.func (.func 174) #[.pointer (some ⟨g,0,none⟩)] #[])):=Lh fun w' hb=>(hb.cell hFl).trans G3
      have HF4:Hid (∀ w',Below X.heap.size X w'->w'.cell? ⟨w.heap.size,4,none⟩=some (.func (.func 175) #[.pointer (some ⟨g,0,none⟩)] #[])):=Lh fun w' hb=>(hb.cell hFl).trans G4
      have hb1:Below X.heap.size X X:=Below.refl _ _
      have cc1:=HC1.out _ hb1
      clear G1 G2 G3 G4 hzX
      have K0:Hid (∀ w',Below X.heap.size X w'->Calls prog 171 #[.pointer (some ⟨g,0,none⟩)] w' fun e w''=>e = .returned (.bool false)/\Below X.heap.size X w''):=Lh fun w' hb=>(Q0.out w' (HW.out w' hb)).mono fun e w'' ⟨_,a,_,c⟩=>⟨a,hb.trans (c.mono hb.size)⟩
      have K1:Hid (∀ w',Below X.heap.size X w'->Calls prog 172 #[.pointer (some ⟨g,0,none⟩)] w' fun e w''=>e = .returned (.bool false)/\Below X.heap.size X w''):=Lh fun w' hb=>(Q1.out w' (HW.out w' hb)).mono fun e w'' ⟨_,a,_,c⟩=>⟨a,hb.trans (c.mono hb.size)⟩
      have K2:Hid (∀ w',Below X.heap.size X w'->Calls prog 173 #[.pointer (some ⟨g,0,none⟩)] w' fun e w''=>e = .returned (.bool false)/\Below X.heap.size X w''):=Lh fun w' hb=>(Q2.out w' (HW.out w' hb)).mono fun e w'' ⟨_,a,_,c⟩=>⟨a,hb.trans (c.mono hb.size)⟩
      have K3:Hid (∀ w',Below X.heap.size X w'->w.heap.size<w'.heap.size->Calls prog 174 #[.pointer (some ⟨g,0,none⟩)] w' fun e w''=>e = .returned (.bool false)/\Below g w w''/\∃ q:Prs,q.words=p.words/\PaS w'' g nb q/\(vi p.words=none->q=p) /\
        (∀ i:Nat,w''.cell? ⟨w.heap.size,i,none⟩=w'.cell? ⟨w.heap.size,i,none⟩)/\∃ A c,w''.cell? ⟨g,1,none⟩=some (.slice A p.words.length c)):=Lh fun w' hb hF =>
       (Q3.out w' (HW.out w' hb)).mono fun e w'' ⟨a,b,q,hq,hs,hc,hap⟩=>⟨b,((HW.out w' hb).mono (Nat.le_of_lt hgl)).trans a,q,hq,hs,hc,
        fun i=>hap w.heap.size i (by omega) hF (fun b o s n c hcell=>Nat.ne_of_lt (HO.out b o s n c (((HW.out w' hb).cell (show g<_ from hgl)).symm.trans hcell))),by rw [<- hq];exact hs.words1⟩
      have K4:Hid (∀ (q':Prs) (w':World),q'.words=p.words->PaS w' g nb q'->(vi p.words=none->q'=p)->Below g w w'->Calls prog 175 #[.pointer (some ⟨g,0,none⟩)] w' fun e w''=>e = .returned (.bool false)/\Below g w w''/\∃ A c,w''.cell? ⟨g,1,none⟩=some (.slice A p.words.length c)):=Lh fun q' w' hq hs hc hw =>
       (Q4.out q' w' hq hs hc hw).mono fun e w'' ⟨a,b,q2,hq2,hs2⟩=>⟨b,hw.trans a,by rw [<- hq2];exact hs2.words1⟩
      go_wp2
      refine wp_loop_rounds 6 ?_
      rw [rounds_succ]
      go_wp2_with (go_at_call 171;refine (K0.out _ hb1).mono ?_;rintro e w2 ⟨rfl,hb2⟩;have cc2:=HC1.out _ hb2;have F1:=HF1.out _ hb2)
      rw [rounds_succ]
      go_wp2_with (go_at_call 172;refine (K1.out _ hb2).mono ?_;rintro e w3 ⟨rfl,hb3⟩;have cc3:=HC1.out _ hb3;have F2:=HF2.out _ hb3)
      rw [rounds_succ]
      go_wp2_with (go_at_call 173;refine (K2.out _ hb3).mono ?_;rintro e w4 ⟨rfl,hb4⟩;have cc4:=HC1.out _ hb4;have F3:=HF3.out _ hb4)
      rw [rounds_succ]
      go_wp2_with (go_at_call 174;refine (K3.out _ hb4 (HFz.out _ hb4)).mono ?_;rintro e w5 ⟨rfl,hb5,q5,hq5,hp5,hc5,hk5,A5,c5,cc5⟩;have F4:=(hk5 4).trans (HF4.out _ hb4);replace hk5:=Lh hk5;replace hc5:=Lh hc5;replace hq5:=Lh hq5)
      rw [rounds_succ]
      go_wp2_with (go_at_call 175;refine (K4.out q5 _ hq5.out hp5 hc5.out hb5).mono ?_;rintro e w6 ⟨rfl,hb6,A6,c6,cc6⟩)
      rw [rounds_succ]
      go_wp2
      go_ret
      exact ⟨hb6,rfl⟩
def GlR (o:Option (List Gl)) (w:World) (e:Ending) (w':World):Prop :=
 Below w.heap.size w w'/\match o with
 | none=>e = .returned (.tuple #[.slice none 0 0,.int .i64 17])
 | some G=>∃ A c,e = .returned (.tuple #[.slice A G.length c,.int .i64 0])/\w'.ownsRow w.heap.size 86 3 (.slice A G.length c) G.length (qi G)
def leftN (w:World) (g:Nat):Nat:=match w.cell? ⟨g,1,none⟩ with
 | some (.slice _ n _)=>n
 | _=>0
theorem PaS.left {w:World} {g nb:Nat} {q:Prs} (h:PaS w g nb q):leftN w g=q.words.length:=by
 obtain ⟨A,c,hc⟩:=h.words1
 unfold leftN
 rw [hc]
theorem PaS.out2 {w:World} {g nb:Nat} {q:Prs} (h:PaS w g nb q) : ∃ A c,w.cell? ⟨g,2,none⟩=some (.slice A q.out.length c)/\w.ownsRow (g+1) 86 3 (.slice A q.out.length c) q.out.length (qi q.out):=by
 obtain ⟨A,n,c,A2,c2,h1,h2,h3,h4,h5⟩:=h
 have C2:=h3.cell 2
 simp only [jh,La,Lb,Lc] at C2
 exact ⟨A2,c2,C2,h5⟩
def GlI (w w1:World) (nb:Nat) (R:Option (List Gl)) (wr:World):Prop :=
 ∃ q f,q.words.length<=f/\ka f q=R/\PaS wr w1.heap.size nb q/\PaK2 q/\Below w1.heap.size w1 wr/\Below w.heap.size w wr
theorem glyphs_ (l:List ByteArray) (A:Option Addr) (n c:Nat) (w:World) (hn:l.length=n) (hc:n<=c) (hm:c<=maxLen) (rd:Rd w w.heap.size 1 A n (sv l)) (hsz : ∀ s∈l,s.size<=1000) (hl:l.length<=400000) (hs:Sp w) (hu:U8 w) (hy:Sty w) :
  Calls prog 129 #[.slice A n c] w (GlR (kC l) w):=by
 obtain ⟨R,hR⟩ : ∃ R,R=kC l:=⟨_,rfl⟩
 rw [<- hR]
 have HR:=Lh (qkq w hs)
 have HI:Hid (∀ (w1:World) (b1:Nat),SetM w1 b1 200 jF->Below w.heap.size w w1->GlI w w1 b1 R (w1.alloc (.cells (jh b1 (.slice A n c) (.slice none 0 0) 0 false) 201))/\PaE w1 w1.heap.size b1/\Sty w1):=Lh fun w1 b1 hset hb =>
  ⟨⟨⟨l,[],0,false⟩,l.length,Nat.le_refl _,hR.symm,
   ⟨A,n,c,none,0,hc,hm,Blk.new w1 _ _,((rd.below hb).more hb.size).below (Below.alloc (Below.refl w1.heap.size w1) (Nat.le_refl _) _),zY _ _ _ _⟩,
   ⟨⟨hsz,by show 0+2000 * l.length<=_;omega,fun x hx=>by cases hx⟩,hl⟩,(Below.refl w1.heap.size w1).alloc (Nat.le_refl _) _,hb.alloc hb.size _⟩,
   ⟨hs.below hb (Nat.le_refl _),hu.below hb,hset,rfl⟩,hy.below hb (Nat.le_refl _)⟩
 clear rd hsz hl hs hu hy hR hn hc hm
 go_enter func129,ntmps129
 go_wp2_with (go_at_call 147;refine HR.out.mono ?_;rintro e w1 ⟨b1,rfl,hset1,hb1,hbel1⟩)
 obtain ⟨hI,hE,hSt⟩:=HI.out w1 b1 hset1 hbel1
 have hE':=Lh hE
 have hSt':=Lh hSt
 have hsz1:w.heap.size<=w1.heap.size:=hbel1.size
 clear hset1 hE hSt HI HR hb1 hbel1
 go_loopw [17] (fun x wr=>GlI w w1 b1 R wr) (fun x wr=>leftN wr w1.heap.size)
 case atStart=>exact hI
 case round =>
  clear hI
  obtain ⟨q,f,hf,hq,hp,hk,hb1,hb⟩:=hrel
  have hleft:=Lh hp.left
  obtain ⟨A1,c1,C1⟩:=hp.words1
  by_cases h0:q.words=[]
  ·have e0:R=some q.out:=by rw [<- hq];cases f <;> simp [ka,h0]
   have hl0:q.words.length=0:=by rw [h0];rfl
   rw [hl0] at C1
   obtain ⟨A2,c2,C2,ho⟩:=hp.out2
   replace e0:=Lh e0
   clear hq hk hl0 h0
   go_wp2
   go_ret2
   rw [e0.out]
   exact ⟨hb,A2,c2,rfl,qt ho (by omega)⟩
  ·have hpos:0<q.words.length:=List.length_pos_iff.2 h0
   obtain ⟨f',rfl⟩ : ∃ f',f=f'+1:=⟨f-1,by omega⟩
   have hgt:decide ((0:Int)<q.words.length)=true:=decide_eq_true (by omega)
   have HP:=Lh (part_ w1 q w1.heap.size b1 _ hE'.out hSt'.out hb1 hp hk.1)
   rw [ka,if_neg h0] at hq
   cases hpt:va q with
   | none =>
    rw [hpt] at hq HP
    have e0:=Lh hq.symm
    clear hq hk hp hpos hgt hpt
    have hb1':=Lh hb1
    have hb':=Lh hb
    clear hb hb1
    have hpos:(0:Int)<q.words.length:=by have:=List.length_pos_iff.2 h0;omega
    go_wp2_with (go_at_call 148;refine HP.out.mono ?_;rintro e w5 ⟨hb5,rfl⟩)
    go_ret2
    rw [e0.out]
    exact ⟨hb'.out.trans (hb5.mono hsz1),rfl⟩
   | some q' =>
    rw [hpt] at hq HP
    have hless:=qcs hpt
    have hk':=hk.part hpt
    have hqq:=Lh hq
    have hb1':=Lh hb1
    have hb':=Lh hb
    have hk2:=Lh hk'
    clear hq hk hp hpos hgt hpt hk' hb hb1
    have hpos:(0:Int)<q.words.length:=by have:=List.length_pos_iff.2 h0;omega
    go_wp2_with (go_at_call 148;refine HP.out.mono ?_;rintro e w5 ⟨hb5,rfl,hp5⟩)
    exact ⟨⟨q',f',by omega,hqq.out,hp5,hk2.out,hb1'.out.trans hb5,hb'.out.trans (hb5.mono hsz1)⟩,by rw [hp5.left,hleft.out];exact hless⟩
theorem fs_word {l:List ByteArray} {k:Nat} (hk:k<l.length) (h:l[k]=vD):zx false (l.drop k)=(zx false (l.drop (k+2))).map (· + 2):=by
 rw [List.drop_eq_getElem_cons hk]
 show (if l[k]=vD then (zx true (l.drop (k+1))).map (· + 1) else _)=_
 rw [if_pos h]
 by_cases h2:k+1<l.length
 ·rw [List.drop_eq_getElem_cons h2]
  show Option.map (· + 1) (Option.map (· + 1) (zx false (l.drop (k+1+1))))=_
  rw [Option.map_map]
  rfl
 ·rw [List.drop_of_length_le (by omega),List.drop_of_length_le (by omega)]
  rfl
theorem fs_stop {l:List ByteArray} {k:Nat} (hk:k<l.length) (h:l[k]=vF):zx false (l.drop k)=some 0:=by
 rw [List.drop_eq_getElem_cons hk]
 show (if l[k]=vD then _ else if l[k]=vF then some 0 else _)=_
 rw [if_neg (by rw [h];decide),if_pos h]
theorem fs_else {l:List ByteArray} {k:Nat} (hk:k<l.length) (h:l[k]≠vD) (h2:l[k]≠vF):zx false (l.drop k)=(zx false (l.drop (k+1))).map (· + 1):=by
 rw [List.drop_eq_getElem_cons hk]
 show (if l[k]=vD then _ else if l[k]=vF then some 0 else (zx false (l.drop (k+1))).map (· + 1))=_
 rw [if_neg h,if_neg h2]
theorem is_word {a:ByteArray} (h:a=vD):(a.toList==[119,111,114,100])=true:=(qct (b:=vD) rfl).trans (decide_eq_true h)
theorem qit {a:ByteArray} (h:a≠vD):(a.toList==[119,111,114,100])=false:=(qct (b:=vD) rfl).trans (decide_eq_false h)
theorem is_stop {a:ByteArray} (h:a=vF):(a.toList==[115,116,111,112])=true:=(qct (b:=vF) rfl).trans (decide_eq_true h)
theorem no_stop {a:ByteArray} (h:a≠vF):(a.toList==[115,116,111,112])=false:=(qct (b:=vF) rfl).trans (decide_eq_false h)
def qaF (l:List ByteArray) (o:Option Nat):Option (List Gl × List ByteArray):=o.bind fun i=>match kC (l.take i) with
 | some (g::gs)=>some (g::gs,l.drop (i+1))
 | _=>none
theorem qka (l:List ByteArray):qae l=qaF l (zx false l):=rfl
def TRet (w:World) (B:Nat) (r:Option (List Gl × List ByteArray)) (e:Ending) (w':World):Prop:=∃ A G c v,e = .returned (.tuple #[.slice A (List.length G) c,v])/\w'.ownsRow w.heap.size 86 3 (.slice A G.length c) G.length (qi G)/\RV w' B (r.map (·.2)) v/\Below w.heap.size w w'/\(r.map (·.1)).getD []=G
theorem utext_ (r:Option (List ByteArray)) (v:Value) (B:Nat) (w:World) (h:RV w B r v) (hB:B<=w.heap.size) (hl : ∀ l,r=some l->l.length<=400000) (hs:Sp w) (hu:U8 w) (hy:Sty w) :
  Calls prog 105 #[v] w (TRet w B (r.bind qae)):=by
 obtain ⟨A,n,c,l,bad,rfl,hW,rfl⟩:=h
 obtain ⟨R,hR⟩ : ∃ x,x=(y7 bad l).bind qae:=⟨_,rfl⟩
 rw [<- hR]
 have hX:RX w B bad l ((w.alloc (.cells #[.slice A n c,.bool bad] 92)).alloc (.cells #[.slice none 0 0,.bool false] 92)) :=
  ⟨A,n,c,hW,Blk.alloc (Blk.new w _ _) _,Blk.new_ (by simp),((Below.refl _ _).alloc (Nat.le_refl _) _).alloc (by simp) _⟩
 clear hW
 cases bad with
 | true =>
  have HE:Hid (R=none):=Lh hR
  clear hR hl hs hu hy
  go_enter func105,ntmps105
  go_upto_region 1 with fail
  refine qa (RX w B true l) hX ?_
  clear hX
  intro X hX
  go_wp2
  go_loopw [4] (fun x wr=>x = .int .i64 0/\wr=X) (fun x _=>0)
  case atStart=>exact ⟨rfl,rfl⟩
  case round =>
   obtain ⟨rfl,rfl⟩:=hrel
   obtain ⟨A',n',c',hW,B1,B2,tx⟩:=id hX
   have z1:=B2.lt
   have z0:=B1.lt
   have c0:=B1.cell 0
   have c1:=B1.cell 1
   have d0:=B2.cell 0
   have d1:=B2.cell 1
   have f0:=B1.frozen 0
   have f1:=B1.frozen 1
   have g0:=B2.frozen 0
   have g1:=B2.frozen 1
   simp only [La,Lb,Lc] at c0 c1 d0 d1
   have C2:=B2
   by_cases hn:n'=0
   ·subst hn
    go_wp2
    have Rr:=vd (a':=.slice none 0 0) (b':=.bool true) C2;have tz:=(tx.setCell (p:=⟨w.heap.size+1,0,none⟩) (by show w.heap.size<=w.heap.size+1;omega) (.slice none 0 0)).setCell (p:=⟨w.heap.size+1,1,none⟩) (by show w.heap.size<=w.heap.size+1;omega) (.bool true)
    exact bodyPost_ret (zn rfl _ _ (w.heap.size+1) 92 _ (0,0) _ rfl Rr underlying92 rfl zG) rfl ⟨none,[],0,_,rfl,zY _ _ _ _,by rw [HE.out];exact RV.bad _ B,tz,by rw [HE.out];rfl⟩
   ·have hn0:(0:Int)<n':=by omega
    clear hn
    go_wp2
    have Rr:=vd (a':=.slice none 0 0) (b':=.bool true) C2;have tz:=(tx.setCell (p:=⟨w.heap.size+1,0,none⟩) (by show w.heap.size<=w.heap.size+1;omega) (.slice none 0 0)).setCell (p:=⟨w.heap.size+1,1,none⟩) (by show w.heap.size<=w.heap.size+1;omega) (.bool true)
    exact bodyPost_ret (zn rfl _ _ (w.heap.size+1) 92 _ (0,0) _ rfl Rr underlying92 rfl zG) rfl ⟨none,[],0,_,rfl,zY _ _ _ _,by rw [HE.out];exact RV.bad _ B,tz,by rw [HE.out];rfl⟩
 | false =>
  have hl':=hl l rfl
  have HS:Hid (Sp w/\U8 w/\Sty w):=Lh ⟨hs,hu,hy⟩
  have H0:Hid (R=qaF l ((zx false (l.drop 0)).map (· + 0))):=Lh (by rw [hR];show qae l=_;rw [qka];simp)
  clear hR hl hs hu hy
  go_enter func105,ntmps105
  go_upto_region 1 with fail
  refine qa (RX w B false l) hX ?_
  clear hX
  intro X hX
  go_wp2
  go_loopw [4] (fun x wr=>∃ (k:Nat),k<=l.length+1/\x = .int .i64 k/\RX w B false l wr/\Hid (R=qaF l ((zx false (l.drop k)).map (· + k)))) (fun x _=>l.length+1-(intOf x).toNat)
  case atStart=>exact ⟨0,by omega,rfl,hX,H0⟩
  case round =>
   clear hX H0
   obtain ⟨k,hk,rfl,hX,HK⟩:=hrel
   obtain ⟨A',n',c',hW,B1,B2,tx⟩:=id hX
   have z1:=B2.lt
   have z0:=B1.lt
   have c0:=B1.cell 0
   have c1:=B1.cell 1
   have d0:=B2.cell 0
   have d1:=B2.cell 1
   have f0:=B1.frozen 0
   have f1:=B1.frozen 1
   have g0:=B2.frozen 0
   have g1:=B2.frozen 1
   simp only [La,Lb,Lc] at c0 c1 d0 d1
   have hln:=hW.len
   by_cases hlt:k<n'
   ·have hkl:k<l.length:=by omega
    have hki:(k:Int)<n':=by omega
    obtain ⟨bw,ow,rfl,hbw,hcw⟩:=hW.rd.at_ hlt
    rw [yM _ _ hkl] at hcw
    replace hcw:=(tx.cell (p:=⟨bw,ow+k,none⟩) (by show bw<w.heap.size;omega)).trans hcw
    by_cases hwd:l[k]=vD
    ·have HK2:Hid (R=qaF l ((zx false (l.drop (k+2))).map (· + (k+2)))):=Lh (by rw [HK.out,fs_word hkl hwd,Option.map_map];congr 2;funext i;show i+2+k=i+(k+2);omega)
     have q1:(l[k].toList==[119,111,114,100])=true:=is_word hwd
     generalize l[k]=s at *
     clear HK hwd hW
     go_wp2
     exact ⟨⟨k+2,by omega,by go_num,hX,HK2⟩,by simp [intOf];omega⟩
    ·by_cases hst:l[k]=vF
     ·have HK2:Hid (R=qaF l (some k)):=Lh (by rw [HK.out,fs_stop hkl hst];simp)
      have q1:(l[k].toList==[119,111,114,100])=false:=qit hwd
      have q2:(l[k].toList==[115,116,111,112])=true:=is_stop hst
      generalize l[k]=s at *
      have hcap:=hW.cap
      have hmax:=hW.max
      have hcut:=hW.cut (k:=k+1) (by omega)
      have htk:Rd wr wr.heap.size 1 (some ⟨bw,ow,none⟩) k (sv (l.take k)):=by
       have:=((hW.rd.below (tx.mono hB)).more (Nat.le_trans hB tx.size)).take (k:=k) (by omega)
       rwa [show (sv l).take (k * 1)=sv (l.take k) by simp [sv]] at this
      have HG:=Lh (glyphs_ (l.take k) (some ⟨bw,ow,none⟩) k c' wr (by rw [List.length_take];omega) (by omega) hmax htk (fun s hs=>hW.sz s (List.mem_of_mem_take hs)) (by rw [List.length_take];omega) (HS.out.1.below tx (Nat.le_refl _)) (HS.out.2.1.below tx) (HS.out.2.2.below tx (Nat.le_refl _)))
      have i1:(k:Int)<=c':=by omega
      have i2:(k:Int)+1<=n':=by omega
      have i3:(k:Int)+1<=c':=by omega
      have i4:(c':Int)<=9223372036854775807:=by unfold maxLen at hmax;omega
      have i0:(0:Int)<=k:=by omega
      have HW:=Lh hW
      clear HK hst hwd htk hmax hW
      have HC:=hcut
      cases hg:kC (l.take k) with
      | none =>
       have HE:Hid (R=none):=Lh (by rw [HK2.out];simp [qaF,hg])
       rw [hg] at HG
       clear HK2 hg hcut HC
       go_wp2_with (go_at_call 129;refine HG.out.mono ?_;rintro e w1 ⟨hb1,rfl⟩;clear c0 c1 d0 d1 f0 f1 g0 g1;have C2:=B2.below hb1 B2.lt;have d0:=C2.cell 0;have d1:=C2.cell 1;have g0:=C2.frozen 0;have g1:=C2.frozen 1;simp only [La,Lb,Lc] at d0 d1)
       have Rr:=vd (a':=.slice none 0 0) (b':=.bool true) C2;have tz:=((tx.trans (hb1.mono (by omega))).setCell (p:=⟨w.heap.size+1,0,none⟩) (by show w.heap.size<=w.heap.size+1;omega) (.slice none 0 0)).setCell (p:=⟨w.heap.size+1,1,none⟩) (by show w.heap.size<=w.heap.size+1;omega) (.bool true)
       exact bodyPost_ret (zn rfl _ _ (w.heap.size+1) 92 _ (0,0) _ rfl Rr underlying92 rfl zG) rfl ⟨none,[],0,_,rfl,zY _ _ _ _,by rw [HE.out];exact RV.bad _ B,tz,by rw [HE.out];rfl⟩
      | some G =>
       rw [hg] at HG
       cases G with
       | nil =>
        have HE:Hid (R=none):=Lh (by rw [HK2.out];simp [qaF,hg])
        clear HK2 hg hcut HC
        go_wp2_with (go_at_call 129;refine HG.out.mono ?_;rintro e w1 ⟨hb1,A1,c1',rfl,-⟩;clear c0 c1 d0 d1 f0 f1 g0 g1;have C2:=B2.below hb1 B2.lt;have d0:=C2.cell 0;have d1:=C2.cell 1;have g0:=C2.frozen 0;have g1:=C2.frozen 1;simp only [La,Lb,Lc] at d0 d1)
        have Rr:=vd (a':=.slice none 0 0) (b':=.bool true) C2;have tz:=((tx.trans (hb1.mono (by omega))).setCell (p:=⟨w.heap.size+1,0,none⟩) (by show w.heap.size<=w.heap.size+1;omega) (.slice none 0 0)).setCell (p:=⟨w.heap.size+1,1,none⟩) (by show w.heap.size<=w.heap.size+1;omega) (.bool true)
        exact bodyPost_ret (zn rfl _ _ (w.heap.size+1) 92 _ (0,0) _ rfl Rr underlying92 rfl zG) rfl ⟨none,[],0,_,rfl,zY _ _ _ _,by rw [HE.out];exact RV.bad _ B,tz,by rw [HE.out];rfl⟩
       | cons g0' gs =>
        have HE:Hid (R=some (g0'::gs,l.drop (k+1))):=Lh (by rw [HK2.out];simp [qaF,hg])
        have hgl : ¬ ((g0'::gs).length:Int)=0:=by simp;omega
        have hgl2:(((g0'::gs).length:Int)==0)=false:=beq_eq_false_iff_ne.2 hgl
        clear HK2 hg hcut
        generalize hGG:g0'::gs=GG at *
        clear hGG hgl
        go_upto_region 11 with (go_at_call 129;refine HG.out.mono ?_;rintro e w1 ⟨hb1,A1,c1',rfl,hown1⟩;clear c0 c1 d0 d1 f0 f1 g0 g1;have C1:=B1.below hb1 B1.lt;have C2:=B2.below hb1 B2.lt;have c0:=C1.cell 0;have d0:=C2.cell 0;have d1:=C2.cell 1;have g0:=C2.frozen 0;have g1:=C2.frozen 1;simp only [La,Lb,Lc] at c0 d0 d1)
        have tx1:=tx.trans (hb1.mono (by omega))
        have hwr:IntKind.i64.wrap ((k:Int)+1)=(k:Int)+1:=by rw [IntKind.wrap_i64];omega
        have i5:(0:Int)<=(k:Int)+1:=by omega
        simp only [Nat.mul_one] at HC
        by_cases hck:c'=k+1
        ·rw [if_pos hck] at HC
         subst hck
         have hz2:n'=k+1:=by omega
         subst hz2
         rw [Nat.sub_self] at HC
         have Rr:=vd (a':=.slice (some ⟨bw,ow,none⟩) 0 0) (b':=.bool false) C2;have tz:=(tx1.setCell (p:=⟨w.heap.size+1,0,none⟩) (by show w.heap.size<=w.heap.size+1;omega) (.slice (some ⟨bw,ow,none⟩) 0 0)).setCell (p:=⟨w.heap.size+1,1,none⟩) (by show w.heap.size<=w.heap.size+1;omega) (.bool false)
         have Rd:=Rr.drew
         have td:=tz.drew
         go_region_law (fail)
         all_goals go_wp2
         all_goals exact bodyPost_ret (zn rfl _ _ (w.heap.size+1) 92 _ (0,0) _ rfl Rd underlying92 rfl zG) rfl ⟨A1,GG,c1',_,rfl,qt (base:=wr.heap.size) (qb (zZ (zZ hown1 (by show w.heap.size+1<wr.heap.size;omega) _) (by show w.heap.size+1<wr.heap.size;omega) _) (Below.refl _ _).drew) (by omega),by rw [HE.out];exact ⟨_,_,_,_,false,rfl,HC.below (td.mono hB),rfl⟩,td,by rw [HE.out];rfl⟩
        ·rw [if_neg hck] at HC
         have Rr:=vd (a':=.slice (some ⟨bw,ow+(k+1),none⟩) (n'-(k+1)) (c'-(k+1))) (b':=.bool false) C2;have tz:=(tx1.setCell (p:=⟨w.heap.size+1,0,none⟩) (by show w.heap.size<=w.heap.size+1;omega) (.slice (some ⟨bw,ow+(k+1),none⟩) (n'-(k+1)) (c'-(k+1)))).setCell (p:=⟨w.heap.size+1,1,none⟩) (by show w.heap.size<=w.heap.size+1;omega) (.bool false)
         have Rd:=Rr.drew
         have td:=tz.drew
         go_region_law (fail)
         all_goals go_wp2
         all_goals exact bodyPost_ret (zn rfl _ _ (w.heap.size+1) 92 _ (0,0) _ rfl Rd underlying92 rfl zG) rfl ⟨A1,GG,c1',_,rfl,qt (base:=wr.heap.size) (qb (zZ (zZ hown1 (by show w.heap.size+1<wr.heap.size;omega) _) (by show w.heap.size+1<wr.heap.size;omega) _) (Below.refl _ _).drew) (by omega),by rw [HE.out];exact ⟨_,_,_,_,false,rfl,HC.below (td.mono hB),rfl⟩,td,by rw [HE.out];rfl⟩
     ·have HK2:Hid (R=qaF l ((zx false (l.drop (k+1))).map (· + (k+1)))):=Lh (by rw [HK.out,fs_else hkl hwd hst,Option.map_map];congr 2;funext i;show i+1+k=i+(k+1);omega)
      have q1:(l[k].toList==[119,111,114,100])=false:=qit hwd
      have q2:(l[k].toList==[115,116,111,112])=false:=no_stop hst
      generalize l[k]=s at *
      clear HK hwd hst hW
      go_wp2
      exact ⟨⟨k+1,by omega,by go_num,hX,HK2⟩,by simp [intOf];omega⟩
   ·have HE:Hid (R=none):=Lh (by rw [HK.out,List.drop_of_length_le (by omega)];rfl)
    have hki : ¬ (k:Int)<n':=by omega
    have C2:=B2
    clear HK
    go_wp2
    have Rr:=vd (a':=.slice none 0 0) (b':=.bool true) C2;have tz:=(tx.setCell (p:=⟨w.heap.size+1,0,none⟩) (by show w.heap.size<=w.heap.size+1;omega) (.slice none 0 0)).setCell (p:=⟨w.heap.size+1,1,none⟩) (by show w.heap.size<=w.heap.size+1;omega) (.bool true)
    exact bodyPost_ret (zn rfl _ _ (w.heap.size+1) 92 _ (0,0) _ rfl Rr underlying92 rfl zG) rfl ⟨none,[],0,_,rfl,zY _ _ _ _,by rw [HE.out];exact RV.bad _ B,tz,by rw [HE.out];rfl⟩
theorem vN {X:World} {g:Nat} {t:TypeId} {a b:Value} (h:Blk X g t #[a,b]):X.cell? ⟨g,0,none⟩=some a/\X.cell? ⟨g,1,none⟩=some b/\X.frozen? ⟨g,0,none⟩=false/\X.frozen? ⟨g,1,none⟩=false:=⟨h.cell 0,h.cell 1,h.frozen 0,h.frozen 1⟩
theorem qV {X:World} {g:Nat} {t:TypeId} {c:Chg} {A:Option Addr} {cap:Nat} (h:Blk X g t (yG c A cap)):X.cell? ⟨g,0,none⟩=some (.int .i64 c.kind)/\X.cell? ⟨g,1,none⟩=some (.int .i64 c.row)/\X.cell? ⟨g,2,none⟩=some (.int .i64 c.col)/\X.cell? ⟨g,3,none⟩=some (.int .i64 c.count)/\X.cell? ⟨g,4,none⟩=some (.int .i64 c.til)/\X.cell? ⟨g,5,none⟩=some (.slice A c.glyphs.length cap)/\X.frozen? ⟨g,0,none⟩=false/\X.frozen? ⟨g,1,none⟩=false/\X.frozen? ⟨g,2,none⟩=false/\X.frozen? ⟨g,3,none⟩=false/\X.frozen? ⟨g,4,none⟩=false/\X.frozen? ⟨g,5,none⟩=false :=
 ⟨h.cell 0,h.cell 1,h.cell 2,h.cell 3,h.cell 4,h.cell 5,h.frozen 0,h.frozen 1,h.frozen 2,h.frozen 3,h.frozen 4,h.frozen 5⟩
theorem CS.turn {w X:World} {B:Nat} {r r':Option (List ByteArray)} {c:Chg} {Ag:Option Addr} {cap:Nat} {A:Option Addr} {n cc:Nat} {l:List ByteArray} {bad:Bool} (h:CS w B r c Ag cap X) (hB:B<=w.heap.size) (hW:WdR X B l A n cc) (hr:r'=y7 bad l) :
  CS w B r' c Ag cap ((X.setCell ⟨w.heap.size,0,none⟩ (.slice A n cc)).setCell ⟨w.heap.size,1,none⟩ (.bool bad)):=by
 obtain ⟨A0,n0,cc0,l0,bad0,h1,h2,h3,h4,h5,h6,h7,h8⟩:=h
 exact ⟨A,n,cc,l,bad,hr,hW.below (((Below.refl B X).setCell (p:=⟨w.heap.size,0,none⟩) hB _).setCell (p:=⟨w.heap.size,1,none⟩) hB _),vd h3,(h4.far (p:=⟨w.heap.size,0,none⟩) (by show w.heap.size+1≠w.heap.size;omega) _).far (p:=⟨w.heap.size,1,none⟩) (by show w.heap.size+1≠w.heap.size;omega) _,(h5.far (p:=⟨w.heap.size,0,none⟩) (by show w.heap.size+2≠w.heap.size;omega) _).far (p:=⟨w.heap.size,1,none⟩) (by show w.heap.size+2≠w.heap.size;omega) _,(h6.far (p:=⟨w.heap.size,0,none⟩) (by show w.heap.size+3≠w.heap.size;omega) _).far (p:=⟨w.heap.size,1,none⟩) (by show w.heap.size+3≠w.heap.size;omega) _,(h7.setCell (p:=⟨w.heap.size,0,none⟩) (Nat.le_refl _) _).setCell (p:=⟨w.heap.size,1,none⟩) (Nat.le_refl _) _,zZ (zZ h8 (p:=⟨w.heap.size,0,none⟩) (by show w.heap.size<_;omega) _) (p:=⟨w.heap.size,1,none⟩) (by show w.heap.size<_;omega) _⟩
theorem CS.spoil {w X:World} {B:Nat} {r:Option (List ByteArray)} {c:Chg} {Ag:Option Addr} {cap:Nat} (h:CS w B r c Ag cap X) (hB:B<=w.heap.size):CS w B none c Ag cap (X.setCell ⟨w.heap.size,1,none⟩ (.bool true)):=by
 obtain ⟨A0,n0,cc0,l0,bad0,h1,h2,h3,h4,h5,h6,h7,h8⟩:=h
 refine ⟨A0,n0,cc0,l0,true,rfl,h2.below ((Below.refl B X).setCell (p:=⟨w.heap.size,1,none⟩) hB _),?_,h4.far (p:=⟨w.heap.size,1,none⟩) (by show w.heap.size+1≠w.heap.size;omega) _,h5.far (p:=⟨w.heap.size,1,none⟩) (by show w.heap.size+2≠w.heap.size;omega) _,h6.far (p:=⟨w.heap.size,1,none⟩) (by show w.heap.size+3≠w.heap.size;omega) _,h7.setCell (p:=⟨w.heap.size,1,none⟩) (Nat.le_refl _) _,zZ h8 (p:=⟨w.heap.size,1,none⟩) (by show w.heap.size<_;omega) _⟩
 have:=h3.set_ 1 (.bool true)
 simpa using this
def CRet (w:World) (B:Nat) (c:Chg) (r:Option (List ByteArray)) (e:Ending) (w':World):Prop:=∃ Ag cap v,e = .returned (.tuple #[.agg (yG c Ag cap),v])/\RV w' B r v/\Below w.heap.size w w'/\w'.ownsRow w.heap.size 86 3 (.slice Ag c.glyphs.length cap) c.glyphs.length (qi c.glyphs)
theorem jg {P:Program} {fn:Func} {p q:Tmp} {ty ty2:TypeId} (h:fn.results = #[.cell p ty,.cell q ty2]) (tmps:Array Value) (w:World) (g g2:Nat) (t t2:TypeId) (cs cs2:Array Value) (fr fr2:Nat × Nat) (d d2:TypeDesc)
  (hp:tmps.getD p undef = .pointer (some ⟨g,0,none⟩)) (hg:w.heap[g]? = some (.cells cs t fr))
  (hu:P.underlying ty=some d) (hd:(match d with | .struct _ | .array _ _=>true | _=>false)=true) (hi:(P.info? ty).map (·.size)=some cs.size)
  (hp2:tmps.getD q undef = .pointer (some ⟨g2,0,none⟩)) (hg2:w.heap[g2]? = some (.cells cs2 t2 fr2))
  (hu2:P.underlying ty2=some d2) (hd2:(match d2 with | .struct _ | .array _ _=>true | _=>false)=true) (hi2:(P.info? ty2).map (·.size)=some cs2.size) :
  (results fn tmps).run P w = .ok (.tuple #[.agg cs,.agg cs2]) w:=by
 simp only [results,h]
 have hp':tmps[p]?.getD undef = .pointer (some ⟨g,0,none⟩):=by simpa using hp
 have hq':tmps[q]?.getD undef = .pointer (some ⟨g2,0,none⟩):=by simpa using hp2
 simp [Sem.run_bind,Result.andThen,hp',hq',asAddr,run_loadVar_row w g t ty cs fr d hg hu hd hi,run_loadVar_row w g2 t2 ty2 cs2 fr2 d2 hg2 hu2 hd2 hi2]
theorem yo:(prog.info? 64).map (fun x=>x.size)=some 6:=by kernel_rfl
theorem blk_set6 {X:World} {g:Nat} {A:Option Addr} {cap:Nat} {c0 c:Chg} {A0:Option Addr} {cap0:Nat} (h:Blk X g 64 (yG c0 A0 cap0)):Blk ((((((X.setCell ⟨g,0,none⟩ (.int .i64 c.kind)).setCell ⟨g,1,none⟩ (.int .i64 c.row)).setCell ⟨g,2,none⟩ (.int .i64 c.col)).setCell ⟨g,3,none⟩ (.int .i64 c.count)).setCell ⟨g,4,none⟩ (.int .i64 c.til)).setCell ⟨g,5,none⟩ (.slice A c.glyphs.length cap)) g 64 (yG c A cap):=by
 exact (((((h.set_ 0 _).set_ 1 _).set_ 2 _).set_ 3 _).set_ 4 _).set_ 5 _
theorem qhB {X:World} {g k:Nat} (hk:k<=g) (a b c d e f:Value):Below k X ((((((X.setCell ⟨g,0,none⟩ a).setCell ⟨g,1,none⟩ b).setCell ⟨g,2,none⟩ c).setCell ⟨g,3,none⟩ d).setCell ⟨g,4,none⟩ e).setCell ⟨g,5,none⟩ f) :=
 ((((((Below.refl k X).setCell (p:=⟨g,0,none⟩) hk a).setCell (p:=⟨g,1,none⟩) hk b).setCell (p:=⟨g,2,none⟩) hk c).setCell (p:=⟨g,3,none⟩) hk d).setCell (p:=⟨g,4,none⟩) hk e).setCell (p:=⟨g,5,none⟩) hk f
def qc3 (w X:World) (c:Chg) (Ag:Option Addr) (cap:Nat) (A:Option Addr) (n cc:Nat) (bad:Bool):World :=
 (((((((X.setCell ⟨w.heap.size+1,0,none⟩ (.int .i64 c.kind)).setCell ⟨w.heap.size+1,1,none⟩ (.int .i64 c.row)).setCell ⟨w.heap.size+1,2,none⟩ (.int .i64 c.col)).setCell ⟨w.heap.size+1,3,none⟩ (.int .i64 c.count)).setCell ⟨w.heap.size+1,4,none⟩ (.int .i64 c.til)).setCell ⟨w.heap.size+1,5,none⟩ (.slice Ag c.glyphs.length cap)).setCell ⟨w.heap.size+2,0,none⟩ (.slice A n cc)).setCell ⟨w.heap.size+2,1,none⟩ (.bool bad)
theorem fin_ {w X:World} {B:Nat} {c0:Chg} {A0:Option Addr} {cap0:Nat} {x y:Value} {r:Option (List ByteArray)} {c:Chg} {Ag:Option Addr} {cap:Nat} {A:Option Addr} {n cc:Nat} {l:List ByteArray} {bad:Bool} (hB:B<=w.heap.size) (hr:r=y7 bad l) (hW:WdR X B l A n cc) (R2:Blk X (w.heap.size+1) 64 (yG c0 A0 cap0)) (R3:Blk X (w.heap.size+2) 92 #[x,y]) (tx:Below w.heap.size w X) (hO:X.ownsRow (w.heap.size+4) 86 3 (.slice Ag c.glyphs.length cap) c.glyphs.length (qi c.glyphs)) :
  Blk (qc3 w X c Ag cap A n cc bad) (w.heap.size+1) 64 (yG c Ag cap)/\Blk (qc3 w X c Ag cap A n cc bad) (w.heap.size+2) 92 #[.slice A n cc,.bool bad]/\RV (qc3 w X c Ag cap A n cc bad) B r (.agg #[.slice A n cc,.bool bad])/\Below w.heap.size w (qc3 w X c Ag cap A n cc bad)/\(qc3 w X c Ag cap A n cc bad).ownsRow w.heap.size 86 3 (.slice Ag c.glyphs.length cap) c.glyphs.length (qi c.glyphs):=by
 have b6:=fun k (hk:k<=w.heap.size+1)=>qhB (X:=X) hk (.int .i64 c.kind) (.int .i64 c.row) (.int .i64 c.col) (.int .i64 c.count) (.int .i64 c.til) (.slice Ag c.glyphs.length cap)
 have b8 : ∀ k,k<=w.heap.size+1->Below k X (qc3 w X c Ag cap A n cc bad):=fun k hk=>((b6 k hk).setCell (p:=⟨w.heap.size+2,0,none⟩) (by show k<=w.heap.size+2;omega) _).setCell (p:=⟨w.heap.size+2,1,none⟩) (by show k<=w.heap.size+2;omega) _
 refine ⟨?_,?_,⟨A,n,cc,l,bad,rfl,hW.below (b8 B (by omega)),hr⟩,tx.trans (b8 _ (by omega)),qt (base:=w.heap.size+4) ?_ (by omega)⟩
 ·exact ((blk_set6 R2).far (p:=⟨w.heap.size+2,0,none⟩) (by show w.heap.size+1≠w.heap.size+2;omega) _).far (p:=⟨w.heap.size+2,1,none⟩) (by show w.heap.size+1≠w.heap.size+2;omega) _
 ·have R3':=((((((R3.far (p:=⟨w.heap.size+1,0,none⟩) (by show w.heap.size+2≠w.heap.size+1;omega) (.int .i64 c.kind)).far (p:=⟨w.heap.size+1,1,none⟩) (by show w.heap.size+2≠w.heap.size+1;omega) (.int .i64 c.row)).far (p:=⟨w.heap.size+1,2,none⟩) (by show w.heap.size+2≠w.heap.size+1;omega) (.int .i64 c.col)).far (p:=⟨w.heap.size+1,3,none⟩) (by show w.heap.size+2≠w.heap.size+1;omega) (.int .i64 c.count)).far (p:=⟨w.heap.size+1,4,none⟩) (by show w.heap.size+2≠w.heap.size+1;omega) (.int .i64 c.til)).far (p:=⟨w.heap.size+1,5,none⟩) (by show w.heap.size+2≠w.heap.size+1;omega) (.slice Ag c.glyphs.length cap))
  exact vd R3'
 ·unfold qc3
  iterate 8 refine zZ ?_ (by first | (show w.heap.size+1<_;omega) | (show w.heap.size+2<_;omega)) _
  exact hO
theorem qaV {w X:World} {B:Nat} {c0:Chg} {A0:Option Addr} {cap0:Nat} {x y:Value} {r:Option (List ByteArray)} {c:Chg} {Ag:Option Addr} {cap:Nat} {A:Option Addr} {n cc:Nat} {l:List ByteArray} {bad:Bool} (hB:B<=w.heap.size) (hr:r=y7 bad l) (hW:WdR X B l A n cc) (R2:Blk X (w.heap.size+1) 64 (yG c0 A0 cap0)) (R3:Blk X (w.heap.size+2) 92 #[x,y]) (tx:Below w.heap.size w X) (hO:X.ownsRow (w.heap.size+4) 86 3 (.slice Ag c.glyphs.length cap) c.glyphs.length (qi c.glyphs)) :
  Blk (qc3 w X c Ag cap A n cc bad).drew (w.heap.size+1) 64 (yG c Ag cap)/\Blk (qc3 w X c Ag cap A n cc bad).drew (w.heap.size+2) 92 #[.slice A n cc,.bool bad]/\RV (qc3 w X c Ag cap A n cc bad).drew B r (.agg #[.slice A n cc,.bool bad])/\Below w.heap.size w (qc3 w X c Ag cap A n cc bad).drew/\(qc3 w X c Ag cap A n cc bad).drew.ownsRow w.heap.size 86 3 (.slice Ag c.glyphs.length cap) c.glyphs.length (qi c.glyphs):=by
 obtain ⟨h1,h2,h3,h4,h5⟩:=fin_ hB hr hW R2 R3 tx hO
 exact ⟨h1.drew,h2.drew,h3.below (Below.refl _ _).drew,h4.drew,qb h5 (Below.refl _ _).drew⟩
def AftE (X:World) (B:Nat) (x:Int × Option (List ByteArray)) (e:Ending) (w':World):Prop:=∃ A n c l bad,e = .returned (.tuple #[.int .i64 x.1,.agg #[.slice A n c,.bool bad]])/\WdR w' B l A n c/\x.2=y7 bad l/\Below X.heap.size X w'
theorem uaft1 (r:Option (List ByteArray)) (v:Value) (s:ByteArray) (B:Nat) (X:World) (h:RV X B r v) (hB:B<=X.heap.size):Calls prog 73 #[v,.slice (some ⟨X.heap.size,0,none⟩) 1 1] (X.alloc (.cells #[.string s] 9)) (AftE X B (qN (r.bind (skO s)))):=by
 have ha:Below X.heap.size X (X.alloc (.cells #[.string s] 9)):=(Below.refl _ _).alloc (Nat.le_refl _) _
 have hz:(X.alloc (.cells #[.string s] 9)).heap.size=X.heap.size+1:=by simp
 refine (qh6 r v [s] (some ⟨X.heap.size,0,none⟩) 1 1 B _ (h.below (ha.mono hB)) (by omega) rfl (by decide) ?_).mono ?_
 ·rw [hz]
  exact qe (xs:=[.string s]) rfl rfl
 ·rintro e w' ⟨v',rfl,⟨A,n,c,l,bad,rfl,hW,hr⟩,hb⟩
  exact ⟨A,n,c,l,bad,rfl,hW,hr,ha.trans (hb.mono (by omega))⟩
theorem uaft2 (r:Option (List ByteArray)) (v:Value) (s t:ByteArray) (B:Nat) (X:World) (h:RV X B r v) (hB:B<=X.heap.size):Calls prog 73 #[v,.slice (some ⟨X.heap.size,0,none⟩) 2 2] (X.alloc (.cells #[.string s,.string t] 9)) (AftE X B (qN ((r.bind (skO s)).bind (skO t)))):=by
 have ha:Below X.heap.size X (X.alloc (.cells #[.string s,.string t] 9)):=(Below.refl _ _).alloc (Nat.le_refl _) _
 have hz:(X.alloc (.cells #[.string s,.string t] 9)).heap.size=X.heap.size+1:=by simp
 refine (qh6 r v [s,t] (some ⟨X.heap.size,0,none⟩) 2 2 B _ (h.below (ha.mono hB)) (by omega) rfl (by decide) ?_).mono ?_
 ·rw [hz]
  exact qe (xs:=[.string s,.string t]) rfl rfl
 ·rintro e w' ⟨v',rfl,⟨A,n,c,l,bad,rfl,hW,hr⟩,hb⟩
  exact ⟨A,n,c,l,bad,rfl,hW,hr,ha.trans (hb.mono (by omega))⟩
def SkpE (X:World) (B:Nat) (r:Option (List ByteArray)) (e:Ending) (w':World):Prop:=∃ A n c l bad,e = .returned (.agg #[.slice A n c,.bool bad])/\WdR w' B l A n c/\r=y7 bad l/\Below X.heap.size X w'
theorem qev (r:Option (List ByteArray)) (v:Value) (s:ByteArray) (B:Nat) (X:World) (h:RV X B r v) (hB:B<=X.heap.size):Calls prog 74 #[v,.slice (some ⟨X.heap.size,0,none⟩) 1 1] (X.alloc (.cells #[.string s] 9)) (SkpE X B (r.bind (skO s))):=by
 have ha:Below X.heap.size X (X.alloc (.cells #[.string s] 9)):=(Below.refl _ _).alloc (Nat.le_refl _) _
 have hz:(X.alloc (.cells #[.string s] 9)).heap.size=X.heap.size+1:=by simp
 refine (uskip_ r v [s] (some ⟨X.heap.size,0,none⟩) 1 1 B _ (h.below (ha.mono hB)) (by omega) rfl (by decide) ?_).mono ?_
 ·rw [hz]
  exact qe (xs:=[.string s]) rfl rfl
 ·rintro e w' ⟨v',rfl,hv,hb⟩
  obtain ⟨A,n,c,l,bad,rfl,hW,hr⟩:=hv.below (hb.mono (by omega))
  exact ⟨A,n,c,l,bad,rfl,hW,hr,ha.trans (hb.mono (by omega))⟩
def AftC (w:World) (B:Nat) (c:Chg) (i:Nat) (x:Int × Option (List ByteArray)) (A':Option Addr) (n' c':Nat) (bad':Bool) (e:Ending) (w1:World):Prop:=∃ A1 n1 cc bad v,e = .returned (.tuple #[.int .i64 x.1,.agg #[.slice A1 n1 cc,.bool bad]]) /\
 w1.cell? ⟨w.heap.size,0,none⟩=some (.slice A' n' c')/\w1.cell? ⟨w.heap.size,1,none⟩=some (.bool bad')/\w1.frozen? ⟨w.heap.size,0,none⟩=false/\w1.frozen? ⟨w.heap.size,1,none⟩=false/\w1.cell? ⟨w.heap.size+3,i,none⟩=some (.int .i64 v)/\w1.frozen? ⟨w.heap.size+3,i,none⟩=false /\
 CS w B x.2 (c.put i x.1) none 0 (((w1.setCell ⟨w.heap.size+3,i,none⟩ (.int .i64 x.1)).setCell ⟨w.heap.size,0,none⟩ (.slice A1 n1 cc)).setCell ⟨w.heap.size,1,none⟩ (.bool bad))
theorem AftC.of {w X w1:World} {B:Nat} {r:Option (List ByteArray)} {c:Chg} {i:Nat} {x:Int × Option (List ByteArray)} {A':Option Addr} {n' c':Nat} {bad':Bool} {e:Ending} (hX:CS w B r c none 0 X) (hB:B<=w.heap.size) (R1:Blk X w.heap.size 92 #[.slice A' n' c',.bool bad']) (R4:Blk X (w.heap.size+3) 64 (yG c none 0)) (hi:i<5) (h:AftE X B x e w1):AftC w B c i x A' n' c' bad' e w1:=by
 obtain ⟨A1,n1,cc1,l1,bad1,rfl,hW1,hr1,hb1⟩:=h
 have hY:=hX.below hB hb1
 have h2:=vN (R1.below hb1 R1.lt)
 have K:=R4.below hb1 R4.lt
 have h3:=qV K
 obtain ⟨v,hv⟩ : ∃ v,w1.cell? ⟨w.heap.size+3,i,none⟩=some (.int .i64 v):=by
  match i,hi with
  | 0,_=>exact ⟨_,h3.1⟩
  | 1,_=>exact ⟨_,h3.2.1⟩
  | 2,_=>exact ⟨_,h3.2.2.1⟩
  | 3,_=>exact ⟨_,h3.2.2.2.1⟩
  | 4,_=>exact ⟨_,h3.2.2.2.2.1⟩
 exact ⟨A1,n1,cc1,bad1,v,rfl,h2.1,h2.2.1,h2.2.2.1,h2.2.2.2,hv,K.frozen i,(hY.set_ hB i x.1 hi).turn hB (hW1.below ((Below.refl B w1).setCell (p:=⟨w.heap.size+3,i,none⟩) (by show B<=w.heap.size+3;omega) (.int .i64 x.1))) hr1⟩
theorem CS.af_ {w X:World} {B:Nat} {r:Option (List ByteArray)} {c:Chg} (hX:CS w B r c none 0 X) (hB:B<=w.heap.size) (s:ByteArray) (i:Nat) (hi:i<5) {x:Int × Option (List ByteArray)} (hx:Hid (x=qN (r.bind (skO s)))) :
  ∃ A' n' c' bad',X.cell? ⟨w.heap.size,0,none⟩=some (.slice A' n' c')/\X.cell? ⟨w.heap.size,1,none⟩=some (.bool bad')/\Calls prog 73 #[.agg #[.slice A' n' c',.bool bad'],.slice (some ⟨X.heap.size,0,none⟩) 1 1] (X.alloc (.cells #[.string s] 9)) (AftC w B c i x A' n' c' bad'):=by
 obtain ⟨A',n',c',l',bad',hr',hW,R1,R2,R3,R4,tx,hO⟩:=id hX
 have h1:=vN R1
 refine ⟨A',n',c',bad',h1.1,h1.2.1,(uaft1 r _ s B X ⟨A',n',c',l',bad',rfl,hW,hr'⟩ (Nat.le_trans hB tx.size)).mono ?_⟩
 rw [<- hx.out]
 exact fun e w1 h=>AftC.of hX hB R1 R4 hi h
theorem CS.af2_ {w X:World} {B:Nat} {r:Option (List ByteArray)} {c:Chg} (hX:CS w B r c none 0 X) (hB:B<=w.heap.size) (s t:ByteArray) (i:Nat) (hi:i<5) {x:Int × Option (List ByteArray)} (hx:Hid (x=qN ((r.bind (skO s)).bind (skO t)))) :
  ∃ A' n' c' bad',X.cell? ⟨w.heap.size,0,none⟩=some (.slice A' n' c')/\X.cell? ⟨w.heap.size,1,none⟩=some (.bool bad')/\Calls prog 73 #[.agg #[.slice A' n' c',.bool bad'],.slice (some ⟨X.heap.size,0,none⟩) 2 2] (X.alloc (.cells #[.string s,.string t] 9)) (AftC w B c i x A' n' c' bad'):=by
 obtain ⟨A',n',c',l',bad',hr',hW,R1,R2,R3,R4,tx,hO⟩:=id hX
 have h1:=vN R1
 refine ⟨A',n',c',bad',h1.1,h1.2.1,(uaft2 r _ s t B X ⟨A',n',c',l',bad',rfl,hW,hr'⟩ (Nat.le_trans hB tx.size)).mono ?_⟩
 rw [<- hx.out]
 exact fun e w1 h=>AftC.of hX hB R1 R4 hi h
theorem CS.nx_ {w X:World} {B:Nat} {r:Option (List ByteArray)} {c:Chg} (hX:CS w B r c none 0 X) (hB:B<=w.heap.size) (s:ByteArray) :
  ∃ A' n' c' bad',X.cell? ⟨w.heap.size,0,none⟩=some (.slice A' n' c')/\X.cell? ⟨w.heap.size,1,none⟩=some (.bool bad')/\Calls prog 46 #[.agg #[.slice A' n' c',.bool bad'],.string s] X fun e w1=>e = .returned (.bool (qX r s))/\CS w B r c none 0 w1:=by
 obtain ⟨A',n',c',l',bad',hr',hW,R1,R2,R3,R4,tx,hO⟩:=id hX
 have h1:=vN R1
 refine ⟨A',n',c',bad',h1.1,h1.2.1,(qdo r _ s B X ⟨A',n',c',l',bad',rfl,hW,hr'⟩ (Nat.le_trans hB tx.size)).mono ?_⟩
 rintro e w1 ⟨rfl,hb1⟩
 exact ⟨rfl,hX.below hB hb1⟩
def qam (l:List Gl) (m:Nat):List Gl:=l++List.replicate (m-l.length) spG
theorem qdb (l:List Gl) {m:Nat} (h:l.length<=m):(qam l m).length=m:=by
 unfold qam
 rw [List.length_append,List.length_replicate]
 omega
theorem pad_self (l:List Gl):qam l l.length=l:=by unfold qam;simp
theorem pad_succ (l:List Gl) {m:Nat} (h:l.length<=m):qam l (m+1)=qam l m++[spG]:=by
 unfold qam
 rw [show m+1-l.length=(m-l.length)+1 by omega,List.replicate_succ',List.append_assoc]
theorem qhu (l gs:List Gl) (col count m:Nat) (hl:l.length<=m) (hc:col<=m) (hm:m<=max l.length col) (h:count=0∨col+count<=l.length):(qam l m).take col++gs++(qam l m).drop (col+count)=zV l col count gs:=by
 have e1:(qam l m).take col=l.take col++List.replicate (col-l.length) spG:=by
  unfold qam
  rw [List.take_append,List.take_replicate]
  congr 2
  omega
 have e2:(qam l m).drop (col+count)=l.drop (col+count):=by
  unfold qam
  rw [List.drop_append,List.drop_replicate,show m-l.length-(col+count-l.length)=0 by omega,List.replicate_zero,List.append_nil]
 unfold zV
 rw [e1,e2]
def qdq:Value->Nat
 | .slice _ n _=>n
 | _=>0
def SpI (base G:Nat) (v:Vw) (rs:List RowM) (A:Option Addr) (cA k:Nat) (l:List Gl) (X0:World) (ch:Array Value) (m:Nat) (A4:Option Addr) (c4:Nat) (X:World):Prop :=
 EDx base G v rs A cA k (qam l m) A4 c4 X/\Blk X X0.heap.size 64 ch/\Dj (some X0.heap.size) (obS A4)/\Below base X0 X/\X0.heap.size+1<=X.heap.size
theorem SpI.next {base G:Nat} {v:Vw} {rs:List RowM} {A:Option Addr} {cA k:Nat} {l:List Gl} {X0:World} {ch:Array Value} {m:Nat} {A4:Option Addr} {c4:Nat} {X w2:World} {o:Obj} (h:SpI base G v rs A cA k l X0 ch m A4 c4 X) (hk:k<rs.length) (hbase:base<=X0.heap.size) (hm:l.length<=m) {A5:Option Addr} {c5:Nat}
  (hown:w2.ownsRow base 86 3 (.slice A5 (m+1) c5) (m+1) (qi (qam l m)++ym spG)) (hbel:Below base (X.alloc o) w2) (hgr:(X.alloc o).grownBy w2 (Value.slice A4 m c4).ownBlock) (hat:(Value.slice A5 (m+1) c5).ownBlock=(Value.slice A4 m c4).ownBlock∨(Value.slice A5 (m+1) c5).ownBlock=some (X.alloc o).heap.size) :
  SpI base G v rs A cA k l X0 ch (m+1) A5 c5 w2:=by
 obtain ⟨hE,hbx,hdx,hbw,hzw⟩:=h
 have hz:(X.alloc o).heap.size=X.heap.size+1:=by simp
 have h5:=hgr.size
 refine ⟨?_,(hbx.alloc o).grown hgr (fun e=>?_),?_,(hbw.alloc (by omega) _).trans hbel,by omega⟩
 ·rw [pad_succ l hm]
  exact hE.grow hk (by omega) ((Below.refl _ _).alloc (Nat.le_refl _) _) (by rw [qdb l hm]) hown hgr hat
 ·rw [qC] at e
  exact hdx _ rfl e.symm
 ·rw [qC,qC] at hat
  exact Dj.new hdx hat fun b hb=>by injection hb with hb;omega
theorem csplice_ {base G B:Nat} {v:Vw} {rs:List RowM} {A:Option Addr} {cA:Nat} {X0:World} (h:ED base G v rs A cA X0) (hbase:base<=X0.heap.size) (hlen:(rs.length:Int)=v.height) (hh:v.height<=1000) (hrl : ∀ x∈rs,x.l.length<=100000000)
  (c:Chg) (Ag:Option Addr) (cap:Nat) (hB:B<=base) (rd:Rd X0 B 3 Ag c.glyphs.length (qi c.glyphs)) (hgl:c.glyphs.length<=100000000) (hk:c.kind=3) (hr:zh v c=true) :
  Calls prog 89 #[.pointer (some ⟨G,0,none⟩),jH c Ag cap] X0 (EdR base G (jY v c) X0):=by
 obtain ⟨W,Hh,rows,vr,vc,vis⟩:=v
 obtain ⟨kind,row,col,count,til,g⟩:=c
 dsimp only at hlen hh hk hgl rd
 subst hk
 rw [qai] at hr
 dsimp only at hr
 obtain ⟨r1,r2,r3,r4,r5,r6⟩:=of_decide_eq_true hr
 have hE:=h.eq
 dsimp only at hE
 obtain ⟨k,rfl⟩ : ∃ k:Nat,row=k:=⟨row.toNat,by omega⟩
 obtain ⟨j,rfl⟩ : ∃ j:Nat,col=j:=⟨col.toNat,by omega⟩
 obtain ⟨q,rfl⟩ : ∃ q:Nat,count=q:=⟨count.toNat,by omega⟩
 have hkl:k<rs.length:=by omega
 rw [Int.toNat_natCast,hE,qa4 hkl] at r6
 have hcq:q=0∨j+q<=rs[k].l.length:=by omega
 have hS:jY ⟨W,Hh,rows,vr,vc,vis⟩ ⟨3,(k:Int),(j:Int),(q:Int),til,g⟩=⟨W,Hh,(rls rs).set k (zI (zV rs[k].l j q g)),vr,vc,vis⟩:=by
  unfold jY
  rw [if_neg (show ¬ (3:Int)=1 by decide),if_neg (show ¬ (3:Int)=2 by decide),if_pos (show (3:Int)=3 from rfl)]
  simp only [Int.toNat_natCast]
  rw [hE,qa4 hkl]
 rw [hS]
 obtain ⟨G1,cap1,hA,hG1,hG2⟩:=h.rows.form (by omega)
 obtain ⟨rfl,rfl⟩:A=some ⟨G1,0,none⟩/\cA=cap1:=by injection hA with h1 _ h2;exact ⟨h1,h2⟩
 have hL:=hrl _ (List.getElem_mem hkl)
 have HX:=Lh (EDx.start h hkl)
 have hcx:=h.rows.cellAt k (by omega)
 rw [yF hkl] at hcx
 have hGl:=h.blk.lt
 have HRd:Hid (∀ w',Below base X0 w'->Rd w' base 3 Ag g.length (qi g)):=Lh fun w' hb=>((rd.more hB).below hb)
 clear hS hr r6 hE hrl hA rd
 generalize rs[k].l=l at *
 have hBk:=h.blk
 clear h
 go_enter func89,ntmps89
 go_upto_region 1 with fail
 refine qa (fun X=>Blk X X0.heap.size 64 (yG ⟨3,(k:Int),(j:Int),(q:Int),til,g⟩ Ag cap)/\Below X0.heap.size X0 X) ⟨Blk.new _ _ _,(Below.refl _ _).alloc (Nat.le_refl _) _⟩ ?_
 rintro X ⟨hbx,hb⟩
 have c1:X.cell? ⟨X0.heap.size,1,none⟩=some (.int .i64 (k:Int)):=hbx.cell 1
 obtain ⟨e0,e1,e2,e3,e4,e5⟩:=qw (hBk.below hb hGl)
 have hcx2:=(hb.cell (p:=⟨G1,k,none⟩) hG2).trans hcx
 have hki:(k:Int)<(rs.length:Int):=by omega
 go_quiet (fail)
 have hI:SpI base G ⟨W,Hh,rows,vr,vc,vis⟩ rs (some ⟨G1,0,none⟩) cA k l X0 (yG ⟨3,(k:Int),(j:Int),(q:Int),til,g⟩ Ag cap) l.length rs[k].A rs[k].cap (X.drewN nq):=by
  have h1:=HX.out.below hb
  rw [<- pad_self l] at h1
  exact ⟨h1.below (qf (Below.refl _ _)),hbx.drewN _,Dj.symm (Dj.fresh (N:=X0.heap.size) (fun b hb2=>(vB HX.out.row b hb2).2) (fun b hb2=>by injection hb2 with e;omega)),qf (hb.mono hbase),hbx.lt⟩
 clear hcx hcx2 hbx hb c1 e0 e1 e2 e3 e4 e5 HX hBk
 generalize rs[k].A=Al at *
 generalize rs[k].cap=cl at *
 go_wp2
 go_loopw [4] (fun x wr=>∃ (m:Nat) (A4:Option Addr) (c4:Nat),l.length<=m/\m<=max l.length j/\x = .slice A4 m c4/\SpI base G ⟨W,Hh,rows,vr,vc,vis⟩ rs (some ⟨G1,0,none⟩) cA k l X0 (yG ⟨3,(k:Int),(j:Int),(q:Int),til,g⟩ Ag cap) m A4 c4 wr) (fun x _=>j-qdq x)
 case atStart=>exact ⟨l.length,Al,cl,Nat.le_refl _,by omega,rfl,hI⟩
 case round =>
  clear hI
  obtain ⟨m,A4,c4,hm1,hm2,rfl,hx⟩:=hrel
  obtain ⟨hE,hbx,hdx,hbw,hzw⟩:=id hx
  have c2:wr.cell? ⟨X0.heap.size,2,none⟩=some (.int .i64 (j:Int)):=hbx.cell 2
  have hrow:=hE.row
  rw [qdb l hm1] at hrow
  by_cases hlt:m<j
  ·go_wp2_with (at_builtin;go_must (refine qg rfl _ _ _ rfl qbz base _ rfl (hrow.alloc _) _ _ rfl (qe (xs:=ym spG) (by rfl) rfl) (by rfl) (by omega) (by omega) (by first | (simp;done) | (simp;omega) | omega) ?_);intro A5 c5 w5 hown5 hbel5 hgr5 hat5)
   exact ⟨⟨m+1,A5,c5,by omega,by omega,rfl,hx.next hkl hbase hm1 hown5 hbel5 hgr5 hat5⟩,by simp only [qdq];omega⟩
  ·have hcaps:=yd hrow
   have hcap2:(c4:Int)<=9223372036854775807:=by have:=hcaps.2;unfold maxLen at this;omega
   obtain ⟨u,hu⟩ : ∃ u,(zQ rs)[k]? = some u:=⟨_,yF hkl⟩
   have hcx:=hE.rows.cellAt k (by omega)
   rw [hu] at hcx
   have hfx:=hE.rows.frozenAt k
   have hG1w:=(vB hE.rows G1 rfl).2
   have hGw:=hE.blk.lt
   have HCE:Hid (∀ w',Below wr.heap.size wr w'->(w'.cell? ⟨G,2,none⟩=some (.slice (some ⟨G1,0,none⟩) rs.length cA)/\w'.cell? ⟨X0.heap.size,1,none⟩=some (.int .i64 (k:Int))/\w'.cell? ⟨X0.heap.size,2,none⟩=some (.int .i64 (j:Int))/\w'.cell? ⟨X0.heap.size,3,none⟩=some (.int .i64 (q:Int))/\w'.cell? ⟨X0.heap.size,5,none⟩=some (.slice Ag g.length cap))/\w'.cell? ⟨G1,k,none⟩=some u/\w'.frozen? ⟨G1,k,none⟩=false):=Lh fun w' hw =>
    ⟨⟨(hw.cell (p:=⟨G,2,none⟩) hGw).trans (hE.blk.cell 2),(hw.cell (p:=⟨X0.heap.size,1,none⟩) hbx.lt).trans (hbx.cell 1),(hw.cell (p:=⟨X0.heap.size,2,none⟩) hbx.lt).trans (hbx.cell 2),(hw.cell (p:=⟨X0.heap.size,3,none⟩) hbx.lt).trans (hbx.cell 3),(hw.cell (p:=⟨X0.heap.size,5,none⟩) hbx.lt).trans (hbx.cell 5)⟩,(hw.cell (p:=⟨G1,k,none⟩) hG1w).trans hcx,(hw.frozen (p:=⟨G1,k,none⟩) hG1w).trans hfx⟩
   have hsl:(zV l j q g).length<=400000000:=by
    unfold zV
    simp only [List.length_append,List.length_take,List.length_replicate,List.length_drop]
    omega
   have hjm:j+q<=m:=by omega
   obtain ⟨t,ht⟩ : ∃ t,t=j+q:=⟨_,rfl⟩
   have HConc:Hid (∀ W1,Below wr.heap.size wr W1->Calls prog 110 #[.slice (some ⟨W1.heap.size,0,none⟩) 3 3] (W1.alloc (.cells #[.slice A4 j c4,.slice Ag g.length cap,.slice (if c4=t then A4 else A4.map (·.add (t * 3))) (m-t) (c4-t)] 56)).drew fun e w'=>∃ A5 c5,e = .returned (.slice A5 (zV l j q g).length c5)/\w'.ownsRow wr.heap.size 86 3 (.slice A5 (zV l j q g).length c5) (zV l j q g).length (qi (zV l j q g))/\Below wr.heap.size wr w'):=Lh fun W1 hW=>by
    have hz:=hW.size
    have hp:=qhu l g j q m hm1 (by omega) hm2 hcq
    rw [<- ht] at hp
    have hR:=(Rd.of_own (qb hrow hW)).below ((Below.refl W1.heap.size W1).alloc (Nat.le_refl _) (.cells #[.slice A4 j c4,.slice Ag g.length cap,.slice (if c4=t then A4 else A4.map (·.add (t * 3))) (m-t) (c4-t)] 56))
    have hcat:yA [⟨(qam l m).take j,A4,c4⟩,⟨g,Ag,cap⟩,⟨(qam l m).drop t,if c4=t then A4 else A4.map (·.add (t * 3)),c4-t⟩]=zV l j q g:=by
     rw [<- hp]
     simp [yA,rls]
    have l1:((qam l m).take j).length=j:=by rw [List.length_take,qdb l hm1];omega
    have l2:((qam l m).drop t).length=m-t:=by rw [List.length_drop,qdb l hm1]
    have hc:=qjO [⟨(qam l m).take j,A4,c4⟩,⟨g,Ag,cap⟩,⟨(qam l m).drop t,if c4=t then A4 else A4.map (·.add (t * 3)),c4-t⟩] (some ⟨W1.heap.size,0,none⟩) 3 3 (W1.heap.size+1) (W1.alloc (.cells #[.slice A4 j c4,.slice Ag g.length cap,.slice (if c4=t then A4 else A4.map (·.add (t * 3))) (m-t) (c4-t)] 56)).drew rfl (by omega) (by simp) (by rw [hcat];omega)
     (by
      have:=qe (w:=W1) (xs:=[.slice A4 j c4,.slice Ag g.length cap,.slice (if c4=t then A4 else A4.map (·.add (t * 3))) (m-t) (c4-t)]) (e:=56) (m:=3) (size:=1) rfl rfl
      unfold zQ
      simp only [List.map_cons,List.map_nil,l1,l2]
      exact this)
     (fun x hx=>by
      simp only [List.mem_cons,List.not_mem_nil,or_false] at hx
      rcases hx with rfl | rfl | rfl
      ·dsimp only
       rw [l1,kM]
       exact (hR.more (Nat.le_succ _)).take (by omega)
      ·exact ((HRd.out _ (hbw.trans (hW.mono (by omega)))).below ((Below.refl _ _).alloc (by omega) _)).more (by omega)
      ·dsimp only
       rw [l2,qbO]
       exact (hR.more (Nat.le_succ _)).cut (by omega) hcaps.1)
    rw [hcat] at hc
    exact hc.mono fun e w' ⟨A5,c5,h1,h2,h3⟩=>⟨A5,c5,h1,qt h2 (by simp;omega),((hW.alloc hz _).drew).trans (h3.mono (by simp;omega))⟩
   have HTr:Hid (∀ W1 A5 c5,Below wr.heap.size wr W1->W1.ownsRow wr.heap.size 86 3 (.slice A5 (zV l j q g).length c5) (zV l j q g).length (qi (zV l j q g))->Calls prog 108 #[.slice A5 (zV l j q g).length c5] W1 fun e w'=>∃ A6 c6,e = .returned (.slice A6 (zI (zV l j q g)).length c6)/\w'.ownsRow wr.heap.size 86 3 (.slice A6 (zI (zV l j q g)).length c6) (zI (zV l j q g)).length (qi (zI (zV l j q g)))/\Below wr.heap.size wr w'):=Lh fun W1 A5 c5 hW ho=>by
    have hcp:=yd ho
    exact (vtrim_ _ A5 _ c5 W1.heap.size W1 (by omega) hcp.1 hcp.2 (Rd.of_own ho) (Nat.le_refl _)).mono fun e w' ⟨A6,c6,h1,h2,h3⟩=>⟨A6,c6,h1,qt h2 hW.size,hW.trans (h3.mono hW.size)⟩
   generalize zV l j q g=S at *
   have hEh:=Lh hE
   have hjc:(j:Int)<=c4:=by omega
   have hjqm:(j:Int)+q<=m:=by omega
   have hmc:(m:Int)<=c4:=by omega
   have hb0:Below wr.heap.size wr wr:=Below.refl _ _
   obtain ⟨⟨s1,s2,s3,s4,s5⟩,s6,s7⟩:=HCE.out wr hb0
   have hn1:G≠G1:=fun e=>(hE.apart hkl).1 G rfl (by rw [e];rfl)
   have hn2:G1≠G:=Ne.symm hn1
   have hn3:X0.heap.size≠G1:=by omega
   have hn4:G1≠X0.heap.size:=by omega
   have hrow2:=hrow.2
   clear hlen hh r2
   clear hE hbx hx hcx hfx hrow hu hdx HRd hGw hG1w c2 hL hcq hm1 hm2
   have q2:IntKind.i64.wrap ((j:Int)+q)=(t:Int):=by rw [IntKind.wrap_i64];omega
   rcases hrow2 with ⟨hv,hm0⟩ | ⟨b4,cap4,-,hv,-⟩
   ·obtain rfl:A4=none:=by injection hv
    simp only [Option.map_none,ite_self] at HConc
    have i3:(t:Int)<=c4:=by omega
    have i4:(t:Int)<=m:=by omega
    have i5:(j:Int)<=t:=by omega
    clear hv hm0 ht hjm hjqm
    go_upto_region 4 with fail
    go_region_held3 (fun w'=>(w'.cell? ⟨G,2,none⟩=some (.slice (some ⟨G1,0,none⟩) rs.length cA)/\w'.cell? ⟨X0.heap.size,1,none⟩=some (.int .i64 (k:Int))/\w'.cell? ⟨X0.heap.size,2,none⟩=some (.int .i64 (j:Int))/\w'.cell? ⟨X0.heap.size,3,none⟩=some (.int .i64 (q:Int))/\w'.cell? ⟨X0.heap.size,5,none⟩=some (.slice Ag g.length cap))) (first | (refine (HCE.out _ ?_).1;(repeat (first | exact Below.refl _ _ | assumption | refine Below.drew ?_ | refine Below.alloc ?_ (by first | (simp;done) | (simp;omega) | omega) _ | refine Below.setCell ?_ (by first | (simp;done) | (simp;omega) | omega) _));done) | go_keep) (first
     | (go_at_call 110;refine (HConc.out _ (by (repeat (first | exact Below.refl _ _ | assumption | refine Below.drew ?_ | refine Below.alloc ?_ (by first | (simp;done) | (simp;omega) | omega) _ | refine Below.setCell ?_ (by first | (simp;done) | (simp;omega) | omega) _)))).mono ?_;rintro e w1 ⟨A5,c5,rfl,o1,b1⟩)
     | (go_at_call 108;refine (HTr.out _ _ _ b1 o1).mono ?_;rintro e w2 ⟨A6,c6,rfl,o2,b2⟩;obtain ⟨-,t6,t7⟩:=HCE.out w2 b2))
    go_wp2
    go_end0
    exact ⟨rfl,⟨_,_,_,EDx.put hEh.out hkl (Nat.le_trans hbase (Nat.le_of_lt hzw)) rfl b2 o2⟩,(hbw.trans (b2.mono (Nat.le_trans hbase (Nat.le_of_lt hzw)))).setCell (p:=⟨G1,k,none⟩) hG1 _⟩
   ·obtain ⟨rfl,rfl⟩:A4=some ⟨b4,0,none⟩/\c4=cap4:=by injection hv with h1 _ h2;exact ⟨h1,h2⟩
    clear hv
    have i3:(t:Int)<=c4:=by omega
    have i4:(t:Int)<=m:=by omega
    have i5:(j:Int)<=t:=by omega
    by_cases hce:c4=t
    ·obtain rfl:m=t:=by omega
     simp only [if_pos hce,hce,Nat.sub_self] at HConc
     subst hce
     clear hjc hjqm hmc ht hjm i3 i4
     go_upto_region 4 with fail
     go_region_held3 (fun w'=>(w'.cell? ⟨G,2,none⟩=some (.slice (some ⟨G1,0,none⟩) rs.length cA)/\w'.cell? ⟨X0.heap.size,1,none⟩=some (.int .i64 (k:Int))/\w'.cell? ⟨X0.heap.size,2,none⟩=some (.int .i64 (j:Int))/\w'.cell? ⟨X0.heap.size,3,none⟩=some (.int .i64 (q:Int))/\w'.cell? ⟨X0.heap.size,5,none⟩=some (.slice Ag g.length cap))) (first | (refine (HCE.out _ ?_).1;(repeat (first | exact Below.refl _ _ | assumption | refine Below.drew ?_ | refine Below.alloc ?_ (by first | (simp;done) | (simp;omega) | omega) _ | refine Below.setCell ?_ (by first | (simp;done) | (simp;omega) | omega) _));done) | go_keep) (first
      | (go_at_call 110;refine (HConc.out _ (by (repeat (first | exact Below.refl _ _ | assumption | refine Below.drew ?_ | refine Below.alloc ?_ (by first | (simp;done) | (simp;omega) | omega) _ | refine Below.setCell ?_ (by first | (simp;done) | (simp;omega) | omega) _)))).mono ?_;rintro e w1 ⟨A5,c5,rfl,o1,b1⟩)
      | (go_at_call 108;refine (HTr.out _ _ _ b1 o1).mono ?_;rintro e w2 ⟨A6,c6,rfl,o2,b2⟩;obtain ⟨-,t6,t7⟩:=HCE.out w2 b2))
     go_wp2
     go_end0
     exact ⟨rfl,⟨_,_,_,EDx.put hEh.out hkl (Nat.le_trans hbase (Nat.le_of_lt hzw)) rfl b2 o2⟩,(hbw.trans (b2.mono (Nat.le_trans hbase (Nat.le_of_lt hzw)))).setCell (p:=⟨G1,k,none⟩) hG1 _⟩
    ·simp only [if_neg hce,Option.map_some,vl,Nat.zero_add] at HConc
     clear ht hjm hjqm
     go_upto_region 4 with fail
     go_region_held3 (fun w'=>(w'.cell? ⟨G,2,none⟩=some (.slice (some ⟨G1,0,none⟩) rs.length cA)/\w'.cell? ⟨X0.heap.size,1,none⟩=some (.int .i64 (k:Int))/\w'.cell? ⟨X0.heap.size,2,none⟩=some (.int .i64 (j:Int))/\w'.cell? ⟨X0.heap.size,3,none⟩=some (.int .i64 (q:Int))/\w'.cell? ⟨X0.heap.size,5,none⟩=some (.slice Ag g.length cap))) (first | (refine (HCE.out _ ?_).1;(repeat (first | exact Below.refl _ _ | assumption | refine Below.drew ?_ | refine Below.alloc ?_ (by first | (simp;done) | (simp;omega) | omega) _ | refine Below.setCell ?_ (by first | (simp;done) | (simp;omega) | omega) _));done) | go_keep) (first
      | (go_at_call 110;refine (HConc.out _ (by (repeat (first | exact Below.refl _ _ | assumption | refine Below.drew ?_ | refine Below.alloc ?_ (by first | (simp;done) | (simp;omega) | omega) _ | refine Below.setCell ?_ (by first | (simp;done) | (simp;omega) | omega) _)))).mono ?_;rintro e w1 ⟨A5,c5,rfl,o1,b1⟩)
      | (go_at_call 108;refine (HTr.out _ _ _ b1 o1).mono ?_;rintro e w2 ⟨A6,c6,rfl,o2,b2⟩;obtain ⟨-,t6,t7⟩:=HCE.out w2 b2))
     go_wp2
     go_end0
     exact ⟨rfl,⟨_,_,_,EDx.put hEh.out hkl (Nat.le_trans hbase (Nat.le_of_lt hzw)) rfl b2 o2⟩,(hbw.trans (b2.mono (Nat.le_trans hbase (Nat.le_of_lt hzw)))).setCell (p:=⟨G1,k,none⟩) hG1 _⟩
end Go.Proofs.YticbpkghcglgkaaGreatDoor
