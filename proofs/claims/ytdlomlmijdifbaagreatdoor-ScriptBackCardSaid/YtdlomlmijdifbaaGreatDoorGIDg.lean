/- Own texts, packed: I16, I17, I18, I19, I20, I21, I23, I24, I25, I26, I27. -/
import Derived.Test.YtdlomlmijdifbaaGreatDoorGICg
import Derived.Test.YtdlomlmijdifbaaGreatDoorGIYg
import Derived.Test.YtdlomlmijdifbaaGreatDoorGWCg
import Derived.Test.YtdlomlmijdifbaaGreatDoorGWFg
import Derived.Test.YtdlomlmijdifbaaGreatDoorGWBg
import Derived.Test.YtdlomlmijdifbaaGreatDoorGIBg
import Derived.Test.YtdlomlmijdifbaaGreatDoorGIZg
import Derived.Test.YtdlomlmijdifbaaGreatDoorRows
import Derived.Test.YtdlomlmijdifbaaGreatDoorR4g
import Derived.Stop.LaidErr
import Derived.Handy
import Derived.Lay
import Derived.MakeChecks
import Derived.Test.YtdlomlmijdifbaaGreatDoorGIAg
import Derived.Test.YtdlomlmijdifbaaGreatDoorGNg
import Derived.Test.YtdlomlmijdifbaaGreatDoorGZg
import Derived.Test.YtdlomlmijdifbaaGreatDoorGPg
import Derived.Lib.SmallJoins
import Derived.Deep.Slices
import Derived.Deep.Strs
/-! A graph of no vertices: hdt.New, at, Count: the walks. -/
set_option linter.unusedVariables false
set_option linter.unusedSimpArgs false
set_option linter.unusedSectionVars false
set_option maxHeartbeats 40000000
set_option maxRecDepth 100000
namespace Go.Proofs.YtdlomlmijdifbaaGreatDoor
open Go Go.V Go.RowKit
theorem CK:lS P 244 247 1 (P.bytesOf 247):=⟨(P.info? 247).getD default,((P.info? 247).getD default).zero.getD undef,by kernel_rfl,by kernel_rfl,by kernel_rfl,by kernel_rfl,by kernel_rfl,by kernel_rfl,by decide⟩
theorem B6:P.bytesOf 247<=64:=of_decide_eq_true (by kernel_rfl)
def AY(w:World)(f:Nat):Prop:=∃(p:Value)(em:Nat),w.heap[f]?=some (.cells #[p,.int .i64 0,.map (some em),.slice none 0 0] 290 (0,0))/\w.heap[em]?=some (.map #[] 0)
theorem AY.kp{w w':World}{S:Nat->Prop}{f:Nat}(h:AY w f)(hk:Kp w w' S)(hS:∀ q,(∃ c fr,w.heap[q]?=some (.cells c 290 fr))∨(∃ e c,w.heap[q]?=some (.map e c))->¬ S q):AY w' f:=by
 obtain⟨p,em,h1,h2⟩:=h;exact⟨p,em,by rw[hk.block _ (Array.getElem?_eq_some_iff.1 h1).1 (hS _ (.inl ⟨_,_,h1⟩))];exact h1,by rw[hk.block _ (Array.getElem?_eq_some_iff.1 h2).1 (hS _ (.inr ⟨_,_,h2⟩))];exact h2⟩
theorem AY.kept{w w':World}{f:Nat}(h:AY w f)(hg:w.grownBy w' none):AY w' f:=h.kp (S:=fun _=>False) (Kp.of_none hg) (fun _ _ h=>h)
theorem uC{w:World}{sd:Int}:Calls P 179 #[.int .i64 0,.int .u64 sd] w fun ev w'=>∃ f:Nat,ev=.returned (.pointer (some ⟨f,0,none⟩))/\AY w' f/\w.grownBy w' none:=by
 apply vc179;dsimp only[VC179,Br,cI,nb,iq];apply vc208;dsimp only[VC208,nb];obtain⟨W0,DR,g0,b0⟩:=cC w #[.slice none 0 0,.int .u64 (mx sd 1)] 325;rw[← DR];have g1:=World.grownBy_alloc W0 (.map #[] 0) none;have b1:=heap_alloc_new W0 (.map #[] 0);obtain⟨W2,EB,g2,b2⟩:=cC (W0.alloc (.map #[] 0)) #[.pointer (some ⟨w.heap.size,0,none⟩),.int .i64 0,.map (some W0.heap.size),.slice none 0 0] 290;have hN:mn (mx 0 0) 65536=0:=by decide
 rw[hN];refine⟨_,rfl,_,rfl,?_⟩;rw[← EB,dR];have Eh:=aB (aB g0 g1) g2;refine⟨0,aA b2 1,fun m x W=>W=W2/\x=0,⟨0,rfl,rfl⟩,?_⟩;rintro m x W ⟨rfl,rfl⟩;exact⟨fun h=>absurd h (by decide),fun _=>⟨_,rfl,⟨_,_,b2,aD b1 g2⟩,Eh⟩⟩
theorem sC{w:World}{f:Nat}(h:AY w f):Calls P 305 #[.pointer (some ⟨f,0,none⟩)] w fun ev w'=>ev=.returned (.int .i64 0)/\w.grownBy w' none:=by
 apply vc305;dsimp only[VC305,Rd,iq]
 try simp only[aI]
 obtain⟨p,em,h1,h2⟩:=h;have gd:=aG (aF w none);have h1:w.drew.heap[f]?=_:=h1;have h2:w.drew.heap[em]?=_:=h2;generalize w.drew=w1 at h1 h2 gd ⊢;refine⟨_,rfl,0,by rw[aS];exact aA h1 1,_,rfl,some em,by rw[aS];exact aA h1 2,0,?_,⟨by omega,by omega,by omega,by omega⟩,⟨by omega,by omega⟩,rfl,gd⟩;rw[run_len_map w1 288 3 em #[] 0 (by kernel_rfl) h2];rfl
end Go.Proofs.YtdlomlmijdifbaaGreatDoor
/-! A graph of no vertices has one level: the walks. -/
namespace Go.Proofs.YtdlomlmijdifbaaGreatDoor
open Go Go.V Go.RowKit
def HL(w:World)(g:Nat):Prop:=∃(sd:Int)(M D t o:Value)(la lv f c:Nat),w.heap[g]?=some (.cells #[.int .i64 0,.int .u64 sd,M,.slice (some ⟨la,0,none⟩) 1 c,D] 246 (0,0))/\(∃ cs fr,w.heap[la]?=some (.cells cs 247 fr)/\cs[0]?=some (.pointer (some ⟨lv,0,none⟩))) ∧
 w.heap[lv]?=some (.cells #[.pointer (some ⟨f,0,none⟩),t,o] 260 (0,0))/\AY w f
theorem HL.kp{T:TypeId}{w w':World}{S:Nat->Prop}{g:Nat}(h:HL w g)(hk:Kp w w' S)(hS:∀ q,S q->∃(c:Array Value)(fr:Nat×Nat),w.heap[q]?=some (.cells c T fr))(hT:T=132∨T=61):HL w' g:=by
 obtain⟨sd,M,D,t,o,la,lv,f,c,h1,⟨cs,fr,h2,h3⟩,h4,h5⟩:=h;have keep:∀ {q:Nat} {x:Obj},w.heap[q]?=some x->(∀ c fr,x≠.cells c T fr)->w'.heap[q]?=some x:=fun {q x} hq hx=>by
  rw[hk.block _ (Array.getElem?_eq_some_iff.1 hq).1 fun e=>by
   obtain⟨c,fr,e⟩:=hS _ e;rw[hq]at e;exact hx _ _ (Option.some.inj e)]
  exact hq
 refine⟨sd,M,D,t,o,la,lv,f,c,keep h1 (by intro c fr e;rcases hT with rfl | rfl <;>cases e),⟨cs,fr,keep h2 (by intro c fr e;rcases hT with rfl | rfl <;>cases e),h3⟩,keep h4 (by intro c fr e;rcases hT with rfl | rfl <;>cases e),h5.kp hk ?_⟩;intro q hq e;obtain⟨c,fr,e⟩:=hS _ e;rcases hq with⟨c',fr',e'⟩ | ⟨e1,c',e'⟩ <;>(rw[e]at e';rcases hT with rfl | rfl <;>cases e')
theorem HL.kept{w w':World}{g:Nat}(h:HL w g)(hg:w.grownBy w' none):HL w' g:=h.kp (S:=fun _=>False) (Kp.of_none hg) (fun _ h=>h.elim) (.inl rfl)
def AtI(g:Nat)(w:World)(m:Nat)(W:World):Prop:=(m=1/\W=w)∨(m=0/\HL W g/\w.grownBy W (some g))
theorem AI{w:World}{g:Nat}(h:HL w g):Calls P 157 #[.pointer (some ⟨g,0,none⟩),.int .i64 0] w fun ev w'=>∃ lv f:Nat,ev=.returned (.pointer (some ⟨lv,0,none⟩))/\w'=w/\w.cell? ⟨lv,0,none⟩=some (.pointer (some ⟨f,0,none⟩))/\AY w f:=by
 apply vc157;dsimp only[VC157,Br,Rc,Rs,Ix,Ap,Ws,nb,iq];obtain⟨sd,M,D,t,o,la,lv,f,c,h1,⟨cs,fr,h2,h3⟩,h4,h5⟩:=h;refine⟨fun m W=>W=w,⟨0,rfl⟩,?_⟩;rintro m W rfl;refine⟨_,rfl,_,_,_,by rw[bS];exact aA h1 3,fun Du=>absurd Du (by decide),fun _=>?_⟩;exact⟨_,rfl,_,_,_,by rw[bS];exact aA h1 3,_,rfl,by omega,by omega,_,by
  first
   | exact(aA h2 0).trans h3
   | (rw[bS];exact(aA h2 0).trans h3)
   | (rw[pI];exact(aA h2 0).trans h3),_,_,rfl,rfl,aA h4 0,h5⟩
theorem xZ {w:World} {g:Nat} {sd:Int} {M D:Value} (hg:w.heap[g]?=some (.cells #[.int .i64 0,.int .u64 sd,M,.slice none 0 0,D] 246 (0,0))):Calls P 157 #[.pointer (some ⟨g,0,none⟩),.int .i64 0] w fun ev w'=>(∃ lv:Nat,ev=.returned (.pointer (some ⟨lv,0,none⟩)))/\HL w' g/\w.grownBy w' (some g):=by
  apply vc157;dsimp only[VC157,Br,Rc,Rs,Ix,Ap,Ws,nb,iq];refine⟨AtI g w,⟨1,.inl ⟨rfl,rfl⟩⟩,?_⟩;have lt:=(Array.getElem?_eq_some_iff.1 hg).1;rintro m W (⟨rfl,rfl⟩ | ⟨rfl,hH,hG⟩)
  · refine⟨_,rfl,_,_,_,by rw[bS];exact aA hg 3,fun _=>?_,fun Du=>absurd (by decide) Du⟩;have g2:=aG (aF W none);obtain⟨w2,Ej⟩:∃ w2,w2=W.drew:=⟨_,rfl⟩;have h2:w2.heap[g]?=some (.cells #[.int .i64 0,.int .u64 sd,M,.slice none 0 0,D] 246 (0,0)):=by rw[Ej];exact hg
    rw[← Ej]at g2 ⊢;have z2:=g2.size;have kb:∀ W',w2.grownBy W' none->W'.heap[g]?=some (.cells #[.int .i64 0,.int .u64 sd,M,.slice none 0 0,D] 246 (0,0)):=fun W' h=>aD h2 h;have c3:∀ W',w2.grownBy W' none->W'.cell? (Addr.add ⟨g,0,none⟩ 3)=some (.slice none 0 0):=fun W' h=>by rw[bS];exact aA (kb W' h) 3
    obtain⟨C,hC⟩:∃ C:World->Prop,C=fun W'=>W'.cell? ⟨g,0,none⟩=some (.int .i64 0)/\W'.cell? (Addr.add ⟨g,0,none⟩ 1)=some (.int .u64 sd):=⟨_,rfl⟩;have HG:∀ W':World,(∃ x y z,W'.heap[g]?=some (.cells #[.int .i64 0,.int .u64 sd,x,y,z] 246 (0,0)))->C W':=fun W' ⟨x,y,z,hh⟩=>by rw[hC];exact⟨aA hh 0,by rw[bS];exact aA hh 1⟩
    have GL:∀ W',w2.grownBy W' none->C W':=fun W' h=>HG W' ⟨_,_,_,kb W' h⟩;have IZ:∀ W',C W'->W'.cell? ⟨g,0,none⟩=some (.int .i64 0):=fun W' h=>by rw[hC]at h;exact h.1
    have IY:∀ W',C W'->W'.cell? (Addr.add ⟨g,0,none⟩ 1)=some (.int .u64 sd):=fun W' h=>by rw[hC]at h;exact h.2
    have fin:∀(W':World)(t o f:Nat),w2.grownBy W' none->AY W' f →
        ∃ (A:OA) (n c:Nat) (w3:World),Sem.run P (Builtin.append_ #[244,244] 244 #[.slice none 0 0,.slice (some ⟨(W'.alloc (.cells #[.pointer (some ⟨f,0,none⟩),.map (some t),.map (some o)] 260)).heap.size,0,none⟩) 1 1]) ((W'.alloc (.cells #[.pointer (some ⟨f,0,none⟩),.map (some t),.map (some o)] 260)).alloc (.cells #[.pointer (some ⟨W'.heap.size,0,none⟩)] 247))=.ok (.slice A n c) w3 ∧
          (C w3/\∃ a39:Addr,some (⟨g,0,none⟩:Addr)=some a39/\((∃ uv:Value,w3.cell? (a39.add 3)=some uv)/\w3.frozen? (a39.add 3)=false/\(C (w3.setCell (a39.add 3) (.slice A n c))/\∃ m_1:Nat,m_1<1/\AtI g W m_1 (w3.setCell (a39.add 3) (.slice A n c))))):=by
      intro W' t o f k1 k2;obtain⟨W1,Gq,g1,b1⟩:=cC W' #[.pointer (some ⟨f,0,none⟩),.map (some t),.map (some o)] 260;rw[← Gq];obtain⟨W3,HE,g3,b3⟩:=cC W1 #[.pointer (some ⟨W'.heap.size,0,none⟩)] 247;rw[← HE];have DF:=aB g1 g3;have kw:=aB k1 DF;have zk:=kw.size;obtain⟨A,n,c,w3,r1,r2,r3,r4,r5⟩:=(aE.nil W3 W3.heap.size 247 1).appends (ty:=244) CK B6 (a:=⟨W1.heap.size,0,none⟩) (m:=1) (cc:=1) (us:=[.pointer (some ⟨W'.heap.size,0,none⟩)]) rfl (fun j u hj=>by
        match j,hj with
        | 0,hj=>cases hj;rw[pI];exact aA b3 0) (fun u hu=>by simp at hu;subst hu;rfl) (by omega) (Nat.le_refl _)
      have r4:W3.grownBy w3 none:=r4;have k3:=aB kw r4;have GH:=kb w3 k3;refine⟨A,n,c,w3,r1,GL _ k3,_,rfl,?_⟩;rw[bS];have IK:=aH GH 3 (.slice A n c);refine⟨⟨_,aA GH 3⟩,aC GH 3,HG _ ⟨_,_,_,IK⟩,0,by omega,.inr ⟨rfl,?_,?_⟩⟩
      · obtain⟨_,hc | ⟨la,cur,rfl,KO,_,DV,DE,EK,GB⟩⟩:=r2.cases
        · omega
        · have K4:Kp w3 (w3.setCell ⟨g,3,none⟩ (.slice (some ⟨la,0,none⟩) n c)) (fun q=>q=g):=dY (Kp.refl _ _) rfl;have ne:∀ {q:Nat} {x:Obj},w3.heap[q]?=some x->(∀ c fr,x≠.cells c 246 fr)->(w3.setCell ⟨g,3,none⟩ (.slice (some ⟨la,0,none⟩) n c)).heap[q]?=some x:=fun {q x} hq hx=>by
            rw[K4.block _ (Array.getElem?_eq_some_iff.1 hq).1 fun e=>by rw[e,GH]at hq;exact hx _ _ (Option.some.inj hq).symm];exact hq
          have n1:n=1:=by simpa using r3
          subst n1;have Ez:cur[0]?=some (.pointer (some ⟨W'.heap.size,0,none⟩)):=by
            have:=r2.row 0 _ rfl;obtain⟨a,ha,IH⟩:=this;cases ha;rw[pI,aA DE]at IH;exact IH
          have Kj:=k2.kept (aB DF r4);obtain⟨p,em,Fk,Fj⟩:=Kj;exact⟨sd,M,D,_,_,la,W'.heap.size,f,c,by simpa using IK,⟨_,_,ne DE (by intro c fr e;cases e),Ez⟩,ne (aD b1 (aB g3 r4)) (by intro c fr e;cases e),p,em,ne Fk (by intro c fr e;cases e),ne Fj (by intro c fr e;cases e)⟩
      · have:=aB g2 k3;exact⟨this.os,this.tape,this.output,by have:=this.size;simpa using this,fun i hi hn=>by
          rw[(dY (u:=.slice A n c) (Kp.refl w3 (fun q=>q=g)) rfl:Kp w3 (w3.setCell ⟨g,3,none⟩ (.slice A n c)) (fun q=>q=g)).block i (by have:=this.size;omega) (fun e=>hn (by rw[e]))];exact this.block i hi (by simp)⟩
    have G4:aI .u64 ((0:Nat):Int):=⟨by omega,by omega⟩;clear hC HG kb;refine⟨C,GL _ (aF _ _),?_⟩
    repeat' (first
      | exact trivial
      | refine⟨_,rfl,none,0,0,c3 _ (by repeat (first | exact aF _ _ | refine eH ?_ _ | refine aB ?_ (by assumption))),?_⟩
      | refine⟨_,rfl,(0:Int),IZ,?_⟩
      | refine⟨_,rfl,sd,IY,?_⟩
      | refine⟨G4,?_⟩
      | refine⟨GL _ (by repeat (first | exact aF _ _ | refine eH ?_ _ | refine aB ?_ (by assumption))),?_⟩
      | (refine uC.mono fun ev Wc hh=>?_
         obtain⟨f,rfl,hF,gW⟩:=hh;refine⟨_,rfl,?_⟩)
      | refine⟨_,rfl,GL _ (by repeat (first | exact aF _ _ | refine eH ?_ _ | refine aB ?_ (by assumption))),?_⟩
      | refine⟨none,0,0,c3 _ (by repeat (first | exact aF _ _ | refine eH ?_ _ | refine aB ?_ (by assumption))),?_⟩
      | refine⟨(0:Int),IZ,?_⟩
      | refine⟨sd,IY,?_⟩
      | refine⟨_,rfl,?_⟩
      | refine fin _ _ _ _ (by repeat (first | exact aF _ _ | refine eH ?_ _ | refine aB ?_ (by assumption))) (AY.kept hF (by repeat (first | exact aF _ _ | refine eH ?_ _)))
      | refine And.intro ?_ ?_)
  · obtain⟨sd',M',D',t,o,la,lv,f,c,h1,⟨cs,fr,h2,h3⟩,h4,h5⟩:=id hH;refine⟨_,rfl,_,_,_,by rw[bS];exact aA h1 3,fun Du=>absurd Du (by decide),fun _=>?_⟩;exact⟨_,rfl,_,_,_,by rw[bS];exact aA h1 3,_,rfl,by omega,by omega,_,by
      first
        | exact(aA h2 0).trans h3
        | (rw[bS];exact(aA h2 0).trans h3)
        | (rw[pI];exact(aA h2 0).trans h3),⟨_,rfl⟩,hH,hG⟩
theorem BU:CS P 50 3 (.int .i64 0) 8:=⟨(P.info? 3).getD default,by kernel_rfl,by kernel_rfl,by kernel_rfl,by kernel_rfl,by kernel_rfl,by kernel_rfl⟩
theorem vG{w:World}{sd:Int}:Calls P 139 #[.int .i64 0,.int .u64 sd] w fun ev w'=>∃ g:Nat,ev=.returned (.pointer (some ⟨g,0,none⟩))/\HL w' g/\w.grownBy w' none:=by
 apply vc139;dsimp only[VC139,nb,iq];have hN:mn (mx 0 0) 65536=((0:Nat):Int):=by decide
 rw[hN];have g1:=World.grownBy_alloc w (.map #[] 0) none;obtain⟨w2,r2,o2,g2⟩:=Bw (P:=P) (w:=w.alloc (.map #[] 0)) BU (by omega) (m:=0) (by omega);obtain⟨W3,HE,g3,b3⟩:=cC w2 #[.int .i64 0,.int .u64 sd,.map (some w.heap.size),.slice none 0 0,.slice (some ⟨(w.alloc (.map #[] 0)).heap.size,0,none⟩) 0 0] 246;refine⟨_,_,_,w2,r2,?_⟩;have e:(w2.alloc (.cells #[.int .i64 ((0:Nat):Int),.int .u64 sd,.map (some w.heap.size),.slice none 0 0,.slice (some ⟨(w.alloc (.map #[] 0)).heap.size,0,none⟩) 0 0] 246))=W3:=by rw[HE];rfl
 rw[e];have z2:=(aB g1 g2).size;refine(xZ b3).mono fun ev w4 hh=>?_;obtain⟨⟨lv,rfl⟩,h4,g4⟩:=hh;refine⟨_,rfl,_,rfl,h4,?_⟩;have:=aB (aB g1 g2) g3;exact aN this g4 (fun k hk=>by cases hk;exact z2)
theorem sZ{w:World}{g:Nat}(h:HL w g):Calls P 303 #[.pointer (some ⟨g,0,none⟩)] w fun ev w'=>ev=.returned (.int .i64 0)/\w.grownBy w' none:=by
 apply vc303;dsimp only[VC303,cI,iq];refine(AI h).mono fun ev w1 hh=>?_;obtain⟨lv,f,rfl,rfl,h1,h2⟩:=hh;refine⟨_,rfl,_,rfl,_,h1,(sC h2).mono fun ev w2 hh=>?_⟩;obtain⟨rfl,g2⟩:=hh;exact⟨_,rfl,rfl,g2⟩
end Go.Proofs.YtdlomlmijdifbaaGreatDoor
/-! The file of a history of no events is written and opened: the walks. -/
namespace Go.Proofs.YtdlomlmijdifbaaGreatDoor
open Go Go.V Go.RowKit
def lJ:List Int:=fX 3 1 0++jW []
theorem Dd:dV 3 1 0:=by unfold dV;omega
theorem vQ:By lJ:=(vK _ _ _).append (uL _)
theorem qZ:lJ.length=32:=by unfold lJ;rw[List.length_append,eW,gY];rfl
theorem oK{w:World}:Calls P 19 #[.agg #[.int .u64 3,.slice none 0 0],.int .i64 1] w fun ev w'=>∃(A':OA)(n' c':Nat),ev=.returned (.tuple #[.slice A' n' c',.int .i64 0])/\aE w' w.heap.size 5 1 A' n' c' (dB lJ)/\w.grownBy w' none:=by
 apply vc19;dsimp only[VC19,rt,Br,Rd,Rc,Rs,Ix,Ap,cI,cS,cT,nb,ad,al,iq]
 try simp only[aI,mnI]
 obtain⟨w1,Dz,g1,b1⟩:=cC w #[.int .u64 3,.slice none 0 0] 31;rw[← Dz];refine⟨3,aA b1 0,none,0,0,aA b1 1,(tS (l:=[]) (bF.nil _ _) rfl (Nat.zero_le _) (fun e he=>by simp at he)).mono fun ev w2 hh=>?_⟩;obtain⟨rfl,g2⟩:=hh;have b2:=aD b1 g2;have Eh:=aB g1 g2;refine⟨_,_,rfl,fun e=>absurd rfl e,fun _=>⟨fun e=>absurd e (by decide),fun _=>⟨fun e=>absurd e (by decide),fun _=>⟨3,aA b2 0,none,0,0,aA b2 1,?_⟩⟩⟩⟩;refine(oI Dd).mono fun ev w4 hh=>?_;obtain⟨A4,n4,c4,rfl,o4,g4⟩:=hh;refine⟨_,_,_,rfl,fun q B d e R s t NA nn nc x W=>B=A4/\d=n4/\e=c4/\R=none/\s=0/\t=0/\x=0/\W=w4,⟨0,rfl,rfl,rfl,rfl,rfl,rfl,rfl,rfl⟩,?_⟩;rintro q B d e R s t NA nn nc x W ⟨rfl,rfl,rfl,rfl,rfl,rfl,rfl,rfl⟩;have b4:=aD b2 g4;refine⟨none,0,0,aA b4 1,fun Dp=>absurd Dp (by decide),fun Du=>?_⟩;refine(uP (l:=[]) (bF.nil _ _) rfl (by decide) rfl (fun r hr=>by simp at hr)).mono fun ev W1 hh=>?_;obtain⟨A5,n5,c5,rfl,o5,g5⟩:=hh;have oW1:=o4.kp (S:=fun _=>False) (Kp.of_none g5) (fun _ _ e=>e);have Fg:n5=(jW []).length:=by have h':=o5.cases.1;unfold dB at h';rw[List.length_map]at h';omega
 have hd:d=24:=by have h':=o4.cases.1;unfold dB at h';rw[List.length_map,eW]at h';omega
 have Ik:=gY [];obtain⟨A6,n6,c6,W2,r6,o6,g6,_⟩:=bQ oW1 o5.row Fg (cW o5) (by rw[Fg,Ik,hd];decide) (aB g4 g5).size;have gW2:=aN (aB g4 g5) g6 fun q hq=>(World.ownsRow.lt oW1 q hq).1;exact⟨_,_,_,_,rfl,A6,n6,c6,W2,r6,A6,n6,c6,rfl,o6.mono Eh.size,aB Eh gW2⟩
theorem uV{w:World}{A:OA}{n c:Nat}(hr:bF w A (dB lJ))(hn:n=lJ.length)(hc:n<=c):
    Calls P 56 #[.slice A n c] w fun ev w'=>∃(B:OA)(m d:Nat),ev=.returned (.tuple #[pC 3 1 0,.slice B m d,.int .i64 0])/\aE w' w.heap.size 118 3 B m d (dC [])/\w.grownBy w' none:=by
  apply vc56;dsimp only[VC56,rt,Wt,Br,Rd,Ws,cT,nb,iq];obtain⟨w0,G0,g0,b0⟩:=cC w #[.int .u64 0,.int .i64 0,.int .i64 0] 113;rw[← G0];refine(pV (hr.kept_none g0) hn hc vQ rfl (by omega) Dd).mono fun ev w1 hh=>?_;obtain⟨rfl,g1⟩:=hh;have b1:=aD b0 g1;obtain⟨w3,Ea,p0,q0,p1,q1,p2,q2,h3,g3⟩:=CX w1 113 (.int .u64 0) (.int .i64 0) (.int .i64 0) (.int .u64 3) (.int .i64 1) (.int .i64 0);refine⟨_,_,_,_,rfl,p0,q0,p1,q1,p2,q2,fun e=>absurd rfl e,fun _=>?_⟩;rw[← Ea];have DI:=aB g0 (aB g1 g3);refine⟨3,aA h3 0,1,aA h3 1,0,aA h3 2,(vD (pre:=fX 3 1 0) (rows:=[]) (hr.kept_none DI) hn hc vQ (by rw[qZ];decide) rfl (by rw[eW];rfl) Dd rfl rfl (fun r hr=>by simp at hr)).mono fun ev w4 hh=>?_⟩;obtain⟨A4,n4,c4,rfl,o4,g4⟩:=hh;have h4:=aD h3 g4;have b4:=aD (aD b1 g3) g4;have t1:=aH b4 0 (.int .u64 3);have t2:=aH t1 1 (.int .i64 1);have t3:=aH t2 2 (.int .i64 0);have D9:=aB DI g4;have z03:=DI.size;have z3:w.heap.size<w3.heap.size:=(Array.getElem?_eq_some_iff.1 (aD b1 g3)).1;have K4:Kp w4 (((w4.setCell ⟨w.heap.size,0,none⟩ (.int .u64 3)).setCell ⟨w.heap.size,1,none⟩ (.int .i64 1)).setCell ⟨w.heap.size,2,none⟩ (.int .i64 0)) (fun q=>q=w.heap.size):=dY (dY (dY (Kp.refl _ _) rfl) rfl) rfl;have gF:=((Kp.of_none (S:=fun q=>w.heap.size<=q) D9).then K4 fun q _ e=>by omega).grown fun q hq e=>by omega
  refine⟨_,_,_,_,rfl,fun e=>absurd rfl e,fun _=>⟨3,aA h4 0,1,aA h4 1,0,aA h4 2,⟨_,aA b4 0⟩,aC b4 0,⟨_,aA t1 1⟩,aC t1 1,⟨_,aA t2 2⟩,aC t2 2,3,by rw[aA t3 0];rfl,1,by rw[aA t3 1];rfl,0,by rw[aA t3 2];rfl,A4,n4,c4,rfl,?_,gF⟩⟩;exact(o4.kp K4 (fun q hq e=>by have:=(World.ownsRow.lt o4 q hq).1;omega)).mono (by omega)
end Go.Proofs.YtdlomlmijdifbaaGreatDoor
/-! A reader of the empty file: the walks. -/
namespace Go.Proofs.YtdlomlmijdifbaaGreatDoor
open Go Go.V Go.RowKit
theorem yX{w:World}{a:Addr}{x d:Int}(h:w.cell? a=some (.int .i64 x))(hf:w.frozen? a=false)(hr:aI .i64 (x+d)):Sem.run P (callFunc 165 #[.pointer (some a),.int .i64 d]) w=.ok (.value (.int .i64 (x+d))) (w.setCell a (.int .i64 (x+d))):=by
  rw[run_callFunc_extern (P:=P) Tryz.func165 (by kernel_rfl) (by kernel_rfl) (by kernel_rfl) (e:=Extern.Atomic.update (Op.intArith .add) .i64 true) (by kernel_rfl) _ w];have e:=dM hr
  have e0:Extern.Atomic.update (Op.intArith .add) .i64 true #[.pointer (some a),.int .i64 d]=(do
      let b ← asAddr (.pointer (some a));let old ← Extern.Atomic.read (.int .i64) b;let new ← Op.intArith .add .i64 (← asInt old) (← asInt (.int .i64 d))
      store b new .atomic
      pure (if true then new else old)):=rfl
  rw[e0];simp[Extern.Atomic.read,asAddr,asInt,asIntOf,Op.intArith,load,store,Sem.run,h,hf,e]
theorem iT{w:World}{a:Addr}{x d:Int}(h:w.cell? a=some (.int .i64 x))(hf:w.frozen? a=false)(hr:aI .i64 (x+d)):Calls P 142 #[.pointer (some a),.int .i64 d] w fun ev w'=>ev=.returned (.int .i64 (x+d))/\w'=w.setCell a (.int .i64 (x+d)):=by
 apply vc142;dsimp only[VC142,iq];exact⟨_,rfl,_,_,yX h hf hr,rfl,rfl⟩
abbrev rdC(RA:OA)(d:Nat)(bv now:Value)(s0 s1 s2 s3:Int):Array Value:=#[.int .u64 3,.int .i64 1,.int .i64 0,.slice RA 0 d,bv,.int .u64 1,now,.int .i64 s0,.int .i64 s1,.int .i64 s2,.int .i64 s3]
theorem AP{w:World}{r:Nat}{RA A:OA}{d c:Nat}{bv now:Value}(h:w.heap[r]?=some (.cells (rdC RA d bv now 0 0 0 0) 132 (0,0)))(hr:bF w A [.int .i64 0,.int .i64 0,.int .i64 0]):
    Calls P 112 #[.pointer (some ⟨r,0,none⟩),.slice A 3 c] w fun ev w'=>ev=.returned (.tuple #[])/\w'.heap[r]?=some (.cells (rdC RA d bv now 1 0 0 0) 132 (0,0))/\Kp w w' (fun q=>q=r):=by
  apply vc112;dsimp only[VC112,rt,Br,Rd,Ix,Ap,cI,nb,iq]
  try simp only[aI]
  obtain⟨w1,Dv,g1,b1⟩:=cC w #[.int .i64 1] 3;rw[← Dv];have lt:=(Array.getElem?_eq_some_iff.1 h).1;have own:pL w1 w.heap.size 3 (some ⟨w.heap.size,0,none⟩) 1 1 [.int .i64 1]:=(aE.of_block (Nat.le_refl _) b1 (Nat.le_refl _) (by simp only[maxLen];omega) rfl rfl rfl:aE w1 w.heap.size 3 1 (some ⟨w.heap.size,0,none⟩) 1 1 [.int .i64 1]);have GD:=hr.kept_none g1;obtain⟨a,rfl,_⟩:=GD 0 _ rfl;obtain⟨A',n',c',w2,r2,o2,g2⟩:=own.appends (ty:=50) BU (by omega) (a:=a) (m:=3) (cc:=c) (us:=[.int .i64 0,.int .i64 0,.int .i64 0]) rfl (fun j u hj=>by obtain⟨b,q1,q2⟩:=GD j u hj;cases q1;exact q2) (fun u hu=>by simp at hu;subst hu;rfl) (by omega) g1.size;have K2:Kp w w2 (fun _=>False):=Kp.of_none (aN g1 g2 (fun k hk=>by cases hk;exact Nat.le_refl _));have h2:w2.heap[r]?=_:=(K2.block r lt (fun e=>e)).trans h;have n4:n'=4:=by have:=(show aE w2 w.heap.size 3 1 A' n' c' _ from o2).cases.1;simp at this;omega
  subst n4;have row2:bF w2 A' [.int .i64 1,.int .i64 0,.int .i64 0,.int .i64 0]:=(show aE w2 w.heap.size 3 1 A' 4 c' _ from o2).row;have Dq:∀ a,A'=some a->a.block≠r:=fun a ha e=>by
    have:=pL.block_ge o2 a.block (by rw[ha];rfl);omega
  refine⟨_,_,_,w2,r2,fun m x W=>∃ i:Nat,x=(i:Int)/\i<=4/\m=4-i/\W.heap[r]?=some (.cells (rdC RA d bv now (if 0<i then 1 else 0) 0 0 0) 132 (0,0))/\Kp w2 W (fun q=>q=r),⟨4,0,rfl,by omega,rfl,h2,Kp.refl _ _⟩,?_⟩;rintro m x W ⟨i,rfl,hi,rfl,hW,KW⟩;have ti:(i:Int).toNat=i:=by omega
  rw[ti];have rowW:bF W A' [.int .i64 1,.int .i64 0,.int .i64 0,.int .i64 0]:=row2.kp KW (fun a ha _=>Dq a ha);have KK:Kp w W (fun q=>q=r):=(K2.mono (S':=fun q=>q=r) (fun _ _ e=>e.elim)).then KW (fun _ _ e=>e);refine⟨fun Dp=>?_,fun Du=>?_⟩
  · match i,Dp with
    | 0,_ =>
      obtain⟨a,rfl,q⟩:=rowW 0 _ rfl;refine⟨_,rfl,by omega,by omega,_,q,_,rfl,⟨by omega,by omega⟩,?_⟩;rw[dR,dR];refine(iT (aA hW 7) (aC hW 7) ⟨by omega,by omega⟩).mono fun ev W2 hh=>?_;obtain⟨rfl,rfl⟩:=hh;have s:=aH hW 7 (.int .i64 (0+1));exact⟨_,rfl,⟨by omega,by omega⟩,3,by omega,1,by omega,by omega,rfl,by simpa using s,cJ KW rfl⟩
    | 1,_ =>
      obtain⟨a,rfl,q⟩:=rowW 1 _ rfl;refine⟨_,rfl,by omega,by omega,_,q,_,rfl,⟨by omega,by omega⟩,?_⟩;rw[dR,dR];refine(iT (aA hW 8) (aC hW 8) ⟨by omega,by omega⟩).mono fun ev W2 hh=>?_;obtain⟨rfl,rfl⟩:=hh;have s:=aH hW 8 (.int .i64 (0+0));exact⟨_,rfl,⟨by omega,by omega⟩,2,by omega,2,by omega,by omega,rfl,by simpa using s,cJ KW rfl⟩
    | 2,_ =>
      obtain⟨a,rfl,q⟩:=rowW 2 _ rfl;refine⟨_,rfl,by omega,by omega,_,q,_,rfl,⟨by omega,by omega⟩,?_⟩;rw[dR,dR];refine(iT (aA hW 9) (aC hW 9) ⟨by omega,by omega⟩).mono fun ev W2 hh=>?_;obtain⟨rfl,rfl⟩:=hh;have s:=aH hW 9 (.int .i64 (0+0));exact⟨_,rfl,⟨by omega,by omega⟩,1,by omega,3,by omega,by omega,rfl,by simpa using s,cJ KW rfl⟩
    | 3,_ =>
      obtain⟨a,rfl,q⟩:=rowW 3 _ rfl;refine⟨_,rfl,by omega,by omega,_,q,_,rfl,⟨by omega,by omega⟩,?_⟩;rw[dR,dR];refine(iT (aA hW 10) (aC hW 10) ⟨by omega,by omega⟩).mono fun ev W2 hh=>?_;obtain⟨rfl,rfl⟩:=hh;have s:=aH hW 10 (.int .i64 (0+0));exact⟨_,rfl,⟨by omega,by omega⟩,0,by omega,4,by omega,by omega,rfl,by simpa using s,cJ KW rfl⟩
    | n+4,h=>exact absurd h (by omega)
  · have:i=4:=by omega
    subst this;exact⟨trivial,hW,KK⟩
def C1(w:World)(g:Nat):Prop:=∃(nb hg:Nat)(m1 m2 m3:Value),w.heap[g]?=some (.cells #[.pointer (some ⟨nb,0,none⟩),.iface 224 (.pointer (some ⟨hg,0,none⟩)),m1,m2] 204 (0,0))/\w.heap[nb]?=some (.cells #[m3,.slice none 0 0] 239 (0,0))/\HL w hg
theorem C1.kp{T:TypeId}{w w':World}{S:Nat->Prop}{g:Nat}(h:C1 w g)(hk:Kp w w' S)(hS:∀ q,S q->∃(c:Array Value)(fr:Nat×Nat),w.heap[q]?=some (.cells c T fr))(hT:T=132∨T=61):C1 w' g:=by
 obtain⟨nb,hg,m1,m2,m3,h1,h2,h3⟩:=h;have keep:∀ {q:Nat} {x:Obj},w.heap[q]?=some x->(∀ c fr,x≠.cells c T fr)->w'.heap[q]?=some x:=fun {q x} hq hx=>by
  rw[hk.block _ (Array.getElem?_eq_some_iff.1 hq).1 fun e=>by
   obtain⟨c,fr,e⟩:=hS _ e;rw[hq]at e;exact hx _ _ (Option.some.inj e)]
  exact hq
 exact⟨nb,hg,m1,m2,m3,keep h1 (by intro c fr e;rcases hT with rfl | rfl <;>cases e),keep h2 (by intro c fr e;rcases hT with rfl | rfl <;>cases e),h3.kp hk hS hT⟩
theorem C1.kept{w w':World}{g:Nat}(h:C1 w g)(hg:w.grownBy w' none):C1 w' g:=h.kp (S:=fun _=>False) (Kp.of_none hg) (fun _ h=>h.elim) (.inl rfl)
theorem kF{w:World}{nb:Nat}{m3:Value}(h:w.heap[nb]?=some (.cells #[m3,.slice none 0 0] 239 (0,0))):Calls P 120 #[.pointer (some ⟨nb,0,none⟩)] w fun ev w'=>ev=.returned (.int .i64 0)/\w'=w:=by
 apply vc120;dsimp only[VC120,Rs,iq];exact⟨_,rfl,_,_,_,by rw[aS];exact aA h 1,rfl,rfl⟩
theorem vA{w:World}:Calls P 111 #[.slice none 0 0,.int .u64 1] w fun ev w'=>∃ g:Nat,ev=.returned (.pointer (some ⟨g,0,none⟩))/\C1 w' g/\w.grownBy w' none:=by
 apply vc111;dsimp only[VC111,Wt,Br,Bb,Rd,Rc,Ix,Ws,cI,cB,nb,ad,al,iq];apply vc136;dsimp only[VC136];have g0:=World.grownBy_alloc w (.map #[] 0) none;obtain⟨w1,Dv,g1,b1⟩:=cC (w.alloc (.map #[] 0)) #[.map (some w.heap.size),.slice none 0 0] 239;rw[← Dv];have g2:=World.grownBy_alloc w1 (.map #[] 0) none;have g3:=World.grownBy_alloc (w1.alloc (.map #[] 0)) (.map #[] 0) none;obtain⟨w4,Ei,g4,b4⟩:=cC ((w1.alloc (.map #[] 0)).alloc (.map #[] 0)) #[.pointer (some ⟨(w.alloc (.map #[] 0)).heap.size,0,none⟩),.nilIface,.map (some w1.heap.size),.map (some (w1.alloc (.map #[] 0)).heap.size)] 204;have D9:=aB (aB g0 g1) (aB (aB g2 g3) g4);have HU:=aD b1 (aB (aB g2 g3) g4);refine⟨_,rfl,fun m x W=>W=w4/\x=0,⟨0,by rw[Ei],rfl⟩,?_⟩;rintro m x W ⟨rfl,rfl⟩;refine⟨fun h=>absurd h (by decide),fun _=>⟨_,rfl,_,aA b4 0,(kF HU).mono fun ev W2 hh=>?_⟩⟩;obtain⟨rfl,rfl⟩:=hh;refine⟨_,rfl,fun h=>absurd h (by decide),fun _=>⟨_,rfl,_,aA b4 0,(kF HU).mono fun ev W2 hh=>?_⟩⟩;obtain⟨rfl,rfl⟩:=hh;refine⟨_,rfl,vG.mono fun ev W3 hh=>?_⟩;obtain⟨hg,rfl,hH,g5⟩:=hh;have GO:=aD b4 g5;have Ky:=aD HU g5;refine⟨_,rfl,fun m x V=>V=W3/\x=0,⟨0,rfl,rfl⟩,?_⟩;rintro m x V ⟨rfl,rfl⟩;refine⟨fun h=>absurd h (by decide),fun _=>⟨_,rfl,?_⟩⟩;rw[aS];have s:=aH GO 1 (.iface 224 (.pointer (some ⟨hg,0,none⟩)));have K:=cJ (j:=1) (u:=.iface 224 (.pointer (some ⟨hg,0,none⟩))) (Kp.refl V (fun q=>q=((w1.alloc (.map #[] 0)).alloc (.map #[] 0)).heap.size)) rfl;have keep:∀ {q:Nat} {x:Obj},V.heap[q]?=some x->(∀ c fr,x≠.cells c 204 fr)->(V.setCell ⟨((w1.alloc (.map #[] 0)).alloc (.map #[] 0)).heap.size,1,none⟩ (.iface 224 (.pointer (some ⟨hg,0,none⟩)))).heap[q]?=some x:=fun {q x} hq hx=>by
  rw[K.block _ (Array.getElem?_eq_some_iff.1 hq).1 fun e=>by rw[e,GO]at hq;exact hx _ _ (Option.some.inj hq).symm];exact hq
 refine⟨⟨_,aA GO 1⟩,aC GO 1,_,rfl,⟨_,hg,_,_,_,by simpa using s,keep Ky (by intro c fr e;cases e),?_⟩,?_⟩
 ·obtain⟨sd,M,D,t,o,la,lv,f,c,h1,⟨cs,fr,h2,h3⟩,h4,p,em,h5,h6⟩:=hH;exact⟨sd,M,D,t,o,la,lv,f,c,keep h1 (by intro c fr e;cases e),⟨cs,fr,keep h2 (by intro c fr e;cases e),h3⟩,keep h4 (by intro c fr e;cases e),p,em,keep h5 (by intro c fr e;cases e),keep h6 (by intro c fr e;cases e)⟩
 ·have z:=(aB (aB g0 g1) (aB g2 g3)).size;exact((Kp.of_none (aB D9 g5)).then K (fun k hk e=>e)).grown (fun k hk e=>by omega)
end Go.Proofs.YtdlomlmijdifbaaGreatDoor
/-! A reader of the empty file: (*Reader).Goto, Count, replay.Open; script.one and script.Run of the four commands: the walks. -/
namespace Go.Proofs.YtdlomlmijdifbaaGreatDoor
open Go Go.V Go.RowKit
theorem vP{w:World}{A:OA}{c:Nat}{t:Int}:Calls P 110 #[.slice A 0 c,.int .i64 t] w fun ev w'=>ev=.returned (.int .i64 (-1))/\w.grownBy w' none:=by
 apply vc110;dsimp only[VC110,Br,Rs,cI,cB,nb,iq];obtain⟨w1,Dv,g1,b1⟩:=cC w #[.slice A 0 c] 114;rw[← Dv];obtain⟨w2,Ej,g2,b2⟩:=cC w1 #[.int .i64 t] 2;rw[← Ej];refine⟨_,_,_,aA (aD b1 g2) 0,(lE (l:=[]) (bF.nil _ _) rfl (Nat.zero_le _)).mono fun ev w3 hh=>?_⟩;obtain⟨rfl,g3⟩:=hh;refine⟨_,rfl,fun e=>absurd e (by decide),fun _=>⟨_,_,_,aA (aD (aD b1 g2) g3) 0,?_⟩⟩;apply vc115z;dsimp only[VC115z,Br,cB,iq];refine⟨fun m i j W=>W=w3/\i=0/\j=0,⟨0,rfl,rfl,rfl⟩,?_⟩;rintro m i j W ⟨rfl,rfl,rfl⟩;exact⟨fun h=>absurd h (by decide),fun _=>⟨_,rfl,by unfold aI;decide,rfl,aB (aB g1 g2) g3⟩⟩
def tY(w:World)(r:Nat):Prop:=∃(RA:OA)(d:Nat)(bv:Value),w.heap[r]?=some (.cells (rdC RA d bv (.pointer none) 0 0 0 0) 132 (0,0))
def AX(w:World)(r:Nat):Prop:=∃(RA:OA)(d:Nat)(bv:Value)(g:Nat),w.heap[r]?=some (.cells (rdC RA d bv (.pointer (some ⟨g,0,none⟩)) 1 0 0 0) 132 (0,0))/\C1 w g
theorem tY.kept{w w':World}{r:Nat}(h:tY w r)(hg:w.grownBy w' none):tY w' r:=by
 obtain⟨RA,d,bv,h⟩:=h;exact⟨RA,d,bv,aD h hg⟩
theorem AX.kept{w w':World}{r:Nat}(h:AX w r)(hg:w.grownBy w' none):AX w' r:=by
 obtain⟨RA,d,bv,g,h,k⟩:=h;exact⟨RA,d,bv,g,aD h hg,k.kept hg⟩
theorem xS{w:World}{r:Nat}(h:tY w r):Calls P 118 #[.pointer (some ⟨r,0,none⟩),.slice none 0 0] w fun ev w'=>ev=.returned (.int .i64 29)/\w.grownBy w' none:=by
 apply vc118;dsimp only[VC118,Br,Bb,cB,nb,iq];obtain⟨RA,d,bv,h⟩:=h;obtain⟨w1,Dv,g1,b1⟩:=cC w #[.pointer (some ⟨r,0,none⟩)] 55;rw[← Dv];exact⟨_,aA b1 0,_,rfl,none,by rw[aS];exact aA (aD h g1) 6,fun _=>⟨rfl,g1⟩,fun e=>absurd rfl e⟩
theorem xR{w:World}{r:Nat}(h:AX w r):Calls P 118 #[.pointer (some ⟨r,0,none⟩),.slice none 0 0] w fun ev w'=>ev=.returned (.int .i64 0)/\w.grownBy w' none:=by
 apply vc118;dsimp only[VC118,Br,Bb,cB,nb,iq];obtain⟨RA,d,bv,g,h,hG⟩:=h;obtain⟨w1,Dv,g1,b1⟩:=cC w #[.pointer (some ⟨r,0,none⟩)] 55;rw[← Dv];refine⟨_,aA b1 0,_,rfl,some ⟨g,0,none⟩,by rw[aS];exact aA (aD h g1) 6,fun e=>(by cases e),fun _=>?_⟩;apply vc150m;dsimp only[VC150m,fP,cI];apply vc178m;dsimp only[VC178m,Br,Bb,Rd,Ix,cB,iq];refine⟨fun m x W=>W=w1/\x=0,⟨0,rfl,rfl⟩,?_⟩;rintro m x W ⟨rfl,rfl⟩;exact⟨fun h=>absurd h (by decide),fun _=>⟨_,rfl,_,rfl,fun e=>absurd e (by decide),fun _=>⟨rfl,g1⟩⟩⟩
theorem vL{w:World}{r:Nat}{t:Int}(h:tY w r):Calls P 82 #[.pointer (some ⟨r,0,none⟩),.int .i64 t] w fun ev w'=>ev=.returned (.int .i64 0)/\AX w' r/\Kp w w' (fun q=>q=r):=by
 apply vc82;dsimp only[VC82,Wt,Br,Rd,Rc,Rs,Ix,Ws,cI,cS,cU,cT,nb,ad,iq];obtain⟨RA,d,bv,h⟩:=h;obtain⟨w1,Dv,g1,b1⟩:=cC w #[.int .i64 t] 2;rw[← Dv];have gd:=aG g1;have h1:=aD h gd;refine⟨_,rfl,RA,0,d,by rw[aS];exact aA h1 3,t,aA (w:=w1.drew) b1 0,vP.mono fun ev w2 hh=>?_⟩;obtain⟨rfl,g2⟩:=hh;have h2:=aD h1 g2;refine⟨_,rfl,fun _=>⟨_,rfl,1,by rw[aS];exact aA h2 5,vA.mono fun ev w3 hh=>?_⟩,fun e=>absurd (by decide) e⟩;obtain⟨g,rfl,hG,g3⟩:=hh;have h3:=aD h2 g3;refine⟨_,rfl,_,rfl,?_⟩;rw[aS];have s:=aH h3 6 (.pointer (some ⟨g,0,none⟩));have K:=cJ (j:=6) (u:=.pointer (some ⟨g,0,none⟩)) (Kp.refl w3 (fun q=>q=r)) rfl;obtain⟨w4,Ei,g4,b4⟩:=cC (w3.setCell ⟨r,6,none⟩ (.pointer (some ⟨g,0,none⟩))) #[.int .i64 0,.int .i64 0,.int .i64 0] 3;rw[← Ei];refine⟨⟨_,aA h3 6⟩,aC h3 6,(AP (now:=.pointer (some ⟨g,0,none⟩)) (aD (by simpa using s) g4) (by rw[Ei];exact kY _ _ _)).mono fun ev w5 hh=>?_⟩;obtain⟨rfl,h5,K5⟩:=hh;refine⟨rfl,rfl,⟨RA,d,bv,g,h5,((hG.kp K (fun q e=>by subst e;exact⟨_,_,h3⟩) (.inl rfl)).kept g4).kp K5 (fun q e=>by subst e;exact⟨_,_,aD (by simpa using s) g4⟩) (.inl rfl)⟩,?_⟩;have K14:Kp w w4 (fun q=>q=r):=((Kp.of_none (S:=fun q=>q=r) (aB (aB gd g2) g3)).then K (fun q _ e=>e)).then (Kp.of_none (S:=fun _=>False) g4) (fun q _ e=>e.elim);exact K14.then K5 (fun q _ e=>e)
theorem tO{w:World}{r:Nat}(h:tY w r):Calls P 86 #[.pointer (some ⟨r,0,none⟩)] w fun ev w'=>ev=.returned (.tuple #[.int .i64 0,.int .i64 29])/\w.grownBy w' none:=by
 apply vc86;dsimp only[VC86,rt,Br,Rc,cI,iq];refine(xS h).mono fun ev w1 hh=>?_;obtain⟨rfl,g1⟩:=hh;exact⟨_,rfl,fun _=>⟨rfl,g1⟩,fun e=>absurd (by decide) e⟩
theorem xQ (v : Value) (w : World) : Sem.run P (callMethod (.iface 224 v) "Count" #[]) w = .ok (.enter 303 #[v]) w := by kernel_rfl
theorem tP{w:World}{r:Nat}(h:AX w r):Calls P 86 #[.pointer (some ⟨r,0,none⟩)] w fun ev w'=>ev=.returned (.tuple #[.int .i64 3,.int .i64 0])/\w.grownBy w' none:=by
 apply vc86;dsimp only[VC86,rt,Br,Rc,cI,iq];refine(xR h).mono fun ev w1 hh=>?_;obtain⟨rfl,g1⟩:=hh;obtain⟨RA,d,bv,g,h,nb,hg,m1,m2,m3,q1,q2,q3⟩:=h;have gd:=aG g1;refine⟨_,rfl,fun e=>absurd rfl e,fun _=>⟨fun W=>w.grownBy W none,gd,_,rfl,3,fun wq hq=>aA (aD h hq) 0,by unfold aI;decide,_,rfl,_,by rw[aS];exact aA (aD h gd) 6,_,rfl,_,aA (aD q1 gd) 0,(kF (aD q2 gd)).mono fun ev w2 hh=>?_⟩⟩;obtain⟨rfl,rfl⟩:=hh;refine⟨_,rfl,gd,by unfold aI;decide,_,rfl,_,fun wq hq=>by rw[aS];exact aA (aD h hq) 6,_,rfl,_,fun wq hq=>by rw[aS];exact aA (aD q1 hq) 1,303,[.pointer (some ⟨hg,0,none⟩)],xQ _ _,(sZ (q3.kept gd)).mono fun ev w3 hh=>?_⟩;obtain⟨rfl,g3⟩:=hh;have DF:=aB gd g3;exact⟨_,rfl,DF,by unfold aI;decide,rfl,DF⟩
theorem uN{w:World}{A:OA}{n c:Nat}(hr:bF w A (dB lJ))(hn:n=lJ.length)(hc:n<=c):
    Calls P 20 #[.slice A n c,.int .u64 1] w fun ev w'=>∃ r:Nat,ev=.returned (.tuple #[.pointer (some ⟨r,0,none⟩),.int .i64 0])/\tY w' r/\w.heap.size<=r/\w.grownBy w' none:=by
  apply vc20;dsimp only[VC20,rt,Br,Rc,Ws,cS,nb,iq];refine(uV hr hn hc).mono fun ev w1 hh=>?_;obtain⟨B,m,d,rfl,o1,g1⟩:=hh;have m0:m=0:=by have:=o1.cases.1;simp[dC]at this;omega
  subst m0;obtain⟨v,hv,l1,l2,l3,l4,l5,l6,b2,g2⟩:=CX w1 113 (.int .u64 0) (.int .i64 0) (.int .i64 0) (.int .u64 3) (.int .i64 1) (.int .i64 0);refine⟨_,_,_,_,_,_,_,rfl,l1,l2,l3,l4,l5,l6,?_⟩;rw[← hv];have Ef:=aB g1 g2;have gd:w1.grownBy v.drew none:=aG g2;refine⟨fun e=>absurd rfl e,fun _=>⟨fun W=>v.grownBy W none,aG (aF _ _),_,fun wq hq=>aA (aD b2 hq) 0,_,fun wq hq=>aA (aD b2 hq) 1,_,fun wq hq=>aA (aD b2 hq) 2,(tT (hr.kept_none (aG Ef)) hn (by rw[qZ];decide)).mono fun ev w3 hh=>?_⟩⟩;obtain⟨A',n',c',rfl,o3,g3⟩:=hh;have HQ:v.grownBy w3 none:=⟨g3.os,g3.tape,g3.output,g3.size,g3.block⟩;obtain⟨w4,Ei,g4,b4⟩:=cC w3 (rdC B d (.slice A' n' c') (.pointer none) 0 0 0 0) 132;refine⟨_,_,_,rfl,HQ,?_⟩;rw[← Ei];have gA:=aB Ef HQ;exact⟨aB HQ g4,_,rfl,⟨_,_,_,b4⟩,gA.size,aB gA g4⟩
abbrev cQ:List Cm:=[⟨4,0,0,0⟩,⟨1,5,0,0⟩,⟨4,0,0,0⟩,⟨0,0,0,0⟩]
abbrev aQ:List (Int×Int):=[(0,29),(0,0),(3,0),(0,30)]
def AW(l:List (Int×Int)):List Value:=l.flatMap fun a=>[.int .i64 a.1,.int .i64 a.2]
theorem CL:lS P 58 61 2 (P.bytesOf 61):=⟨(P.info? 61).getD default,((P.info? 61).getD default).zero.getD undef,by kernel_rfl,by kernel_rfl,by kernel_rfl,by kernel_rfl,by kernel_rfl,by kernel_rfl,by decide⟩
theorem B9:P.bytesOf 61<=64:=of_decide_eq_true (by kernel_rfl)
def CP:Nat->World->Nat->Prop
 | 0,w,r=>tY w r
 | 1,w,r=>tY w r
 | _,w,r=>AX w r
theorem CP.kept{w w':World}{r:Nat}(hg:w.grownBy w' none):∀ {i:Nat},CP i w r->CP i w' r
 | 0,h=>tY.kept h hg
 | 1,h=>tY.kept h hg
 | _+2,h=>AX.kept h hg
theorem qS{w:World}{r:Nat}{x y:Int}(h:∀ w1,w.grownBy w1 none->Calls P 86 #[.pointer (some ⟨r,0,none⟩)] w1 fun ev w'=>ev=.returned (.tuple #[.int .i64 x,.int .i64 y])/\w1.grownBy w' none):
    Calls P 58 #[.pointer (some ⟨r,0,none⟩),iR ⟨4,0,0,0⟩] w fun ev w'=>ev=.returned (.tuple #[.int .i64 x,.int .i64 y])/\w.grownBy w' none:=by
  apply vc58;dsimp only[VC58,rt,Br,Rd,cI,cB,nb,iq];obtain⟨w1,Dv,g1,b1⟩:=cC w #[.int .i64 4,.int .i64 0,.int .u64 0,.int .u64 0] 47;rw[← Dv];refine⟨_,aA b1 0,_,aA b1 1,_,aA b1 2,_,aA b1 3,(cR (c:=⟨4,0,0,0⟩) (by unfold zH;decide)).mono fun ev w2 hh=>?_⟩;obtain⟨rfl,g2⟩:=hh;refine⟨_,rfl,fun e=>absurd e (by decide),fun _=>⟨_,aA (aD b1 g2) 0,fun e=>absurd e (by decide),fun _=>⟨fun e=>absurd e (by decide),fun _=>⟨fun e=>absurd e (by decide),fun _=>⟨fun _=>(h w2 (aB g1 g2)).mono fun ev w3 hh=>?_,fun e=>absurd rfl e⟩⟩⟩⟩⟩;obtain⟨rfl,g3⟩:=hh;exact⟨_,_,rfl,rfl,aB (aB g1 g2) g3⟩
theorem BD{w:World}{r:Nat}(h:tY w r):Calls P 58 #[.pointer (some ⟨r,0,none⟩),iR ⟨1,5,0,0⟩] w fun ev w'=>ev=.returned (.tuple #[.int .i64 0,.int .i64 0])/\AX w' r/\Kp w w' (fun q=>q=r):=by
 apply vc58;dsimp only[VC58,rt,Br,Rd,cI,cB,nb,iq];obtain⟨w1,Dv,g1,b1⟩:=cC w #[.int .i64 1,.int .i64 5,.int .u64 0,.int .u64 0] 47;rw[← Dv];refine⟨_,aA b1 0,_,aA b1 1,_,aA b1 2,_,aA b1 3,(cR (c:=⟨1,5,0,0⟩) (by unfold zH;decide)).mono fun ev w2 hh=>?_⟩;obtain⟨rfl,g2⟩:=hh;refine⟨_,rfl,fun e=>absurd e (by decide),fun _=>⟨_,aA (aD b1 g2) 0,fun _=>⟨_,aA (aD b1 g2) 1,(vL (tY.kept h (aB g1 g2))).mono fun ev w3 hh=>?_⟩,fun e=>absurd rfl e⟩⟩;obtain⟨rfl,h3,k3⟩:=hh;exact⟨_,rfl,rfl,h3,(Kp.of_none (aB g1 g2)).then k3 (fun q _ e=>e)⟩
theorem Ct{w:World}{A:OA}:Calls P 58 #[.pointer A,iR ⟨0,0,0,0⟩] w fun ev w'=>ev=.returned (.tuple #[.int .i64 0,.int .i64 30])/\w.grownBy w' none:=by
 apply vc58;dsimp only[VC58,rt,Br,Rd,cI,cB,nb,iq];obtain⟨w1,Dv,g1,b1⟩:=cC w #[.int .i64 0,.int .i64 0,.int .u64 0,.int .u64 0] 47;rw[← Dv];refine⟨_,aA b1 0,_,aA b1 1,_,aA b1 2,_,aA b1 3,(cR (c:=⟨0,0,0,0⟩) (by unfold zH;decide)).mono fun ev w2 hh=>?_⟩;obtain⟨rfl,g2⟩:=hh;exact⟨_,rfl,fun _=>⟨rfl,aB g1 g2⟩,fun e=>absurd (by decide) e⟩
theorem C8{w:World}{r i:Nat}(hi:i<4)(h:CP i w r):Calls P 58 #[.pointer (some ⟨r,0,none⟩),iR (cQ[i]'hi)] w fun ev w'=>ev=.returned (.tuple #[.int .i64 (aQ[i]'hi).1,.int .i64 (aQ[i]'hi).2])/\CP (i+1) w' r/\Kp w w' (fun q=>q=r):=by
 match i,hi,h with
 | 0,_,h=>exact(qS fun w1 g=>tO (tY.kept h g)).mono fun ev w' hh=>⟨hh.1,tY.kept h hh.2,Kp.of_none hh.2⟩
 | 1,_,h=>exact BD h
 | 2,_,h=>exact(qS fun w1 g=>tP (AX.kept h g)).mono fun ev w' hh=>⟨hh.1,AX.kept h hh.2,Kp.of_none hh.2⟩
 | 3,_,h=>exact Ct.mono fun ev w' hh=>⟨hh.1,AX.kept h hh.2,Kp.of_none hh.2⟩
theorem CP.kp{w w':World}{S:Nat->Prop}{r:Nat}(hk:Kp w w' S)(hS:∀ q,S q->∃(c:Array Value)(fr:Nat×Nat),w.heap[q]?=some (.cells c 61 fr)):∀ {i:Nat},CP i w r->CP i w' r:=by
 have keep:∀ {q:Nat} {cs:Array Value} {fr:Nat×Nat},w.heap[q]?=some (.cells cs 132 fr)->w'.heap[q]?=some (.cells cs 132 fr):=fun {q cs fr} hq=>by
  rw[hk.block _ (Array.getElem?_eq_some_iff.1 hq).1 fun e=>by
   obtain⟨c,fr,e⟩:=hS _ e;rw[hq]at e;cases e]
  exact hq
 have k0:tY w r->tY w' r:=fun⟨RA,d,bv,h⟩=>⟨RA,d,bv,keep h⟩;intro i h
 match i,h with
 | 0,h=>exact k0 h
 | 1,h=>exact k0 h
 | _+2,h =>
  obtain⟨RA,d,bv,g,h,k⟩:=h;exact⟨RA,d,bv,g,keep h,k.kp hk hS (.inr rfl)⟩
theorem xC{w:World}{A:OA}{n c:Nat}:Calls P 21 #[.pointer none,.slice A n c] w fun ev w'=>ev=.returned (.slice none 0 0)/\w'=w:=by
 apply vc21;dsimp only[VC21,Wt,Br,Rd,Ix,Ap,Ws,nb,ad,al,iq];exact⟨fun _=>⟨rfl,rfl⟩,fun e=>absurd rfl e⟩
theorem xD {w:World} {r:Nat} {B:OA} {c:Nat} (h:tY w r) (hr:bF w B (dP cQ)) (hB:∀ a,B=some a->a.block≠r):Calls P 21 #[.pointer (some ⟨r,0,none⟩),.slice B 4 c] w fun ev w'=>∃(A':OA)(c':Nat),ev=.returned (.slice A' 4 c')/\bF w' A' (AW aQ)/\Kp w w' (fun q=>q=r):=by
  apply vc21;dsimp only[VC21,Wt,Br,Rd,Ix,Ap,Ws,nb,ad,al,iq]
  try simp only[aI]
  have Dp:r<w.heap.size:=by obtain⟨RA,d,bv,h⟩:=h;exact(Array.getElem?_eq_some_iff.1 h).1
  refine⟨fun e=>(by cases e),fun _=>⟨fun m A n c x W=>∃ i:Nat,x=(i:Int)/\i<=4/\m=4-i/\n=i/\aE W w.heap.size 61 2 A n c (AW (aQ.take i))/\CP i W r/\Kp w W (fun q=>q=r),⟨4,0,rfl,by omega,rfl,rfl,aE.nil _ _ _ _,h,Kp.refl _ _⟩,?_⟩⟩;rintro m A n c' x W ⟨i,rfl,hi,rfl,rfl,ho,hs,hk⟩;have ti:(n:Int).toNat=n:=by omega
  rw[ti];refine⟨fun Ek=>?_,fun Du=>?_⟩
  · have Hs:n<4:=by omega
    obtain⟨a,rfl,f0,f1,f2,f3⟩:=iQ (hr.kp hk (fun a ha _=>hB a ha)) (j:=n) Hs;obtain⟨v,hv,l1,l2,l3,l4,l5,l6,l7,l8,b1,g1⟩:=CW W 47 (.int .i64 0) (.int .i64 0) (.int .u64 0) (.int .u64 0) (.int .i64 cQ[n].k) (.int .i64 cQ[n].t) (.int .u64 cQ[n].u) (.int .u64 cQ[n].v);refine⟨_,rfl,by omega,by omega,_,f0,_,f1,_,f2,_,f3,l1,l2,l3,l4,l5,l6,l7,l8,?_⟩;rw[← hv];refine⟨_,aA b1 0,_,aA b1 1,_,aA b1 2,_,aA b1 3,(C8 Hs (hs.kept g1)).mono fun ev w2 hh=>?_⟩;obtain⟨rfl,s2,k2⟩:=hh;have KW:Kp W w2 (fun q=>q=r):=(Kp.of_none g1).then k2 (fun q _ e=>e);have o2:=ho.kp KW (fun q hq e=>by have:=ho.block_ge q hq;omega);obtain⟨w3,Ea,g3,b3⟩:=cC w2 #[.int .i64 aQ[n].1,.int .i64 aQ[n].2] 61;have z3:=(hk.then KW (fun q _ e=>e)).size;have r3:bF w3 (some ⟨w2.heap.size,0,none⟩) [.int .i64 aQ[n].1,.int .i64 aQ[n].2]:=by rw[Ea];exact kY _ _ _
    obtain⟨A',n',c'',w4,Dw,o4,rfl,g4,_⟩:=(o2.kept g3).appends (ty:=58) CL B9 (a:=⟨w2.heap.size,0,none⟩) (m:=1) (cc:=1) (us:=[.int .i64 aQ[n].1,.int .i64 aQ[n].2]) rfl (fun j u hj=>by obtain⟨b,q1,q2⟩:=r3 j u hj;cases q1;exact q2) (fun u hu=>by simp at hu;rcases hu with rfl | rfl <;>rfl) (by omega) (by have:=g3.size;omega);refine⟨_,_,rfl,_,_,_,w4,by rw[← Ea];exact Dw,by omega,4-(n+1),by omega,n+1,by omega,by omega,rfl,rfl,?_,?_,?_⟩
    · have e:AW (aQ.take (n+1))=AW (aQ.take n)++[.int .i64 aQ[n].1,.int .i64 aQ[n].2]:=by
        rw[List.take_succ_eq_append_getElem (show n<aQ.length from Hs)];unfold AW;rw[List.flatMap_append];rfl
      rw[e];exact o4
    · exact(s2.kept g3).kp (Kp.of_grown g4) (fun q e=>by
        obtain⟨cur,hc⟩:=(o2.kept g3).block_type q e.symm;exact⟨_,_,hc⟩)
    · have K3:=(hk.then KW (fun q _ e=>e)).then (Kp.of_none (S:=fun _=>False) g3) (fun q _ e=>e.elim);exact K3.step g4 (fun q e=>.inl ((o2.kept g3).block_ge q e))
  · have:n=4:=by omega
    subst this;exact⟨_,_,rfl,ho.row,hk⟩
end Go.Proofs.YtdlomlmijdifbaaGreatDoor
/-! law27.known: the walk. -/
namespace Go.Proofs.YtdlomlmijdifbaaGreatDoor
open Go Go.V Go.RowKit
theorem BT(a b c d:Int)(w:World):(Op.equalIn 10000 37 (.agg #[.int .i64 a,.int .i64 b]) (.agg #[.int .i64 c,.int .i64 d])).run P w=.ok (decide (a=c/\b=d)) w:=by
 rw[run_equalIn_struct w 9999 37 _ _ (by kernel_rfl) (by kernel_rfl)];obtain ⟨f, g, Ge, Fk, Fj, Gf, Gc, Gb, Ga⟩ : ∃ f g : Field, (P.fieldsOf 37).toList = [f, g] ∧ f.name = "Line" ∧ f.type = 3 ∧ f.offset = 0 ∧ g.name = "Col" ∧ g.type = 3 ∧ g.offset = 1 :=
  ⟨((P.fieldsOf 37).toList)[0]!,((P.fieldsOf 37).toList)[1]!,by kernel_rfl,by kernel_rfl,by kernel_rfl,by kernel_rfl,by kernel_rfl,by kernel_rfl,by kernel_rfl⟩
 rw[Ge];have u1:P.underlying 3=some (.int .i64):=by kernel_rfl
 have p1:P.plainKey 3=true:=by kernel_rfl
 have e1:∀(x y:Int)(w:World),(part 3 #[.int .i64 x,.int .i64 y] 0).run P w=.ok (.int .i64 x) w:=fun x y w=>run_part_plain w p1 rfl;have e2:∀(x y:Int)(w:World),(part 3 #[.int .i64 x,.int .i64 y] 1).run P w=.ok (.int .i64 y) w:=fun x y w=>run_part_plain w p1 rfl;have q1:∀(x y:Int)(w:World),(Op.equalIn 9999 3 (.int .i64 x) (.int .i64 y)).run P w=.ok (x ==y) w:=fun x y w=>run_equalIn_int w 9998 _ _ _ _ _ u1;simp only[Op.eqFields,Fk,Fj,Gf,Gc,Gb,Ga,Sem.run_bind,Sem.run_ite,e1,e2,q1,Result.andThen_ok];by_cases h1:a=c <;>by_cases h2:b=d <;>simp[h1,h2]
theorem oF(s t:Operand)(a b c d:Int)(w:World):Sem.run P (do eqGuard .eql 37 s t (.agg #[.int .i64 a,.int .i64 b]) (.agg #[.int .i64 c,.int .i64 d]);Go.binOp .eql 37 (.agg #[.int .i64 a,.int .i64 b]) (.agg #[.int .i64 c,.int .i64 d]):Sem Value) w=.ok (.bool (decide (a=c/\b=d))) w:=by
 rw[Sem.run_bind,run_eqGuard_agg w .eql 37 s t _ _ (by kernel_rfl),Result.andThen_ok,run_eql_struct w,BT];rfl
abbrev tx1:List Int:=[115,101,101,107,32,53,10,99,111,117,110,116,10]
abbrev tx2:List Int:=[99,111,117,110,116,10,67,111,117,110,116,10]
theorem par1:AB tx1=([⟨1,5,0,0⟩,⟨4,0,0,0⟩],0,0,0):=by kernel_rfl
theorem par2:AB tx2=([],2,1,30):=by kernel_rfl
theorem pri1:gZ [⟨1,5,0,0⟩,⟨4,0,0,0⟩]=tx1:=by
 have d:bJ 5=[53]:=by unfold bJ;rfl
 unfold gZ;simp[lD,dQ,dL,d,aY]
theorem tx1_b:aZ tx1:=by unfold aZ tx1;decide
theorem tx2_b:aZ tx2:=by unfold aZ tx2;decide
theorem pU{w:World}(ht:qC w):Calls P 7 #[] w fun ev w'=>ev=.returned (.bool true)/\w.grownBy w' none:=by
 apply vc7;dsimp only[VC7,rb,Wt,Br,Bb,Rd,Ix,Ap,Eg,Ws,cB,cS,cT,nb,iq];refine(iE (l:=tx1) (by decide) tx1_b).mono fun ev w1 hh=>?_;rw[par1]at hh;obtain⟨A1,n1,c1,rfl,EX,o1,g1⟩:=hh;replace EX:n1=2:=EX;subst EX;obtain⟨v1,Ic,l1,l2,l3,l4,p1,gv1⟩:=BI w1 37 (.int .i64 0) (.int .i64 0) (.int .i64 0) (.int .i64 0);refine⟨_,_,_,_,_,_,rfl,l1,l2,l3,l4,?_⟩;rw[← Ic];refine(iE (l:=tx2) (by decide) tx2_b).mono fun ev w2 hh=>?_;rw[par2]at hh;obtain⟨A2,n2,c2,rfl,FU,o2,g2⟩:=hh;replace FU:n2=0:=FU;subst FU;obtain⟨v2,Jq,l1,l2,l3,l4,p2,gv2⟩:=BI w2 37 (.int .i64 0) (.int .i64 0) (.int .i64 2) (.int .i64 1);refine⟨_,_,_,_,_,_,rfl,l1,l2,l3,l4,?_⟩;rw[← Jq];refine oK.mono fun ev w3 hh=>?_;obtain⟨A3,n3,c3,rfl,o3,g3⟩:=hh;have n3e:n3=lJ.length:=by have:=o3.cases.1;simp[dB]at this;omega
 refine⟨_,_,_,_,rfl,(uN o3.row n3e (qR o3)).mono fun ev w4 hh=>?_⟩;obtain⟨r,rfl,hR,hr,g4⟩:=hh;have Ik:r<w4.heap.size:=by obtain⟨RA,d,bv,h⟩:=hR;exact(Array.getElem?_eq_some_iff.1 h).1
 have Ef:=aB gv1 g2;have Fu:=aB (aB gv2 g3) g4;have G14:=aB Ef Fu;obtain⟨w5,GZ,g5,b5⟩:=cC w4 #[.int .i64 4,.int .i64 0,.int .u64 0,.int .u64 0] 47;have own:aE w5 w4.heap.size 47 4 (some ⟨w4.heap.size,0,none⟩) 1 1 (dP [⟨4,0,0,0⟩]):=aE.of_block (Nat.le_refl _) b5 (Nat.le_refl _) (by simp only[maxLen];omega) rfl rfl rfl;have Ku:=aB G14 g5;have HX:=o1.kept Ku;obtain⟨A6,n6,c6,w6,r6,o6,g6,Fy⟩:=eJ (m:=2) (d:=c1) own HX.row rfl (fun e=>by
  rcases HX.cases.2 with⟨_,h,_⟩ | ⟨g,cur,h,_⟩
  ·cases h
  ·cases e.symm.trans h) (by omega) (by have:=g5.size;omega)
 have G56:w4.grownBy w6 none:=aN g5 g6 (fun k hk=>by cases hk;exact Nat.le_refl _);obtain⟨w7,Jn,g7,b7⟩:=cC w6 #[.int .i64 0,.int .i64 0,.int .u64 0,.int .u64 0] 47;obtain⟨A8,n8,c8,w8,r8,o8,g8,Hi⟩:=eJ (m:=1) (d:=1) (o6.kept g7) (nJ (c:=⟨0,0,0,0⟩) b7) rfl (fun e=>by cases e) (by omega) (by have:=(aB G56 g7).size;omega);have G58:w4.grownBy w8 none:=aN (aB G56 g7) g8 (fun k hk=>(o6.kept g7).block_ge k hk);have e8:n8=4:=by omega
 subst e8;refine⟨_,_,rfl,fun e=>(by cases e),fun _=>⟨_,_,_,w6,by rw[← GZ];exact r6,_,_,_,w8,by rw[← Jn];exact r8,(xD (hR.kept G58) o8.row (fun a ha e=>by have:=o8.block_ge a.block (by rw[ha];rfl);omega)).mono fun ev w9 hh=>?_⟩⟩;obtain⟨A9,c9,rfl,rows9,K9⟩:=hh;have z14:=G14.size;have z1:=g1.size;have zv1:=gv1.size;have z2:=g2.size;have zv2:=gv2.size;have z3:=g3.size;have z58:=G58.size;have lt1:=(Array.getElem?_eq_some_iff.1 p1).1;have lt2:=(Array.getElem?_eq_some_iff.1 p2).1;have keep:∀ {q:Nat} {x:Obj},q<v2.heap.size->v2.heap[q]?=some x->w9.heap[q]?=some x:=fun {q x} hq hx=>by
  have h8:=aD (aD (aD (aD hx g3) g4) G58) (aF _ _);rw[K9.block _ (Array.getElem?_eq_some_iff.1 h8).1 (fun e=>by omega)];exact h8
 have p1':=keep (by omega) (aD (aD p1 g2) gv2);have p2':=keep lt2 p2;have GA:w.grownBy w9 none:=((Kp.of_none (aB (aB g1 G14) G58)).then K9 (fun q hq e=>e)).grown (fun q hq e=>by omega);have row1:bF w9 A1 (dP [⟨1,5,0,0⟩,⟨4,0,0,0⟩]):=((o1.kept G14).kept G58).row.kp K9 (fun a ha _ e=>by
  have:=(World.ownsRow.lt o1 a.block (by rw[ha];rfl)).2;omega)
 obtain⟨a1,rfl,f0,f1,f2,f3⟩:=iQ row1 (j:=0) (by decide);simp only[Nat.zero_mul,pI]at f0 f1 f2 f3;obtain⟨a9,rfl,_⟩:=rows9 0 _ rfl;have at9:∀(j:Nat)(v:Value),(AW aQ)[j]?=some v->w9.cell? (a9.add j)=some v:=fun j v hj=>by obtain⟨b,q,e⟩:=rows9 j v hj;cases q;exact e
 have T9:qC w9:=ht.kept GA;refine⟨_,_,_,rfl,fun _=>⟨_,aA p1' 0,_,aA p1' 1,_,fun w=>oF _ _ _ _ _ _ w,fun _=>?_,fun e=>absurd e (by decide)⟩,fun e=>absurd rfl e⟩;refine⟨fun _=>⟨_,rfl,by omega,by omega,5,f1,fun _=>?_,fun e=>absurd rfl e⟩,fun e=>absurd rfl e⟩;refine⟨fun _=>⟨_,aA p2' 0,_,aA p2' 1,_,fun w=>oF _ _ _ _ _ _ w,fun _=>?_,fun e=>absurd e (by decide)⟩,fun e=>absurd rfl e⟩;refine⟨fun _=>⟨_,rfl,by omega,by omega,29,at9 1 _ rfl,fun _=>?_,fun e=>absurd rfl e⟩,fun e=>absurd rfl e⟩;refine⟨_,rfl,by omega,by omega,0,by rw[dD];exact at9 3 _ rfl,fun _=>?_,fun e=>absurd rfl e⟩;refine⟨_,rfl,by omega,by omega,3,at9 4 _ rfl,fun _=>?_,fun e=>absurd rfl e⟩;refine⟨_,rfl,by omega,by omega,30,by rw[dD];exact at9 7 _ rfl,fun _=>?_,fun e=>absurd rfl e⟩;refine(oA row1 rfl (by decide) (fun c hc=>by simp at hc;rcases hc with rfl | rfl <;>(unfold cA;decide)) T9).mono fun ev En hh=>?_;obtain⟨rfl,EJ⟩:=hh;rw[pri1];refine⟨_,rfl,_,fun w=>gT _ _ _ _ w,fun _=>?_,fun e=>?_⟩
 ·obtain⟨a2,q,e0,e1,e2,e3⟩:=iQ (row1.kept_none EJ) (j:=0) (by decide);cases q;simp only[Nat.zero_mul,pI]at e0 e1 e2 e3;refine⟨_,rfl,by omega,by omega,_,e0,_,e1,_,e2,_,e3,(cR (c:=⟨1,5,0,0⟩) (by unfold zH;decide)).mono fun ev DC hh=>?_⟩;obtain⟨rfl,HS⟩:=hh;refine⟨_,rfl,fun _=>(cR (c:=⟨0,0,0,0⟩) (by unfold zH;decide)).mono fun ev E8 hh=>?_,fun e=>absurd e (by decide)⟩;obtain⟨rfl,g12'⟩:=hh;refine⟨_,rfl,fun _=>xC.mono fun ev E7 hh=>?_,fun e=>absurd (by decide) e⟩;obtain⟨rfl,rfl⟩:=hh;exact⟨_,_,_,rfl,rfl,aB GA (aB (aB EJ HS) g12')⟩
 ·exact absurd e (by rw[decide_eq_false_iff_not];exact fun h=>h (by rfl))
end Go.Proofs.YtdlomlmijdifbaaGreatDoor
/-! What a script row's condition gives: the table of tens. -/
namespace Go.Proofs.YtdlomlmijdifbaaGreatDoor
open Go Go.V Go.RowKit
abbrev kI : List (String × DataW Unit) := [("math/bits.deBruijn32tab", Rows.laid_math_bits_deBruijn32tab), ("math/bits.deBruijn64tab", Rows.laid_math_bits_deBruijn64tab), ("internal/strconv.uint64pow10", Rows.laid_internal_strconv_uint64pow10)]
theorem Ci:Rows.laid_internal_strconv_uint64pow10=(Lib.tabData .u64 Lib.pow10Tab:DataW Unit):=by kernel_rfl
theorem Bp{W:World}(h:laidMetH P kI W):qC W:=by
 rw[MakeChecks.laidMetH_plain _ _ _ (by kernel_rfl)]at h;have h3:=h.tail.tail;rw[Ci]at h3;exact Lib.tabIs_of_head C4 (by kernel_rfl) (t:=(P.globals[0]!).type) (e:=28) (n:=20) (by kernel_rfl) (by kernel_rfl) (by kernel_rfl) (by kernel_rfl) h3
theorem BJ(os:Os)(args:Array Value):laidMetH P kI ((World.laidAll P os kI).forCall (fun _ _=>0) ⟨#[],args,[]⟩).memory:=by
 rw[MakeChecks.laidMetH_plain _ _ _ (by kernel_rfl)];exact laidMet_laidAll _ (by kernel_rfl) (by kernel_rfl)
end Go.Proofs.YtdlomlmijdifbaaGreatDoor
/-! law27.ScriptWords: the walk. -/
namespace Go.Proofs.YtdlomlmijdifbaaGreatDoor
open Go Go.V Go.RowKit
theorem kw_b(k:Int):aZ (dL k):=by
 unfold dL aZ;split
 ·decide
 split
 ·decide
 split
 ·decide
 split
 ·decide
 split
 ·decide
 split
 ·decide
 ·decide
theorem arg_b(c:Cm):aZ (dQ c):=by
 have h:=AR;unfold dQ;have sp:∀ {l:List Int},aZ l->aZ (32 ::l):=fun hl x hx=>by
  rcases List.mem_cons.1 hx with rfl | hx
  ·decide
  ·exact hl x hx
 split
 ·exact sp (h _)
 split
 ·intro x hx;rw[List.mem_append]at hx;rcases hx with hx | hx
  ·exact sp (h _) x hx
  ·exact sp (h _) x hx
 split
 ·exact sp (h _)
 ·intro x hx;cases hx
theorem apB{a b:List Int}(ha:aZ a)(hb:aZ b):aZ (a++b):=fun x hx=>by
 rcases List.mem_append.1 hx with hx | hx
 ·exact ha x hx
 ·exact hb x hx
abbrev wantA:Array Value:=#[.int .i64 21,.int .i64 21,.int .i64 21,.int .i64 20,.int .i64 30]
end Go.Proofs.YtdlomlmijdifbaaGreatDoor
/-! archipelagoseat.Time and Script: the walks. -/
namespace Go.Proofs.YtdlomlmijdifbaaGreatDoor
open Go Go.V Go.RowKit
theorem uE{w:World}{A:OA}{n c:Nat}{l:List dK}{N k:Int}(hr:bF w A (bZ l))(hn:n=l.length)(hl:n<=2^20)(hk:0<=k/\k<=255)(hb:∀ e∈l,0<=e.t/\e.t<=2251799813685248):
    Calls P 24 #[.agg #[.int .u64 N,.slice A n c],.int .u8 k] w fun ev w'=>∃ t:Int,ev=.returned (.int .i64 t)/\t<=9223372036854775807/\w.grownBy w' none:=by
  apply vc24;dsimp only[VC24,Br,Rd,Rs,Ix,nb,al,iq]
  try simp only[aI]
  obtain⟨w0,Ep,g0,b0⟩:=cC w #[.int .u64 N,.slice A n c] 31;rw[← Ep];have gd:=aG (aF w0 none);have bd:=aD b0 gd;have g0d:=aB g0 gd;obtain⟨w1,Dv⟩:∃ w1,w1=w0.drew:=⟨_,rfl⟩;rw[← Dv]at gd bd g0d ⊢;have g2:=World.grownBy_alloc w0 (.cells #[.int .i64 0,.int .i64 5,.int .i64 4611686018427387903,.int .i64 9223372036854775807,.int .i64 (-1),.int .i64 (-9223372036854775808)] 2) none;have b2:=heap_alloc_new w0 (.cells #[.int .i64 0,.int .i64 5,.int .i64 4611686018427387903,.int .i64 9223372036854775807,.int .i64 (-1),.int .i64 (-9223372036854775808)] 2);have lit:∀ j:Int,0<=j->j<6->∃ x:Int,(w0.alloc (.cells #[.int .i64 0,.int .i64 5,.int .i64 4611686018427387903,.int .i64 9223372036854775807,.int .i64 (-1),.int .i64 (-9223372036854775808)] 2)).cell? (Addr.add ⟨w0.heap.size,0,none⟩ j.toNat)=some (.int .i64 x)/\x<=9223372036854775807:=by
    intro j h0 h6;have e:Addr.add ⟨w0.heap.size,0,none⟩ j.toNat=⟨w0.heap.size,j.toNat,none⟩:=bS _ _;rw[e,aA b2];obtain⟨q,rfl⟩:∃ q:Nat,j=(q:Int):=⟨j.toNat,by omega⟩;have:q=0∨q=1∨q=2∨q=3∨q=4∨q=5:=by omega
    rcases this with rfl | rfl | rfl | rfl | rfl | rfl <;>exact⟨_,rfl,by omega⟩
  obtain⟨x,hx,Gy⟩:=lit (k % 6) (by omega) (by omega);refine⟨_,_,_,aA b0 1,fun h0=>⟨by omega,_,rfl,by omega,by omega,x,hx,x,rfl,Gy,aB g0 g2⟩,fun h0=>⟨fun HJ=>⟨by omega,_,rfl,by omega,by omega,x,hx,x,rfl,Gy,aB g0 g2⟩,fun HJ=>?_⟩⟩;have KN:0<l.length:=by omega
  have h1:=Int.emod_nonneg (k / 3) (show(n:Int)≠0 by omega);have h2:=Int.emod_lt_of_pos (k / 3) (show(0:Int)<(n:Int) by omega);obtain⟨p,hp⟩:∃ p:Nat,(p:Int)=k / 3 % (n:Int):=⟨(k / 3 % (n:Int)).toNat,by omega⟩;obtain⟨a,e1,e2,_⟩:=mI (hr.kept_none g0d) (show p<l.length by omega);have ht:=hb _ (List.getElem_mem (show p<l.length by omega));refine⟨_,_,_,aA bd 1,⟨by omega,by omega,by omega,by omega⟩,by omega,_,_,_,aA bd 1,⟨by omega,by omega⟩,a,e1,by omega,by omega,l[p].t,?_,⟨by omega,by omega⟩,by omega,by omega,by omega,_,rfl,by omega,g0d⟩;rw[← hp];exact e2
abbrev Dh(c:Cm):Array Value:=#[.int .i64 c.k,.int .i64 c.t,.int .u64 c.u,.int .u64 c.v]
theorem wZ {w:World} {A B:OA} {n c m d:Nat} {l:List dK} {N:Int} {u:List Int} (hA:bF w A (bZ l)) (hn:n=l.length) (hl:n<=2^20) (Hw:∀ e∈l,0<=e.t/\e.t<=2251799813685248) (hN:1<=N/\N<=4294967296) (hB:bF w B (dB u)) (hm:m=u.length) (hu:aZ u) (It:m<=2^20) :
    Calls P 9 #[.agg #[.int .u64 N,.slice A n c],.slice B m d] w fun ev w'=>∃(A':OA)(n' c':Nat)(cs:List Cm),ev=.returned (.slice A' n' c')/\n'=cs.length/\cs.length<=m/\(∀ c∈cs,cA c)/\aE w' w.heap.size 47 4 A' n' c' (dP cs)/\w.grownBy w' none:=by
  apply vc9;dsimp only[VC9,Wt,Br,Bb,Rd,Rs,Ix,Ap,Ws,cI,nb,iq]
  try simp only[aI,mnI]
  obtain⟨w0,Ep,g0,b0⟩:=cC w #[.int .u64 N,.slice A n c] 31;rw[← Ep];refine⟨fun mm O on oc x W=>∃(q:Nat)(cs:List Cm),x=(q:Int)/\q<=u.length/\mm=u.length-q/\on=cs.length/\cs.length<=q/\(∀ c∈cs,cA c)/\aE W w.heap.size 47 4 O on oc (dP cs)/\W.heap[w.heap.size]?=some (.cells #[.int .u64 N,.slice A n c] 31 (0,0))/\w.grownBy W none,⟨u.length,0,[],rfl,Nat.zero_le _,rfl,rfl,Nat.le_refl _,(fun c h=>by cases h),aE.nil _ _ _ _,b0,g0⟩,?_⟩;rintro mm O on oc x W ⟨q,cs,rfl,hq,rfl,rfl,K0,Ee,ho,bh,gW⟩;refine⟨⟨by omega,by omega⟩,fun Dp=>?_,fun Du=>⟨_,_,_,cs,rfl,rfl,by omega,Ee,ho,gW⟩⟩;have q1:((q:Int)+1).toNat=q+1:=by omega
  have q2:((q:Int)+2).toNat=q+2:=by omega
  have q0:(q:Int).toNat=q:=by omega
  rw[q0,q1,q2];have Hd:q<u.length:=by omega
  have Fx:q+1<u.length:=by omega
  have Hc:q+2<u.length:=by omega
  obtain⟨a,rfl⟩:∃ a,B=some a:=by obtain⟨a,e,_⟩:=hB q (.int .u8 u[q]) (by simp[dB,Hd]);exact⟨a,e⟩
  have rB:∀ {V:World},w.grownBy V none->∀ {j:Nat} (hj:j<u.length),V.cell? (a.add j)=some (.int .u8 u[j]):=fun {V} g {j} hj=>by
    obtain⟨b,e,h⟩:=hB.kept_none g j (.int .u8 u[j]) (by simp[dB,hj]);cases e;exact h
  have x0:=hu _ (List.getElem_mem Hd);have x1:=hu _ (List.getElem_mem Fx);have x2:=hu _ (List.getElem_mem Hc);obtain⟨v,hv,l1,l2,l3,l4,l5,l6,l7,l8,b1,gv⟩:=CW W 47 (.int .i64 0) (.int .i64 0) (.int .u64 0) (.int .u64 0) (.int .i64 (u[q] % 8+1)) (.int .i64 0) (.int .u64 0) (.int .u64 0);have w1:=gW.size;have lw:=(Array.getElem?_eq_some_iff.1 bh).1;have zv:=gv.size;have lb:=(Array.getElem?_eq_some_iff.1 b1).1;refine⟨_,rfl,by omega,by omega,_,rB gW Hd,⟨by omega,by omega⟩,⟨by omega,by omega⟩,⟨by omega,by omega⟩,l1,l2,l3,l4,l5,l6,l7,l8,?_⟩;rw[← hv];have gWv:=aB gW gv;refine⟨fun V=>∃ K:Int,(1<=K/\K<=6)/\V.heap[W.heap.size]?=some (.cells #[.int .i64 K,.int .i64 0,.int .u64 0,.int .u64 0] 47 (0,0))/\W.grownBy V none,⟨_,aA b1 0,fun h6=>?_,fun h6=>?_⟩,?_⟩
  · have s:=aH b1 0 (.int .i64 1);have K1:=cJ (j:=0) (u:=.int .i64 1) (Kp.refl v (fun q=>q=W.heap.size)) rfl;exact⟨⟨_,aA b1 0⟩,aC b1 0,1,by omega,by simpa using s,((Kp.of_none gv).then K1 (fun q _ e=>e)).grown (fun q hq e=>by omega)⟩
  · exact⟨_,⟨by omega,by omega⟩,b1,gv⟩
  rintro V ⟨K,hK,bK,gV⟩;have gWV:=aB gW gV;have gd:=aG gWV;have hd:=aD bh (aG gV);have bKd:V.drew.heap[W.heap.size]?=some (.cells #[.int .i64 K,.int .i64 0,.int .u64 0,.int .u64 0] 47 (0,0)):=bK;have hF:1<=min N 9+1/\min N 9+1<=10:=by omega
  refine⟨N,aA (aD bh gV) 0,?_⟩;generalize min N 9+1=F at hF ⊢;have m1:0<=u[q+1] % F/\u[q+1] % F<=255:=⟨Int.emod_nonneg _ (by omega),by have:=Int.emod_lt_of_pos u[q+1] (show 0<F by omega);omega⟩;have m2:0<=u[q+2] % F/\u[q+2] % F<=255:=⟨Int.emod_nonneg _ (by omega),by have:=Int.emod_lt_of_pos u[q+2] (show 0<F by omega);omega⟩;refine⟨⟨by omega,by omega⟩,⟨by omega,by omega⟩,a,rfl,by omega,by omega,_,rB gd Fx,⟨by omega,by omega⟩,⟨by omega,by omega⟩,⟨by omega,by omega⟩,a,rfl,by omega,by omega,_,rB gd Hc,⟨by omega,by omega⟩,⟨by omega,by omega⟩,fun uu V'=>(0<=uu/\uu<=18446744073709551615)/\V'=V.drew,⟨⟨by omega,by omega⟩,a,rfl,by omega,by omega,_,rB gd Fx,fun _=>⟨N,aA hd 0,⟨by omega,by omega⟩,⟨by omega,by omega⟩,rfl⟩,fun _=>⟨⟨by omega,by omega⟩,rfl⟩⟩,?_⟩;rintro uu V' ⟨KC,rfl⟩;refine⟨fun vv V'=>(0<=vv/\vv<=18446744073709551615)/\V'=V.drew,⟨⟨by omega,by omega⟩,a,rfl,by omega,by omega,_,rB gd Hc,fun _=>⟨N,aA hd 0,⟨by omega,by omega⟩,rfl⟩,fun _=>⟨⟨by omega,by omega⟩,rfl⟩⟩,?_⟩;rintro vv V' ⟨Ic,rfl⟩;have zV:=gV.size;refine⟨K,aA bKd 0,fun U=>∃ c:Cm,cA c/\U.heap[W.heap.size]?=some (.cells (Dh c) 47 (0,0))/\W.grownBy U none,⟨fun h1=>?_,fun h1=>?_⟩,?_⟩
  · have gdd:=aG gd;have IF:=aD hd (aG (aF V.drew none));have bKdd:=aD bKd (aG (aF V.drew none));refine⟨N,aA IF 0,?_⟩;refine⟨_,_,_,aA IF 1,?_⟩;refine⟨⟨by omega,by omega⟩,a,rfl,by omega,by omega,?_⟩;refine⟨_,rB gdd Fx,?_⟩;have T:=uE (w:=V.drew.drew) (c:=c) (N:=N) (hA.kept_none gdd) hn hl x1 Hw;refine T.mono fun ev V2 hh=>?_;obtain⟨t,rfl,ht,g2⟩:=hh;have b2:=aD bKdd g2;have KL:0<=mx t 0/\mx t 0<=9223372036854775807:=by unfold mx;split <;>omega
    have s:=aH b2 1 (.int .i64 (mx t 0));have K1:=cJ (j:=1) (u:=.int .i64 (mx t 0)) (Kp.refl V2 (fun q=>q=W.heap.size)) rfl;exact⟨_,rfl,⟨_,aA b2 1⟩,aC b2 1,⟨K,mx t 0,0,0⟩,by unfold cA;simp only;omega,by simpa using s,((Kp.of_none (aB (aG (aG gV)) g2)).then K1 (fun q _ e=>e)).grown (fun q hq e=>by omega)⟩
  · refine⟨fun z U=>U=V.drew/\z=decide (K=3∨K=6),⟨fun h=>⟨rfl,by rw[decide_eq_decide];omega⟩,fun h=>⟨rfl,by rw[decide_eq_decide];omega⟩⟩,?_⟩;rintro z U ⟨rfl,rfl⟩;have KW:∀ {X:World},Kp V.drew X (fun q=>q=W.heap.size)->W.grownBy X none:=fun {X} hk=>((Kp.of_none (aG gV)).then hk (fun q _ e=>e)).grown (fun q hq e=>by omega);refine⟨fun h2=>?_,fun h2=>?_⟩
    · have s:=aH bKd 2 (.int .u64 uu);exact⟨⟨_,aA bKd 2⟩,aC bKd 2,⟨K,0,uu,0⟩,by unfold cA;simp only;omega,by simpa using s,KW (cJ (Kp.refl _ _) rfl)⟩
    · refine⟨fun z U=>U=V.drew/\z=decide (K=2∨K=5),⟨fun h=>⟨rfl,by rw[decide_eq_decide];omega⟩,fun h=>⟨rfl,by rw[decide_eq_decide];omega⟩⟩,?_⟩;rintro z U ⟨rfl,rfl⟩;refine⟨fun h4=>?_,fun h4=>?_⟩
      · have s:=aH bKd 2 (.int .u64 uu);have s2:=aH s 3 (.int .u64 vv);exact⟨⟨_,aA bKd 2⟩,aC bKd 2,⟨_,aA s 3⟩,aC s 3,⟨K,0,uu,vv⟩,by unfold cA;simp only;omega,by simpa using s2,KW (cJ (cJ (Kp.refl _ _) rfl) rfl)⟩
      · exact⟨⟨K,0,0,0⟩,by unfold cA;simp only;omega,bKd,aG gV⟩
  rintro U ⟨c',E6,bU,gU⟩;refine⟨_,aA bU 0,_,aA bU 1,_,aA bU 2,_,aA bU 3,?_⟩;obtain⟨w8,GY,g8,b8⟩:=cC U (Dh c') 47;have gU8:=aB gU g8;have zU:=gU8.size;have o8:=ho.kept gU8;obtain⟨A',n',cc',w9,Dw,o9,g9,FS⟩:=eJ (m:=1) (d:=1) o8 (nJ (c:=c') b8) rfl (fun h=>by cases h) (by omega) (by omega);have bh9:w9.heap[w.heap.size]?=some (.cells #[.int .u64 N,.slice A n c] 31 (0,0)):=by
    have h8:=aD bh gU8;rw[g9.block _ (Array.getElem?_eq_some_iff.1 h8).1 (fun e=>zE o8 h8 (by decide) e.symm)];exact h8
  have gW9:w.grownBy w9 none:=aN (aB gW gU8) g9 (fun k hk=>o8.block_ge k hk);refine⟨_,_,_,w9,by rw[← GY];exact Dw,⟨by omega,by omega⟩,u.length-(q+3),by omega,q+3,cs++[c'],by omega,by omega,rfl,by simp;omega,by simp;omega,fun x hx=>?_,o9,bh9,gW9⟩;rcases List.mem_append.1 hx with hx | hx
  · exact Ee x hx
  · rw[List.mem_singleton.1 hx];exact E6
end Go.Proofs.YtdlomlmijdifbaaGreatDoor
/-! law27.ScriptBack: the walk. -/
namespace Go.Proofs.YtdlomlmijdifbaaGreatDoor
open Go Go.V Go.RowKit
theorem lin_b(c:Cm):aZ (lD c):=apB (apB (kw_b _) (arg_b _)) (fun x hx=>by simp at hx;subst hx;decide)
theorem pri_b(l:List Cm):aZ (gZ l):=fun x hx=>by
 unfold gZ at hx;obtain⟨c,_,h⟩:=List.mem_flatMap.1 hx;exact lin_b c x h
theorem jJ{X:List Cm}{q:Nat}(hq:q<X.length):(X.take (q+1)).filter aY=(X.take q).filter aY++(if aY X[q]=true then [X[q]] else []):=by
 rw[List.take_succ_eq_append_getElem hq,List.filter_append,List.filter_cons,List.filter_nil]
theorem tU {w:World} {RA LA NA:OA} {rn rc ln lc nn nc:Nat} {raw:List Cm} {k:Int} {l u:List Int} (hR:bF w RA (dP raw)) (Jx:rn=raw.length) (Jw:RA=none->rc=0) (Jy:∀ c∈raw,cA c) (hk:0<=k/\k<=255)
    (hL:bF w LA (dB l)) (JN:ln=l.length) (Iv:aZ l) (hU:bF w NA (dB u)) (Jr:nn=u.length) (Js:aZ u) (ht:qC w) :
    Calls P 4 #[.slice RA rn rc,.int .u8 k,.slice LA ln lc,.slice NA nn nc] w fun ev w'=>ev=.returned (.bool true)/\w.grownBy w' none:=by
  apply vc4;dsimp only[VC4,rb,Wt,Br,Bb,Rd,Rc,Ix,Ap,Eg,Ws,cB,cS,nb,ad,al,iq]
  try simp only[aI]
  refine(pU ht).mono fun ev w1 hh=>?_;obtain⟨rfl,g1⟩:=hh;refine⟨_,rfl,fun e=>absurd e (by decide),fun _=>⟨fun _=>⟨trivial,g1⟩,fun Lf=>⟨fun _=>⟨trivial,g1⟩,fun Le=>⟨fun _=>⟨trivial,g1⟩,fun Ld=>?_⟩⟩⟩⟩;refine(pW (hL.kept_none g1) JN Iv hk (by omega)).mono fun ev w2 hh=>?_;obtain⟨A2,n2,c2,rfl,o2,g2⟩:=hh;have l2:n2=(fE k l).length:=by have:=o2.cases.1;rw[eI]at this;omega
  obtain⟨_,Hw⟩:=vH (k:=k) Iv (by omega);have hV:=nS k;have KT:=nD k l;refine⟨_,_,_,_,rfl,(wZ o2.row l2 (by omega) (fun e he=>by have:=(Hw e he).1;omega) (by omega) (hU.kept_none (aB g1 g2)) Jr Js (by omega)).mono fun ev w3 hh=>?_⟩;obtain⟨A3,n3,c3,cs,rfl,rfl,Ee,Hz,o3,g3⟩:=hh;have DF:=aB (aB g1 g2) g3;have z3:=(aB g1 g2).size;obtain⟨A4,n4,c4,w4,r4,o4,g4,EG⟩:=eJ (m:=rn) (d:=rc) o3 (hR.kept_none DF) Jx Jw (by omega) g3.size;have ED:w.grownBy w4 none:=aN DF g4 (fun j hj=>Nat.le_trans z3 (o3.block_ge j hj));have hX:∀ c∈cs++raw,cA c:=fun c hc=>by
    rcases List.mem_append.1 hc with h | h
    · exact Hz c h
    · exact Jy c h
  have GJ:n4=(cs++raw).length:=by rw[List.length_append];omega
  have row4:=o4.row;have Hp:(cs++raw).length<=65:=by rw[← GJ];omega
  generalize cs++raw=X at hX GJ row4 Hp;refine⟨_,_,_,rfl,_,_,_,w4,r4,fun m A n c x W=>∃ q:Nat,x=(q:Int)/\q<=X.length/\m=X.length-q/\n=((X.take q).filter aY).length/\aE W w4.heap.size 47 4 A n c (dP ((X.take q).filter aY))/\w4.grownBy W none,⟨X.length,0,rfl,Nat.zero_le _,rfl,by simp,by rw[List.take_zero];exact aE.nil _ _ _ _,aF _ _⟩,?_⟩;rintro m A n c x W ⟨q,rfl,hq,rfl,rfl,ho,gW⟩;have tq:(q:Int).toNat=q:=by omega
  rw[tq];refine⟨fun Dp=>?_,fun Du=>?_⟩
  · have Fw:q<X.length:=by omega
    obtain⟨a,rfl,f0,f1,f2,f3⟩:=iQ (w:=W.drew) (row4.kept_none (aG gW)) Fw;have fc:∀ {V:World},W.drew.grownBy V none->V.cell? (a.add (q*4))=some (.int .i64 X[q].k)/\V.cell? ((a.add (q*4)).add 1)=some (.int .i64 X[q].t)/\V.cell? ((a.add (q*4)).add 2)=some (.int .u64 X[q].u)/\V.cell? ((a.add (q*4)).add 3)=some (.int .u64 X[q].v):=fun {V} g=>by
      obtain⟨b,e,h⟩:=iQ (row4.kept_none (aB (aG gW) g)) Fw;cases e;exact h
    refine⟨fun V=>W.drew.grownBy V none,aF _ _,a,rfl,by omega,by omega,_,f0,_,f1,_,f2,_,f3,(cR (c:=X[q]) (by have:=(hX _ (List.getElem_mem Fw)).1;unfold zH;exact this)).mono fun ev V5 hh=>?_⟩;obtain⟨rfl,v5⟩:=hh;refine⟨_,rfl,v5,a,rfl,by omega,by omega,_,fun _ h=>(fc h).1,_,fun _ h=>(fc h).2.1,_,fun _ h=>(fc h).2.2.1,_,fun _ h=>(fc h).2.2.2,(iH X[q]).mono fun ev V6 hh=>?_⟩;obtain⟨rfl,v6⟩:=hh;have v56:=aB v5 v6;refine⟨_,rfl,v56,_,fun w=>Cl _ _ _ _ w,fun e=>absurd e (by simp),fun _=>⟨a,rfl,by omega,by omega,_,(fc v56).1,_,(fc v56).2.1,_,(fc v56).2.2.1,_,(fc v56).2.2.2,(iH X[q]).mono fun ev V7 hh=>?_⟩⟩;obtain⟨rfl,v7⟩:=hh;have v57:=aB v56 v7;have gW7:W.grownBy V7 none:=⟨v57.os,v57.tape,v57.output,v57.size,v57.block⟩;have HN:=aB gW gW7;refine⟨_,rfl,fun hr=>⟨a,rfl,by omega,by omega,_,(fc v57).1,_,(fc v57).2.1,_,(fc v57).2.2.1,_,(fc v57).2.2.2,?_⟩,fun hr=>⟨⟨by omega,by omega⟩,X.length-(q+1),by omega,q+1,by omega,by omega,rfl,?_,?_,HN⟩⟩
    · obtain⟨w8,GY,g8,b8⟩:=cC V7 (Dh X[q]) 47;have z48:=(aB HN g8).size;have o8:=ho.kept (aB gW7 g8);have KV:((X.take q).filter aY).length<=q:=by
        have:=List.length_filter_le aY (X.take q);rw[List.length_take]at this;omega
      obtain⟨A',n',cc',w9,Dw,o9,g9,FS⟩:=eJ (m:=1) (d:=1) o8 (nJ (c:=X[q]) b8) rfl (fun h=>by cases h) (by omega) (by omega);have e:=jJ Fw;rw[if_pos hr]at e;refine⟨_,_,_,w9,by rw[← GY];exact Dw,⟨by omega,by omega⟩,X.length-(q+1),by omega,q+1,by omega,by omega,rfl,?_,by rw[e];exact o9,aN (aB HN g8) g9 (fun k hk=>o8.block_ge k hk)⟩;rw[e,List.length_append];exact FS
    · rw[jJ Fw,if_neg (by simp[hr])];simp
    · rw[jJ Fw,if_neg (by simp[hr]),List.append_nil];exact ho.kept gW7
  · have JB:q=X.length:=by omega
    subst JB;rw[List.take_length]at ho ⊢;have gA:=aB ED gW;refine(oA (row4.kept_none gW) GJ (by omega) hX (ht.kept gA)).mono fun ev V5 hh=>?_;obtain⟨rfl,v5⟩:=hh;have Ip:=nK hX;refine⟨_,rfl,(iE (l:=gZ X) (by omega) (pri_b _)).mono fun ev V6 hh=>?_⟩;rw[Cq hX]at hh;obtain⟨A6,n6,c6,rfl,Fy,o6,v6⟩:=hh;obtain⟨V7,Kf,l1,l2,l3,l4,p7,v7⟩:=BI V6 37 (.int .i64 0) (.int .i64 0) (.int .i64 0) (.int .i64 0);refine⟨_,_,_,_,_,_,rfl,l1,l2,l3,l4,?_⟩;rw[← Kf];have v57:=aB (aB v5 v6) v7;refine(xF (row4.kept_none (aB gW v57)) GJ (by omega) hX).mono fun ev V8 hh=>?_;obtain⟨rfl,v8⟩:=hh;have p8:=aD p7 v8;have v58:=aB v57 v8;refine⟨_,rfl,_,fun w=>gT _ _ _ _ w,fun _=>⟨fun _=>⟨_,aA p8 0,_,aA p8 1,_,fun w=>oF _ _ _ _ _ _ w,fun _=>?_,fun e=>absurd e (by decide)⟩,fun e=>absurd rfl e⟩,fun e=>absurd rfl (of_decide_eq_false e)⟩;refine(xB (l:=X.filter aY) (q:=X.filter aY) (o6.kept (aB v7 v8)).row (ho.kept v58).row Fy rfl (by have:=List.length_filter_le aY X;omega)).mono fun ev V9 hh=>?_;obtain⟨rfl,v9⟩:=hh;exact⟨_,rfl,by rw[decide_eq_true rfl],aB gA (aB v58 v9)⟩
end Go.Proofs.YtdlomlmijdifbaaGreatDoor
/-! Rows of laws of commands: what such an argument holds. -/
namespace Go.Proofs.YtdlomlmijdifbaaGreatDoor
open Go Go.V Go.ChangeShapes Go.WideShapes Go.ChangeAt Go.RowKit
section
variable {H : Type} {enc : TypeId × Value → H} {W : World}
theorem Bj{n:Nat}{cs:List Value}{y:DataW H×List MemPlace}(h:DataW.trod enc P W 0 (fun _=>true) true n 47 cs=some y):∃ c:Cm,cs=wI c/\cA c:=by
 obtain⟨y0,y1,y2,y3,k,_,hl,h0,h1,h2,h3⟩:=Go.Joins.trod_struct4 Tryz.underlying47 h;have c4:P.cellsOf 47=4:=by kernel_rfl
 have c1:P.cellsOf 3=1:=by kernel_rfl
 have c0:P.cellsOf 2=1:=by kernel_rfl
 have c2:P.cellsOf 28=1:=by kernel_rfl
 rw[c4]at hl
 match cs,hl with
 | [a,b,c,d],_ =>
  simp only[c0,c1,c2,List.drop_zero,List.take_succ_cons,List.take_zero,List.drop_succ_cons,List.take_nil]at h0 h1 h2 h3;obtain⟨x0,e0,_,w0⟩:=DataW.trod_int Tryz.underlying3 h0;obtain⟨x1,e1,_,w1⟩:=DataW.trod_int Tryz.underlying2 h1;obtain⟨x2,e2,_,w2⟩:=DataW.trod_int Tryz.underlying28 h2;obtain⟨x3,e3,_,w3⟩:=DataW.trod_int Tryz.underlying28 h3;cases e0;cases e1;cases e2;cases e3;exact⟨⟨x0,x1,x2,x3⟩,rfl,Bg w0,Bg w1,Bf w2,Bf w3⟩
theorem AD{b:Nat}{r:Reach}{v:Value}{d:DataW H}{p:List MemPlace}(DL:Value.okWide P W r b 26 v)(h0:DataW.Trod enc P W 0 (fun _=>true) true 26 v d p):
    ∃(A:OA)(n c:Nat)(l:List Cm),v=.slice A n c/\n=l.length/\(A=none->c=0)/\bF W A (dP l)/\∀ x∈l,cA x:=by
  obtain⟨A,n,c,rfl⟩:=okWide_slice Tryz.underlying26 DL;obtain⟨fuel,h⟩:=h0;rcases Go.Deep.open_slice Tryz.underlying26 h with⟨e,_⟩ | ⟨a,len,cap,m,k,D,Pl,e,_,hl,_,hm,_,hx⟩
  · simp[Value.cells]at e;obtain⟨rfl,rfl,rfl⟩:=e;exact⟨none,0,0,[],rfl,rfl,fun _=>rfl,bF.nil _ _,by simp⟩
  · simp[Value.cells]at e;obtain⟨rfl,rfl,rfl⟩:=e;rw[if_pos rfl]at hm;have c4:P.cellsOf 47=4:=by kernel_rfl
    rw[c4]at hx;obtain⟨l,JP,EN⟩:=mZ (p:=fun i (e:Cm)=>(∀ j,j<4->W.cell? (a.add (i*4+j))=(wI e)[j]?)/\cA e) n fun i hi=>by
      obtain⟨cs',q1,q2⟩:=hx i (by omega);obtain⟨e,rfl,DL⟩:=Bj q2;obtain⟨_,_,q3⟩:=World.cells?_some q1;exact⟨e,fun j hj=>by rw[← dD];exact q3 j hj,DL⟩
    refine⟨some a,n,c,l,rfl,JP.symm,fun h=>(by cases h),uM (C:=wI) (fun _=>rfl) l a (fun i hi=>(EN i hi).1),fun x hx=>?_⟩;obtain⟨i,hi,rfl⟩:=List.getElem_of_mem hx;exact(EN i hi).2
end
end Go.Proofs.YtdlomlmijdifbaaGreatDoor
