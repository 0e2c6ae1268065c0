/- Own texts, packed: I16, I17, I18, I19, I20, I21, I23, I24, I25, I26, I28, I29. -/
import Derived.Test.YtdlomlmijdifbaaGreatDoorGICg
import Derived.Test.YtdlomlmijdifbaaGreatDoorGIYg
import Derived.Test.YtdlomlmijdifbaaGreatDoorGWCg
import Derived.Test.YtdlomlmijdifbaaGreatDoorGWFg
import Derived.Test.YtdlomlmijdifbaaGreatDoorGWBg
import Derived.Test.YtdlomlmijdifbaaGreatDoorGIBg
import Derived.Test.YtdlomlmijdifbaaGreatDoorGIZg
import Derived.Test.YtdlomlmijdifbaaGreatDoorRows
import Derived.Test.YtdlomlmijdifbaaGreatDoorR4g
import Derived.Stop.LaidErr
import Derived.Handy
import Derived.Lay
import Derived.MakeChecks
import Derived.Test.YtdlomlmijdifbaaGreatDoorGIAg
import Derived.Test.YtdlomlmijdifbaaGreatDoorGNg
import Derived.Test.YtdlomlmijdifbaaGreatDoorGZg
import Derived.Laws.IdiomStrings
set_option linter.unusedVariables false
set_option linter.unusedSimpArgs false
set_option linter.unusedSectionVars false
set_option maxHeartbeats 40000000
set_option maxRecDepth 100000
namespace Go.Proofs.YtdlomlmijdifbaaGreatDoor
open Go Go.V Go.RowKit
theorem C4:kL P 244 247 1 (P.bytesOf 247):=⟨(P.info? 247).getD default,((P.info? 247).getD default).zero.getD undef,by kernel_rfl,by kernel_rfl,by kernel_rfl,by kernel_rfl,by kernel_rfl,by kernel_rfl,by decide⟩
theorem Cp:P.bytesOf 247<=64:=of_decide_eq_true (by kernel_rfl)
def BE(w:World)(f:Nat):Prop:=∃(p:Value)(em:Nat),w.heap[f]?=some (.cells #[p,.int .i64 0,.map (some em),.slice none 0 0] 290 (0,0))/\w.heap[em]?=some (.map #[] 0)
theorem BE.kp{w w':World}{S:Nat->Prop}{f:Nat}(h:BE w f)(hk:Kp w w' S)(hS:∀ q,(∃ c fr,w.heap[q]?=some (.cells c 290 fr))∨(∃ e c,w.heap[q]?=some (.map e c))->¬ S q):BE w' f:=by
 obtain⟨p,em,h1,h2⟩:=h;exact⟨p,em,by rw[hk.block _ (Array.getElem?_eq_some_iff.1 h1).1 (hS _ (.inl ⟨_,_,h1⟩))];exact h1,by rw[hk.block _ (Array.getElem?_eq_some_iff.1 h2).1 (hS _ (.inr ⟨_,_,h2⟩))];exact h2⟩
theorem BE.kept{w w':World}{f:Nat}(h:BE w f)(hg:w.grownBy w' none):BE w' f:=h.kp (S:=fun _=>False) (Kp.of_none hg) (fun _ _ h=>h)
theorem vC{w:World}{sd:Int}:Calls P 179 #[.int .i64 0,.int .u64 sd] w fun ev w'=>∃ f:Nat,ev=.returned (.pointer (some ⟨f,0,none⟩))/\BE w' f/\w.grownBy w' none:=by
 apply vc179;dsimp only[VC179,Br,cI,nb,iq];apply vc208;dsimp only[VC208,nb];obtain⟨W0,En,g0,b0⟩:=bZ w #[.slice none 0 0,.int .u64 (mx sd 1)] 325;rw[← En];have g1:=World.grownBy_alloc W0 (.map #[] 0) none;have b1:=heap_alloc_new W0 (.map #[] 0);obtain⟨W2,Fe,g2,b2⟩:=bZ (W0.alloc (.map #[] 0)) #[.pointer (some ⟨w.heap.size,0,none⟩),.int .i64 0,.map (some W0.heap.size),.slice none 0 0] 290;have hN:mn (mx 0 0) 65536=0:=by decide
 rw[hN];refine⟨_,rfl,_,rfl,?_⟩;rw[← Fe,cV];have EP:=aB (aB g0 g1) g2;refine⟨0,aA b2 1,fun m x W=>W=W2/\x=0,⟨0,rfl,rfl⟩,?_⟩;rintro m x W ⟨rfl,rfl⟩;exact⟨fun h=>absurd h (by decide),fun _=>⟨_,rfl,⟨_,_,b2,aE b1 g2⟩,EP⟩⟩
theorem tD{w:World}{f:Nat}(h:BE w f):Calls P 305 #[.pointer (some ⟨f,0,none⟩)] w fun ev w'=>ev=.returned (.int .i64 0)/\w.grownBy w' none:=by
 apply vc305;dsimp only[VC305,Rd,iq]
 try simp only[aI]
 obtain⟨p,em,h1,h2⟩:=h;have gd:=aG (aF w none);have h1:w.drew.heap[f]?=_:=h1;have h2:w.drew.heap[em]?=_:=h2;generalize w.drew=w1 at h1 h2 gd ⊢;refine⟨_,rfl,0,by rw[aJ];exact aA h1 1,_,rfl,some em,by rw[aJ];exact aA h1 2,0,?_,⟨by omega,by omega,by omega,by omega⟩,⟨by omega,by omega⟩,rfl,gd⟩;rw[run_len_map w1 288 3 em #[] 0 (by kernel_rfl) h2];rfl
def HL(w:World)(g:Nat):Prop:=∃(sd:Int)(M D t o:Value)(la lv f c:Nat),w.heap[g]?=some (.cells #[.int .i64 0,.int .u64 sd,M,.slice (some ⟨la,0,none⟩) 1 c,D] 246 (0,0))/\(∃ cs fr,w.heap[la]?=some (.cells cs 247 fr)/\cs[0]?=some (.pointer (some ⟨lv,0,none⟩))) ∧
 w.heap[lv]?=some (.cells #[.pointer (some ⟨f,0,none⟩),t,o] 260 (0,0))/\BE w f
theorem HL.kp{T:TypeId}{w w':World}{S:Nat->Prop}{g:Nat}(h:HL w g)(hk:Kp w w' S)(hS:∀ q,S q->∃(c:Array Value)(fr:Nat×Nat),w.heap[q]?=some (.cells c T fr))(hT:T=132∨T=61):HL w' g:=by
 obtain⟨sd,M,D,t,o,la,lv,f,c,h1,⟨cs,fr,h2,h3⟩,h4,h5⟩:=h;have keep:∀ {q:Nat} {x:Obj},w.heap[q]?=some x->(∀ c fr,x≠.cells c T fr)->w'.heap[q]?=some x:=fun {q x} hq hx=>by
  rw[hk.block _ (Array.getElem?_eq_some_iff.1 hq).1 fun e=>by
   obtain⟨c,fr,e⟩:=hS _ e;rw[hq]at e;exact hx _ _ (Option.some.inj e)]
  exact hq
 refine⟨sd,M,D,t,o,la,lv,f,c,keep h1 (by intro c fr e;rcases hT with rfl | rfl <;>cases e),⟨cs,fr,keep h2 (by intro c fr e;rcases hT with rfl | rfl <;>cases e),h3⟩,keep h4 (by intro c fr e;rcases hT with rfl | rfl <;>cases e),h5.kp hk ?_⟩;intro q hq e;obtain⟨c,fr,e⟩:=hS _ e;rcases hq with⟨c',fr',e'⟩ | ⟨e1,c',e'⟩ <;>(rw[e]at e';rcases hT with rfl | rfl <;>cases e')
theorem HL.kept{w w':World}{g:Nat}(h:HL w g)(hg:w.grownBy w' none):HL w' g:=h.kp (S:=fun _=>False) (Kp.of_none hg) (fun _ h=>h.elim) (.inl rfl)
def AtI(g:Nat)(w:World)(m:Nat)(W:World):Prop:=(m=1/\W=w)∨(m=0/\HL W g/\w.grownBy W (some g))
theorem Bm{w:World}{g:Nat}(h:HL w g):Calls P 157 #[.pointer (some ⟨g,0,none⟩),.int .i64 0] w fun ev w'=>∃ lv f:Nat,ev=.returned (.pointer (some ⟨lv,0,none⟩))/\w'=w/\w.cell? ⟨lv,0,none⟩=some (.pointer (some ⟨f,0,none⟩))/\BE w f:=by
 apply vc157;dsimp only[VC157,Br,Rc,Rs,Ix,Ap,Ws,nb,iq];obtain⟨sd,M,D,t,o,la,lv,f,c,h1,⟨cs,fr,h2,h3⟩,h4,h5⟩:=h;refine⟨fun m W=>W=w,⟨0,rfl⟩,?_⟩;rintro m W rfl;refine⟨_,rfl,_,_,_,by rw[bB];exact aA h1 3,fun DR=>absurd DR (by decide),fun _=>?_⟩;exact⟨_,rfl,_,_,_,by rw[bB];exact aA h1 3,_,rfl,by omega,by omega,_,by
  first
   | exact(aA h2 0).trans h3
   | (rw[bB];exact(aA h2 0).trans h3)
   | (rw[qF];exact(aA h2 0).trans h3),_,_,rfl,rfl,aA h4 0,h5⟩
theorem zI {w:World} {g:Nat} {sd:Int} {M D:Value} (hg:w.heap[g]?=some (.cells #[.int .i64 0,.int .u64 sd,M,.slice none 0 0,D] 246 (0,0))):Calls P 157 #[.pointer (some ⟨g,0,none⟩),.int .i64 0] w fun ev w'=>(∃ lv:Nat,ev=.returned (.pointer (some ⟨lv,0,none⟩)))/\HL w' g/\w.grownBy w' (some g):=by
  apply vc157;dsimp only[VC157,Br,Rc,Rs,Ix,Ap,Ws,nb,iq];refine⟨AtI g w,⟨1,.inl ⟨rfl,rfl⟩⟩,?_⟩;have lt:=(Array.getElem?_eq_some_iff.1 hg).1;rintro m W (⟨rfl,rfl⟩ | ⟨rfl,hH,hG⟩)
  · refine⟨_,rfl,_,_,_,by rw[bB];exact aA hg 3,fun _=>?_,fun DR=>absurd (by decide) DR⟩;have g2:=aG (aF W none);obtain⟨w2,ES⟩:∃ w2,w2=W.drew:=⟨_,rfl⟩;have h2:w2.heap[g]?=some (.cells #[.int .i64 0,.int .u64 sd,M,.slice none 0 0,D] 246 (0,0)):=by rw[ES];exact hg
    rw[← ES]at g2 ⊢;have z2:=g2.size;have kb:∀ W',w2.grownBy W' none->W'.heap[g]?=some (.cells #[.int .i64 0,.int .u64 sd,M,.slice none 0 0,D] 246 (0,0)):=fun W' h=>aE h2 h;have c3:∀ W',w2.grownBy W' none->W'.cell? (Addr.add ⟨g,0,none⟩ 3)=some (.slice none 0 0):=fun W' h=>by rw[bB];exact aA (kb W' h) 3
    obtain⟨C,hC⟩:∃ C:World->Prop,C=fun W'=>W'.cell? ⟨g,0,none⟩=some (.int .i64 0)/\W'.cell? (Addr.add ⟨g,0,none⟩ 1)=some (.int .u64 sd):=⟨_,rfl⟩;have IL:∀ W':World,(∃ x y z,W'.heap[g]?=some (.cells #[.int .i64 0,.int .u64 sd,x,y,z] 246 (0,0)))->C W':=fun W' ⟨x,y,z,hh⟩=>by rw[hC];exact⟨aA hh 0,by rw[bB];exact aA hh 1⟩
    have Hy:∀ W',w2.grownBy W' none->C W':=fun W' h=>IL W' ⟨_,_,_,kb W' h⟩;have JZ:∀ W',C W'->W'.cell? ⟨g,0,none⟩=some (.int .i64 0):=fun W' h=>by rw[hC]at h;exact h.1
    have JY:∀ W',C W'->W'.cell? (Addr.add ⟨g,0,none⟩ 1)=some (.int .u64 sd):=fun W' h=>by rw[hC]at h;exact h.2
    have fin:∀(W':World)(t o f:Nat),w2.grownBy W' none->BE W' f →
        ∃ (A:OA) (n c:Nat) (w3:World),Sem.run P (Builtin.append_ #[244,244] 244 #[.slice none 0 0,.slice (some ⟨(W'.alloc (.cells #[.pointer (some ⟨f,0,none⟩),.map (some t),.map (some o)] 260)).heap.size,0,none⟩) 1 1]) ((W'.alloc (.cells #[.pointer (some ⟨f,0,none⟩),.map (some t),.map (some o)] 260)).alloc (.cells #[.pointer (some ⟨W'.heap.size,0,none⟩)] 247))=.ok (.slice A n c) w3 ∧
          (C w3/\∃ a39:Addr,some (⟨g,0,none⟩:Addr)=some a39/\((∃ uv:Value,w3.cell? (a39.add 3)=some uv)/\w3.frozen? (a39.add 3)=false/\(C (w3.setCell (a39.add 3) (.slice A n c))/\∃ m_1:Nat,m_1<1/\AtI g W m_1 (w3.setCell (a39.add 3) (.slice A n c))))):=by
      intro W' t o f k1 k2;obtain⟨W1,G7,g1,b1⟩:=bZ W' #[.pointer (some ⟨f,0,none⟩),.map (some t),.map (some o)] 260;rw[← G7];obtain⟨W3,IH,g3,b3⟩:=bZ W1 #[.pointer (some ⟨W'.heap.size,0,none⟩)] 247;rw[← IH];have D9:=aB g1 g3;have kw:=aB k1 D9;have zk:=kw.size;obtain⟨A,n,c,w3,r1,r2,r3,r4,r5⟩:=(aD.nil W3 W3.heap.size 247 1).appends (ty:=244) C4 Cp (a:=⟨W1.heap.size,0,none⟩) (m:=1) (cc:=1) (us:=[.pointer (some ⟨W'.heap.size,0,none⟩)]) rfl (fun j u hj=>by
        match j,hj with
        | 0,hj=>cases hj;rw[qF];exact aA b3 0) (fun u hu=>by simp at hu;subst hu;rfl) (by omega) (Nat.le_refl _)
      have r4:W3.grownBy w3 none:=r4;have k3:=aB kw r4;have Hw:=kb w3 k3;refine⟨A,n,c,w3,r1,Hy _ k3,_,rfl,?_⟩;rw[bB];have JH:=aH Hw 3 (.slice A n c);refine⟨⟨_,aA Hw 3⟩,aC Hw 3,IL _ ⟨_,_,_,JH⟩,0,by omega,.inr ⟨rfl,?_,?_⟩⟩
      · obtain⟨_,hc | ⟨la,cur,rfl,LM,_,Ev,DP,EZ,Hk⟩⟩:=r2.cases
        · omega
        · have K4:Kp w3 (w3.setCell ⟨g,3,none⟩ (.slice (some ⟨la,0,none⟩) n c)) (fun q=>q=g):=dW (Kp.refl _ _) rfl;have ne:∀ {q:Nat} {x:Obj},w3.heap[q]?=some x->(∀ c fr,x≠.cells c 246 fr)->(w3.setCell ⟨g,3,none⟩ (.slice (some ⟨la,0,none⟩) n c)).heap[q]?=some x:=fun {q x} hq hx=>by
            rw[K4.block _ (Array.getElem?_eq_some_iff.1 hq).1 fun e=>by rw[e,Hw]at hq;exact hx _ _ (Option.some.inj hq).symm];exact hq
          have n1:n=1:=by simpa using r3
          subst n1;have D8:cur[0]?=some (.pointer (some ⟨W'.heap.size,0,none⟩)):=by
            have:=r2.row 0 _ rfl;obtain⟨a,ha,JE⟩:=this;cases ha;rw[qF,aA DP]at JE;exact JE
          have Ll:=k2.kept (aB D9 r4);obtain⟨p,em,FN,FM⟩:=Ll;exact⟨sd,M,D,_,_,la,W'.heap.size,f,c,by simpa using JH,⟨_,_,ne DP (by intro c fr e;cases e),D8⟩,ne (aE b1 (aB g3 r4)) (by intro c fr e;cases e),p,em,ne FN (by intro c fr e;cases e),ne FM (by intro c fr e;cases e)⟩
      · have:=aB g2 k3;exact⟨this.os,this.tape,this.output,by have:=this.size;simpa using this,fun i hi hn=>by
          rw[(dW (u:=.slice A n c) (Kp.refl w3 (fun q=>q=g)) rfl:Kp w3 (w3.setCell ⟨g,3,none⟩ (.slice A n c)) (fun q=>q=g)).block i (by have:=this.size;omega) (fun e=>hn (by rw[e]))];exact this.block i hi (by simp)⟩
    have HS:aI .u64 ((0:Nat):Int):=⟨by omega,by omega⟩;clear hC IL kb;refine⟨C,Hy _ (aF _ _),?_⟩
    repeat' (first
      | exact trivial
      | refine⟨_,rfl,none,0,0,c3 _ (by repeat (first | exact aF _ _ | refine eL ?_ _ | refine aB ?_ (by assumption))),?_⟩
      | refine⟨_,rfl,(0:Int),JZ,?_⟩
      | refine⟨_,rfl,sd,JY,?_⟩
      | refine⟨HS,?_⟩
      | refine⟨Hy _ (by repeat (first | exact aF _ _ | refine eL ?_ _ | refine aB ?_ (by assumption))),?_⟩
      | (refine vC.mono fun ev Wc hh=>?_
         obtain⟨f,rfl,hF,gW⟩:=hh;refine⟨_,rfl,?_⟩)
      | refine⟨_,rfl,Hy _ (by repeat (first | exact aF _ _ | refine eL ?_ _ | refine aB ?_ (by assumption))),?_⟩
      | refine⟨none,0,0,c3 _ (by repeat (first | exact aF _ _ | refine eL ?_ _ | refine aB ?_ (by assumption))),?_⟩
      | refine⟨(0:Int),JZ,?_⟩
      | refine⟨sd,JY,?_⟩
      | refine⟨_,rfl,?_⟩
      | refine fin _ _ _ _ (by repeat (first | exact aF _ _ | refine eL ?_ _ | refine aB ?_ (by assumption))) (BE.kept hF (by repeat (first | exact aF _ _ | refine eL ?_ _)))
      | refine And.intro ?_ ?_)
  · obtain⟨sd',M',D',t,o,la,lv,f,c,h1,⟨cs,fr,h2,h3⟩,h4,h5⟩:=id hH;refine⟨_,rfl,_,_,_,by rw[bB];exact aA h1 3,fun DR=>absurd DR (by decide),fun _=>?_⟩;exact⟨_,rfl,_,_,_,by rw[bB];exact aA h1 3,_,rfl,by omega,by omega,_,by
      first
        | exact(aA h2 0).trans h3
        | (rw[bB];exact(aA h2 0).trans h3)
        | (rw[qF];exact(aA h2 0).trans h3),⟨_,rfl⟩,hH,hG⟩
theorem Cf:De P 50 3 (.int .i64 0) 8:=⟨(P.info? 3).getD default,by kernel_rfl,by kernel_rfl,by kernel_rfl,by kernel_rfl,by kernel_rfl,by kernel_rfl⟩
theorem wK{w:World}{sd:Int}:Calls P 139 #[.int .i64 0,.int .u64 sd] w fun ev w'=>∃ g:Nat,ev=.returned (.pointer (some ⟨g,0,none⟩))/\HL w' g/\w.grownBy w' none:=by
 apply vc139;dsimp only[VC139,nb,iq];have hN:mn (mx 0 0) 65536=((0:Nat):Int):=by decide
 rw[hN];have g1:=World.grownBy_alloc w (.map #[] 0) none;obtain⟨w2,r2,o2,g2⟩:=BT (P:=P) (w:=w.alloc (.map #[] 0)) Cf (by omega) (m:=0) (by omega);obtain⟨W3,IH,g3,b3⟩:=bZ w2 #[.int .i64 0,.int .u64 sd,.map (some w.heap.size),.slice none 0 0,.slice (some ⟨(w.alloc (.map #[] 0)).heap.size,0,none⟩) 0 0] 246;refine⟨_,_,_,w2,r2,?_⟩;have e:(w2.alloc (.cells #[.int .i64 ((0:Nat):Int),.int .u64 sd,.map (some w.heap.size),.slice none 0 0,.slice (some ⟨(w.alloc (.map #[] 0)).heap.size,0,none⟩) 0 0] 246))=W3:=by rw[IH];rfl
 rw[e];have z2:=(aB g1 g2).size;refine(zI b3).mono fun ev w4 hh=>?_;obtain⟨⟨lv,rfl⟩,h4,g4⟩:=hh;refine⟨_,rfl,_,rfl,h4,?_⟩;have:=aB (aB g1 g2) g3;exact aP this g4 (fun k hk=>by cases hk;exact z2)
theorem uE{w:World}{g:Nat}(h:HL w g):Calls P 303 #[.pointer (some ⟨g,0,none⟩)] w fun ev w'=>ev=.returned (.int .i64 0)/\w.grownBy w' none:=by
 apply vc303;dsimp only[VC303,cI,iq];refine(Bm h).mono fun ev w1 hh=>?_;obtain⟨lv,f,rfl,rfl,h1,h2⟩:=hh;refine⟨_,rfl,_,rfl,_,h1,(tD h2).mono fun ev w2 hh=>?_⟩;obtain⟨rfl,g2⟩:=hh;exact⟨_,rfl,rfl,g2⟩
def lX:List Int:=gM 3 1 0++kJ []
theorem DB:dX 3 1 0:=by unfold dX;omega
theorem wU:By lX:=(wO _ _ _).append (vP _)
theorem sI:lX.length=32:=by unfold lX;rw[List.length_append,fE,iF];rfl
theorem pG{w:World}:Calls P 19 #[.agg #[.int .u64 3,.slice none 0 0],.int .i64 1] w fun ev w'=>∃(A':OA)(n' c':Nat),ev=.returned (.tuple #[.slice A' n' c',.int .i64 0])/\aD w' w.heap.size 5 1 A' n' c' (bY lX)/\w.grownBy w' none:=by
 apply vc19;dsimp only[VC19,rt,Br,Rd,Rc,Rs,Ix,Ap,cI,cS,cT,nb,ad,al,iq]
 try simp only[aI,mnI]
 obtain⟨w1,DX,g1,b1⟩:=bZ w #[.int .u64 3,.slice none 0 0] 31;rw[← DX];refine⟨3,aA b1 0,none,0,0,aA b1 1,(uS (l:=[]) (bC.nil _ _) rfl (Nat.zero_le _) (fun e he=>by simp at he)).mono fun ev w2 hh=>?_⟩;obtain⟨rfl,g2⟩:=hh;have b2:=aE b1 g2;have EP:=aB g1 g2;refine⟨_,_,rfl,fun e=>absurd rfl e,fun _=>⟨fun e=>absurd e (by decide),fun _=>⟨fun e=>absurd e (by decide),fun _=>⟨3,aA b2 0,none,0,0,aA b2 1,?_⟩⟩⟩⟩;refine(pE DB).mono fun ev w4 hh=>?_;obtain⟨A4,n4,c4,rfl,o4,g4⟩:=hh;refine⟨_,_,_,rfl,fun q B d e R s t NA nn nc x W=>B=A4/\d=n4/\e=c4/\R=none/\s=0/\t=0/\x=0/\W=w4,⟨0,rfl,rfl,rfl,rfl,rfl,rfl,rfl,rfl⟩,?_⟩;rintro q B d e R s t NA nn nc x W ⟨rfl,rfl,rfl,rfl,rfl,rfl,rfl,rfl⟩;have b4:=aE b2 g4;refine⟨none,0,0,aA b4 1,fun DL=>absurd DL (by decide),fun DR=>?_⟩;refine(vS (l:=[]) (bC.nil _ _) rfl (by decide) rfl (fun r hr=>by simp at hr)).mono fun ev W1 hh=>?_;obtain⟨A5,n5,c5,rfl,o5,g5⟩:=hh;have oW1:=o4.kp (S:=fun _=>False) (Kp.of_none g5) (fun _ _ e=>e);have Fl:n5=(kJ []).length:=by have h':=o5.cases.1;unfold bY at h';rw[List.length_map]at h';omega
 have hd:d=24:=by have h':=o4.cases.1;unfold bY at h';rw[List.length_map,fE]at h';omega
 have Jm:=iF [];obtain⟨A6,n6,c6,W2,r6,o6,g6,_⟩:=cA oW1 o5.row Fl (dE o5) (by rw[Fl,Jm,hd];decide) (aB g4 g5).size;have gW2:=aP (aB g4 g5) g6 fun q hq=>(World.ownsRow.lt oW1 q hq).1;exact⟨_,_,_,_,rfl,A6,n6,c6,W2,r6,A6,n6,c6,rfl,o6.mono EP.size,aB EP gW2⟩
theorem vZ{w:World}{A:OA}{n c:Nat}(hr:bC w A (bY lX))(hn:n=lX.length)(hc:n<=c):
    Calls P 56 #[.slice A n c] w fun ev w'=>∃(B:OA)(m d:Nat),ev=.returned (.tuple #[pZ 3 1 0,.slice B m d,.int .i64 0])/\aD w' w.heap.size 118 3 B m d (dH [])/\w.grownBy w' none:=by
  apply vc56;dsimp only[VC56,rt,Wt,Br,Rd,Ws,cT,nb,iq];obtain⟨w0,HQ,g0,b0⟩:=bZ w #[.int .u64 0,.int .i64 0,.int .i64 0] 113;rw[← HQ];refine(qU (hr.kept_none g0) hn hc wU rfl (by omega) DB).mono fun ev w1 hh=>?_;obtain⟨rfl,g1⟩:=hh;have b1:=aE b0 g1;obtain⟨w3,EJ,p0,q0,p1,q1,p2,q2,h3,g3⟩:=Dj w1 113 (.int .u64 0) (.int .i64 0) (.int .i64 0) (.int .u64 3) (.int .i64 1) (.int .i64 0);refine⟨_,_,_,_,rfl,p0,q0,p1,q1,p2,q2,fun e=>absurd rfl e,fun _=>?_⟩;rw[← EJ];have Ec:=aB g0 (aB g1 g3);refine⟨3,aA h3 0,1,aA h3 1,0,aA h3 2,(wH (pre:=gM 3 1 0) (rows:=[]) (hr.kept_none Ec) hn hc wU (by rw[sI];decide) rfl (by rw[fE];rfl) DB rfl rfl (fun r hr=>by simp at hr)).mono fun ev w4 hh=>?_⟩;obtain⟨A4,n4,c4,rfl,o4,g4⟩:=hh;have h4:=aE h3 g4;have b4:=aE (aE b1 g3) g4;have t1:=aH b4 0 (.int .u64 3);have t2:=aH t1 1 (.int .i64 1);have t3:=aH t2 2 (.int .i64 0);have EI:=aB Ec g4;have z03:=Ec.size;have z3:w.heap.size<w3.heap.size:=(Array.getElem?_eq_some_iff.1 (aE b1 g3)).1;have K4:Kp w4 (((w4.setCell ⟨w.heap.size,0,none⟩ (.int .u64 3)).setCell ⟨w.heap.size,1,none⟩ (.int .i64 1)).setCell ⟨w.heap.size,2,none⟩ (.int .i64 0)) (fun q=>q=w.heap.size):=dW (dW (dW (Kp.refl _ _) rfl) rfl) rfl;have gF:=((Kp.of_none (S:=fun q=>w.heap.size<=q) EI).then K4 fun q _ e=>by omega).grown fun q hq e=>by omega
  refine⟨_,_,_,_,rfl,fun e=>absurd rfl e,fun _=>⟨3,aA h4 0,1,aA h4 1,0,aA h4 2,⟨_,aA b4 0⟩,aC b4 0,⟨_,aA t1 1⟩,aC t1 1,⟨_,aA t2 2⟩,aC t2 2,3,by rw[aA t3 0];rfl,1,by rw[aA t3 1];rfl,0,by rw[aA t3 2];rfl,A4,n4,c4,rfl,?_,gF⟩⟩;exact(o4.kp K4 (fun q hq e=>by have:=(World.ownsRow.lt o4 q hq).1;omega)).mono (by omega)
theorem Ao{w:World}{a:Addr}{x d:Int}(h:w.cell? a=some (.int .i64 x))(hf:w.frozen? a=false)(hr:aI .i64 (x+d)):Sem.run P (callFunc 165 #[.pointer (some a),.int .i64 d]) w=.ok (.value (.int .i64 (x+d))) (w.setCell a (.int .i64 (x+d))):=by
  rw[run_callFunc_extern (P:=P) Tryz.func165 (by kernel_rfl) (by kernel_rfl) (by kernel_rfl) (e:=Extern.Atomic.update (Op.intArith .add) .i64 true) (by kernel_rfl) _ w];have e:=dP hr
  have e0:Extern.Atomic.update (Op.intArith .add) .i64 true #[.pointer (some a),.int .i64 d]=(do
      let b ← asAddr (.pointer (some a));let old ← Extern.Atomic.read (.int .i64) b;let new ← Op.intArith .add .i64 (← asInt old) (← asInt (.int .i64 d))
      store b new .atomic
      pure (if true then new else old)):=rfl
  rw[e0];simp[Extern.Atomic.read,asAddr,asInt,asIntOf,Op.intArith,load,store,Sem.run,h,hf,e]
theorem jE{w:World}{a:Addr}{x d:Int}(h:w.cell? a=some (.int .i64 x))(hf:w.frozen? a=false)(hr:aI .i64 (x+d)):Calls P 142 #[.pointer (some a),.int .i64 d] w fun ev w'=>ev=.returned (.int .i64 (x+d))/\w'=w.setCell a (.int .i64 (x+d)):=by
 apply vc142;dsimp only[VC142,iq];exact⟨_,rfl,_,_,Ao h hf hr,rfl,rfl⟩
abbrev rdC(RA:OA)(d:Nat)(bv now:Value)(s0 s1 s2 s3:Int):Array Value:=#[.int .u64 3,.int .i64 1,.int .i64 0,.slice RA 0 d,bv,.int .u64 1,now,.int .i64 s0,.int .i64 s1,.int .i64 s2,.int .i64 s3]
theorem Bu{w:World}{r:Nat}{RA A:OA}{d c:Nat}{bv now:Value}(h:w.heap[r]?=some (.cells (rdC RA d bv now 0 0 0 0) 132 (0,0)))(hr:bC w A [.int .i64 0,.int .i64 0,.int .i64 0]):
    Calls P 112 #[.pointer (some ⟨r,0,none⟩),.slice A 3 c] w fun ev w'=>ev=.returned (.tuple #[])/\w'.heap[r]?=some (.cells (rdC RA d bv now 1 0 0 0) 132 (0,0))/\Kp w w' (fun q=>q=r):=by
  apply vc112;dsimp only[VC112,rt,Br,Rd,Ix,Ap,cI,nb,iq]
  try simp only[aI]
  obtain⟨w1,DU,g1,b1⟩:=bZ w #[.int .i64 1] 3;rw[← DU];have lt:=(Array.getElem?_eq_some_iff.1 h).1;have own:qI w1 w.heap.size 3 (some ⟨w.heap.size,0,none⟩) 1 1 [.int .i64 1]:=(aD.of_block (Nat.le_refl _) b1 (Nat.le_refl _) (by simp only[maxLen];omega) rfl rfl rfl:aD w1 w.heap.size 3 1 (some ⟨w.heap.size,0,none⟩) 1 1 [.int .i64 1]);have Hm:=hr.kept_none g1;obtain⟨a,rfl,_⟩:=Hm 0 _ rfl;obtain⟨A',n',c',w2,r2,o2,g2⟩:=own.appends (ty:=50) Cf (by omega) (a:=a) (m:=3) (cc:=c) (us:=[.int .i64 0,.int .i64 0,.int .i64 0]) rfl (fun j u hj=>by obtain⟨b,q1,q2⟩:=Hm j u hj;cases q1;exact q2) (fun u hu=>by simp at hu;subst hu;rfl) (by omega) g1.size;have K2:Kp w w2 (fun _=>False):=Kp.of_none (aP g1 g2 (fun k hk=>by cases hk;exact Nat.le_refl _));have h2:w2.heap[r]?=_:=(K2.block r lt (fun e=>e)).trans h;have n4:n'=4:=by have:=(show aD w2 w.heap.size 3 1 A' n' c' _ from o2).cases.1;simp at this;omega
  subst n4;have row2:bC w2 A' [.int .i64 1,.int .i64 0,.int .i64 0,.int .i64 0]:=(show aD w2 w.heap.size 3 1 A' 4 c' _ from o2).row;have DN:∀ a,A'=some a->a.block≠r:=fun a ha e=>by
    have:=qI.block_ge o2 a.block (by rw[ha];rfl);omega
  refine⟨_,_,_,w2,r2,fun m x W=>∃ i:Nat,x=(i:Int)/\i<=4/\m=4-i/\W.heap[r]?=some (.cells (rdC RA d bv now (if 0<i then 1 else 0) 0 0 0) 132 (0,0))/\Kp w2 W (fun q=>q=r),⟨4,0,rfl,by omega,rfl,h2,Kp.refl _ _⟩,?_⟩;rintro m x W ⟨i,rfl,hi,rfl,hW,KW⟩;have ti:(i:Int).toNat=i:=by omega
  rw[ti];have rowW:bC W A' [.int .i64 1,.int .i64 0,.int .i64 0,.int .i64 0]:=row2.kp KW (fun a ha _=>DN a ha);have KK:Kp w W (fun q=>q=r):=(K2.mono (S':=fun q=>q=r) (fun _ _ e=>e.elim)).then KW (fun _ _ e=>e);refine⟨fun DL=>?_,fun DR=>?_⟩
  · match i,DL with
    | 0,_ =>
      obtain⟨a,rfl,q⟩:=rowW 0 _ rfl;refine⟨_,rfl,by omega,by omega,_,q,_,rfl,⟨by omega,by omega⟩,?_⟩;rw[cV,cV];refine(jE (aA hW 7) (aC hW 7) ⟨by omega,by omega⟩).mono fun ev W2 hh=>?_;obtain⟨rfl,rfl⟩:=hh;have s:=aH hW 7 (.int .i64 (0+1));exact⟨_,rfl,⟨by omega,by omega⟩,3,by omega,1,by omega,by omega,rfl,by simpa using s,cH KW rfl⟩
    | 1,_ =>
      obtain⟨a,rfl,q⟩:=rowW 1 _ rfl;refine⟨_,rfl,by omega,by omega,_,q,_,rfl,⟨by omega,by omega⟩,?_⟩;rw[cV,cV];refine(jE (aA hW 8) (aC hW 8) ⟨by omega,by omega⟩).mono fun ev W2 hh=>?_;obtain⟨rfl,rfl⟩:=hh;have s:=aH hW 8 (.int .i64 (0+0));exact⟨_,rfl,⟨by omega,by omega⟩,2,by omega,2,by omega,by omega,rfl,by simpa using s,cH KW rfl⟩
    | 2,_ =>
      obtain⟨a,rfl,q⟩:=rowW 2 _ rfl;refine⟨_,rfl,by omega,by omega,_,q,_,rfl,⟨by omega,by omega⟩,?_⟩;rw[cV,cV];refine(jE (aA hW 9) (aC hW 9) ⟨by omega,by omega⟩).mono fun ev W2 hh=>?_;obtain⟨rfl,rfl⟩:=hh;have s:=aH hW 9 (.int .i64 (0+0));exact⟨_,rfl,⟨by omega,by omega⟩,1,by omega,3,by omega,by omega,rfl,by simpa using s,cH KW rfl⟩
    | 3,_ =>
      obtain⟨a,rfl,q⟩:=rowW 3 _ rfl;refine⟨_,rfl,by omega,by omega,_,q,_,rfl,⟨by omega,by omega⟩,?_⟩;rw[cV,cV];refine(jE (aA hW 10) (aC hW 10) ⟨by omega,by omega⟩).mono fun ev W2 hh=>?_;obtain⟨rfl,rfl⟩:=hh;have s:=aH hW 10 (.int .i64 (0+0));exact⟨_,rfl,⟨by omega,by omega⟩,0,by omega,4,by omega,by omega,rfl,by simpa using s,cH KW rfl⟩
    | n+4,h=>exact absurd h (by omega)
  · have:i=4:=by omega
    subst this;exact⟨trivial,hW,KK⟩
def Dl(w:World)(g:Nat):Prop:=∃(nb hg:Nat)(m1 m2 m3:Value),w.heap[g]?=some (.cells #[.pointer (some ⟨nb,0,none⟩),.iface 224 (.pointer (some ⟨hg,0,none⟩)),m1,m2] 204 (0,0))/\w.heap[nb]?=some (.cells #[m3,.slice none 0 0] 239 (0,0))/\HL w hg
theorem Dl.kp{T:TypeId}{w w':World}{S:Nat->Prop}{g:Nat}(h:Dl w g)(hk:Kp w w' S)(hS:∀ q,S q->∃(c:Array Value)(fr:Nat×Nat),w.heap[q]?=some (.cells c T fr))(hT:T=132∨T=61):Dl w' g:=by
 obtain⟨nb,hg,m1,m2,m3,h1,h2,h3⟩:=h;have keep:∀ {q:Nat} {x:Obj},w.heap[q]?=some x->(∀ c fr,x≠.cells c T fr)->w'.heap[q]?=some x:=fun {q x} hq hx=>by
  rw[hk.block _ (Array.getElem?_eq_some_iff.1 hq).1 fun e=>by
   obtain⟨c,fr,e⟩:=hS _ e;rw[hq]at e;exact hx _ _ (Option.some.inj e)]
  exact hq
 exact⟨nb,hg,m1,m2,m3,keep h1 (by intro c fr e;rcases hT with rfl | rfl <;>cases e),keep h2 (by intro c fr e;rcases hT with rfl | rfl <;>cases e),h3.kp hk hS hT⟩
theorem Dl.kept{w w':World}{g:Nat}(h:Dl w g)(hg:w.grownBy w' none):Dl w' g:=h.kp (S:=fun _=>False) (Kp.of_none hg) (fun _ h=>h.elim) (.inl rfl)
theorem kS{w:World}{nb:Nat}{m3:Value}(h:w.heap[nb]?=some (.cells #[m3,.slice none 0 0] 239 (0,0))):Calls P 120 #[.pointer (some ⟨nb,0,none⟩)] w fun ev w'=>ev=.returned (.int .i64 0)/\w'=w:=by
 apply vc120;dsimp only[VC120,Rs,iq];exact⟨_,rfl,_,_,_,by rw[aJ];exact aA h 1,rfl,rfl⟩
theorem wE{w:World}:Calls P 111 #[.slice none 0 0,.int .u64 1] w fun ev w'=>∃ g:Nat,ev=.returned (.pointer (some ⟨g,0,none⟩))/\Dl w' g/\w.grownBy w' none:=by
 apply vc111;dsimp only[VC111,Wt,Br,Bb,Rd,Rc,Ix,Ws,cI,cB,nb,ad,al,iq];apply vc136;dsimp only[VC136];have g0:=World.grownBy_alloc w (.map #[] 0) none;obtain⟨w1,DU,g1,b1⟩:=bZ (w.alloc (.map #[] 0)) #[.map (some w.heap.size),.slice none 0 0] 239;rw[← DU];have g2:=World.grownBy_alloc w1 (.map #[] 0) none;have g3:=World.grownBy_alloc (w1.alloc (.map #[] 0)) (.map #[] 0) none;obtain⟨w4,ER,g4,b4⟩:=bZ ((w1.alloc (.map #[] 0)).alloc (.map #[] 0)) #[.pointer (some ⟨(w.alloc (.map #[] 0)).heap.size,0,none⟩),.nilIface,.map (some w1.heap.size),.map (some (w1.alloc (.map #[] 0)).heap.size)] 204;have EI:=aB (aB g0 g1) (aB (aB g2 g3) g4);have IX:=aE b1 (aB (aB g2 g3) g4);refine⟨_,rfl,fun m x W=>W=w4/\x=0,⟨0,by rw[ER],rfl⟩,?_⟩;rintro m x W ⟨rfl,rfl⟩;refine⟨fun h=>absurd h (by decide),fun _=>⟨_,rfl,_,aA b4 0,(kS IX).mono fun ev W2 hh=>?_⟩⟩;obtain⟨rfl,rfl⟩:=hh;refine⟨_,rfl,fun h=>absurd h (by decide),fun _=>⟨_,rfl,_,aA b4 0,(kS IX).mono fun ev W2 hh=>?_⟩⟩;obtain⟨rfl,rfl⟩:=hh;refine⟨_,rfl,wK.mono fun ev W3 hh=>?_⟩;obtain⟨hg,rfl,hH,g5⟩:=hh;have HC:=aE b4 g5;have Lx:=aE IX g5;refine⟨_,rfl,fun m x V=>V=W3/\x=0,⟨0,rfl,rfl⟩,?_⟩;rintro m x V ⟨rfl,rfl⟩;refine⟨fun h=>absurd h (by decide),fun _=>⟨_,rfl,?_⟩⟩;rw[aJ];have s:=aH HC 1 (.iface 224 (.pointer (some ⟨hg,0,none⟩)));have K:=cH (j:=1) (u:=.iface 224 (.pointer (some ⟨hg,0,none⟩))) (Kp.refl V (fun q=>q=((w1.alloc (.map #[] 0)).alloc (.map #[] 0)).heap.size)) rfl;have keep:∀ {q:Nat} {x:Obj},V.heap[q]?=some x->(∀ c fr,x≠.cells c 204 fr)->(V.setCell ⟨((w1.alloc (.map #[] 0)).alloc (.map #[] 0)).heap.size,1,none⟩ (.iface 224 (.pointer (some ⟨hg,0,none⟩)))).heap[q]?=some x:=fun {q x} hq hx=>by
  rw[K.block _ (Array.getElem?_eq_some_iff.1 hq).1 fun e=>by rw[e,HC]at hq;exact hx _ _ (Option.some.inj hq).symm];exact hq
 refine⟨⟨_,aA HC 1⟩,aC HC 1,_,rfl,⟨_,hg,_,_,_,by simpa using s,keep Lx (by intro c fr e;cases e),?_⟩,?_⟩
 ·obtain⟨sd,M,D,t,o,la,lv,f,c,h1,⟨cs,fr,h2,h3⟩,h4,p,em,h5,h6⟩:=hH;exact⟨sd,M,D,t,o,la,lv,f,c,keep h1 (by intro c fr e;cases e),⟨cs,fr,keep h2 (by intro c fr e;cases e),h3⟩,keep h4 (by intro c fr e;cases e),p,em,keep h5 (by intro c fr e;cases e),keep h6 (by intro c fr e;cases e)⟩
 ·have z:=(aB (aB g0 g1) (aB g2 g3)).size;exact((Kp.of_none (aB EI g5)).then K (fun k hk e=>e)).grown (fun k hk e=>by omega)
theorem wT{w:World}{A:OA}{c:Nat}{t:Int}:Calls P 110 #[.slice A 0 c,.int .i64 t] w fun ev w'=>ev=.returned (.int .i64 (-1))/\w.grownBy w' none:=by
 apply vc110;dsimp only[VC110,Br,Rs,cI,cB,nb,iq];obtain⟨w1,DU,g1,b1⟩:=bZ w #[.slice A 0 c] 114;rw[← DU];obtain⟨w2,ES,g2,b2⟩:=bZ w1 #[.int .i64 t] 2;rw[← ES];refine⟨_,_,_,aA (aE b1 g2) 0,(lS (l:=[]) (bC.nil _ _) rfl (Nat.zero_le _)).mono fun ev w3 hh=>?_⟩;obtain⟨rfl,g3⟩:=hh;refine⟨_,rfl,fun e=>absurd e (by decide),fun _=>⟨_,_,_,aA (aE (aE b1 g2) g3) 0,?_⟩⟩;apply vc115z;dsimp only[VC115z,Br,cB,iq];refine⟨fun m i j W=>W=w3/\i=0/\j=0,⟨0,rfl,rfl,rfl⟩,?_⟩;rintro m i j W ⟨rfl,rfl,rfl⟩;exact⟨fun h=>absurd h (by decide),fun _=>⟨_,rfl,by unfold aI;decide,rfl,aB (aB g1 g2) g3⟩⟩
def uX(w:World)(r:Nat):Prop:=∃(RA:OA)(d:Nat)(bv:Value),w.heap[r]?=some (.cells (rdC RA d bv (.pointer none) 0 0 0 0) 132 (0,0))
def BD(w:World)(r:Nat):Prop:=∃(RA:OA)(d:Nat)(bv:Value)(g:Nat),w.heap[r]?=some (.cells (rdC RA d bv (.pointer (some ⟨g,0,none⟩)) 1 0 0 0) 132 (0,0))/\Dl w g
theorem uX.kept{w w':World}{r:Nat}(h:uX w r)(hg:w.grownBy w' none):uX w' r:=by
 obtain⟨RA,d,bv,h⟩:=h;exact⟨RA,d,bv,aE h hg⟩
theorem BD.kept{w w':World}{r:Nat}(h:BD w r)(hg:w.grownBy w' none):BD w' r:=by
 obtain⟨RA,d,bv,g,h,k⟩:=h;exact⟨RA,d,bv,g,aE h hg,k.kept hg⟩
theorem yZ{w:World}{r:Nat}(h:uX w r):Calls P 118 #[.pointer (some ⟨r,0,none⟩),.slice none 0 0] w fun ev w'=>ev=.returned (.int .i64 29)/\w.grownBy w' none:=by
 apply vc118;dsimp only[VC118,Br,Bb,cB,nb,iq];obtain⟨RA,d,bv,h⟩:=h;obtain⟨w1,DU,g1,b1⟩:=bZ w #[.pointer (some ⟨r,0,none⟩)] 55;rw[← DU];exact⟨_,aA b1 0,_,rfl,none,by rw[aJ];exact aA (aE h g1) 6,fun _=>⟨rfl,g1⟩,fun e=>absurd rfl e⟩
theorem yY{w:World}{r:Nat}(h:BD w r):Calls P 118 #[.pointer (some ⟨r,0,none⟩),.slice none 0 0] w fun ev w'=>ev=.returned (.int .i64 0)/\w.grownBy w' none:=by
 apply vc118;dsimp only[VC118,Br,Bb,cB,nb,iq];obtain⟨RA,d,bv,g,h,hG⟩:=h;obtain⟨w1,DU,g1,b1⟩:=bZ w #[.pointer (some ⟨r,0,none⟩)] 55;rw[← DU];refine⟨_,aA b1 0,_,rfl,some ⟨g,0,none⟩,by rw[aJ];exact aA (aE h g1) 6,fun e=>(by cases e),fun _=>?_⟩;apply vc150m;dsimp only[VC150m,fP,cI];apply vc178m;dsimp only[VC178m,Br,Bb,Rd,Ix,cB,iq];refine⟨fun m x W=>W=w1/\x=0,⟨0,rfl,rfl⟩,?_⟩;rintro m x W ⟨rfl,rfl⟩;exact⟨fun h=>absurd h (by decide),fun _=>⟨_,rfl,_,rfl,fun e=>absurd e (by decide),fun _=>⟨rfl,g1⟩⟩⟩
theorem wP{w:World}{r:Nat}{t:Int}(h:uX w r):Calls P 82 #[.pointer (some ⟨r,0,none⟩),.int .i64 t] w fun ev w'=>ev=.returned (.int .i64 0)/\BD w' r/\Kp w w' (fun q=>q=r):=by
 apply vc82;dsimp only[VC82,Wt,Br,Rd,Rc,Rs,Ix,Ws,cI,cS,cU,cT,nb,ad,iq];obtain⟨RA,d,bv,h⟩:=h;obtain⟨w1,DU,g1,b1⟩:=bZ w #[.int .i64 t] 2;rw[← DU];have gd:=aG g1;have h1:=aE h gd;refine⟨_,rfl,RA,0,d,by rw[aJ];exact aA h1 3,t,aA (w:=w1.drew) b1 0,wT.mono fun ev w2 hh=>?_⟩;obtain⟨rfl,g2⟩:=hh;have h2:=aE h1 g2;refine⟨_,rfl,fun _=>⟨_,rfl,1,by rw[aJ];exact aA h2 5,wE.mono fun ev w3 hh=>?_⟩,fun e=>absurd (by decide) e⟩;obtain⟨g,rfl,hG,g3⟩:=hh;have h3:=aE h2 g3;refine⟨_,rfl,_,rfl,?_⟩;rw[aJ];have s:=aH h3 6 (.pointer (some ⟨g,0,none⟩));have K:=cH (j:=6) (u:=.pointer (some ⟨g,0,none⟩)) (Kp.refl w3 (fun q=>q=r)) rfl;obtain⟨w4,ER,g4,b4⟩:=bZ (w3.setCell ⟨r,6,none⟩ (.pointer (some ⟨g,0,none⟩))) #[.int .i64 0,.int .i64 0,.int .i64 0] 3;rw[← ER];refine⟨⟨_,aA h3 6⟩,aC h3 6,(Bu (now:=.pointer (some ⟨g,0,none⟩)) (aE (by simpa using s) g4) (by rw[ER];exact lO _ _ _)).mono fun ev w5 hh=>?_⟩;obtain⟨rfl,h5,K5⟩:=hh;refine⟨rfl,rfl,⟨RA,d,bv,g,h5,((hG.kp K (fun q e=>by subst e;exact⟨_,_,h3⟩) (.inl rfl)).kept g4).kp K5 (fun q e=>by subst e;exact⟨_,_,aE (by simpa using s) g4⟩) (.inl rfl)⟩,?_⟩;have K14:Kp w w4 (fun q=>q=r):=((Kp.of_none (S:=fun q=>q=r) (aB (aB gd g2) g3)).then K (fun q _ e=>e)).then (Kp.of_none (S:=fun _=>False) g4) (fun q _ e=>e.elim);exact K14.then K5 (fun q _ e=>e)
theorem uO{w:World}{r:Nat}(h:uX w r):Calls P 86 #[.pointer (some ⟨r,0,none⟩)] w fun ev w'=>ev=.returned (.tuple #[.int .i64 0,.int .i64 29])/\w.grownBy w' none:=by
 apply vc86;dsimp only[VC86,rt,Br,Rc,cI,iq];refine(yZ h).mono fun ev w1 hh=>?_;obtain⟨rfl,g1⟩:=hh;exact⟨_,rfl,fun _=>⟨rfl,g1⟩,fun e=>absurd (by decide) e⟩
theorem yX (v : Value) (w : World) : Sem.run P (callMethod (.iface 224 v) "Count" #[]) w = .ok (.enter 303 #[v]) w := by kernel_rfl
theorem uP{w:World}{r:Nat}(h:BD w r):Calls P 86 #[.pointer (some ⟨r,0,none⟩)] w fun ev w'=>ev=.returned (.tuple #[.int .i64 3,.int .i64 0])/\w.grownBy w' none:=by
 apply vc86;dsimp only[VC86,rt,Br,Rc,cI,iq];refine(yY h).mono fun ev w1 hh=>?_;obtain⟨rfl,g1⟩:=hh;obtain⟨RA,d,bv,g,h,nb,hg,m1,m2,m3,q1,q2,q3⟩:=h;have gd:=aG g1;refine⟨_,rfl,fun e=>absurd rfl e,fun _=>⟨fun W=>w.grownBy W none,gd,_,rfl,3,fun wq hq=>aA (aE h hq) 0,by unfold aI;decide,_,rfl,_,by rw[aJ];exact aA (aE h gd) 6,_,rfl,_,aA (aE q1 gd) 0,(kS (aE q2 gd)).mono fun ev w2 hh=>?_⟩⟩;obtain⟨rfl,rfl⟩:=hh;refine⟨_,rfl,gd,by unfold aI;decide,_,rfl,_,fun wq hq=>by rw[aJ];exact aA (aE h hq) 6,_,rfl,_,fun wq hq=>by rw[aJ];exact aA (aE q1 hq) 1,303,[.pointer (some ⟨hg,0,none⟩)],yX _ _,(uE (q3.kept gd)).mono fun ev w3 hh=>?_⟩;obtain⟨rfl,g3⟩:=hh;have D9:=aB gd g3;exact⟨_,rfl,D9,by unfold aI;decide,rfl,D9⟩
theorem vQ{w:World}{A:OA}{n c:Nat}(hr:bC w A (bY lX))(hn:n=lX.length)(hc:n<=c):
    Calls P 20 #[.slice A n c,.int .u64 1] w fun ev w'=>∃ r:Nat,ev=.returned (.tuple #[.pointer (some ⟨r,0,none⟩),.int .i64 0])/\uX w' r/\w.heap.size<=r/\w.grownBy w' none:=by
  apply vc20;dsimp only[VC20,rt,Br,Rc,Ws,cS,nb,iq];refine(vZ hr hn hc).mono fun ev w1 hh=>?_;obtain⟨B,m,d,rfl,o1,g1⟩:=hh;have m0:m=0:=by have:=o1.cases.1;simp[dH]at this;omega
  subst m0;obtain⟨v,hv,l1,l2,l3,l4,l5,l6,b2,g2⟩:=Dj w1 113 (.int .u64 0) (.int .i64 0) (.int .i64 0) (.int .u64 3) (.int .i64 1) (.int .i64 0);refine⟨_,_,_,_,_,_,_,rfl,l1,l2,l3,l4,l5,l6,?_⟩;rw[← hv];have EN:=aB g1 g2;have gd:w1.grownBy v.drew none:=aG g2;refine⟨fun e=>absurd rfl e,fun _=>⟨fun W=>v.grownBy W none,aG (aF _ _),_,fun wq hq=>aA (aE b2 hq) 0,_,fun wq hq=>aA (aE b2 hq) 1,_,fun wq hq=>aA (aE b2 hq) 2,(uT (hr.kept_none (aG EN)) hn (by rw[sI];decide)).mono fun ev w3 hh=>?_⟩⟩;obtain⟨A',n',c',rfl,o3,g3⟩:=hh;have IU:v.grownBy w3 none:=⟨g3.os,g3.tape,g3.output,g3.size,g3.block⟩;obtain⟨w4,ER,g4,b4⟩:=bZ w3 (rdC B d (.slice A' n' c') (.pointer none) 0 0 0 0) 132;refine⟨_,_,_,rfl,IU,?_⟩;rw[← ER];have gA:=aB EN IU;exact⟨aB IU g4,_,rfl,⟨_,_,_,b4⟩,gA.size,aB gA g4⟩
abbrev cQ:List Cm:=[⟨4,0,0,0⟩,⟨1,5,0,0⟩,⟨4,0,0,0⟩,⟨0,0,0,0⟩]
abbrev aQ:List (Int×Int):=[(0,29),(0,0),(3,0),(0,30)]
def BC(l:List (Int×Int)):List Value:=l.flatMap fun a=>[.int .i64 a.1,.int .i64 a.2]
theorem C5:kL P 58 61 2 (P.bytesOf 61):=⟨(P.info? 61).getD default,((P.info? 61).getD default).zero.getD undef,by kernel_rfl,by kernel_rfl,by kernel_rfl,by kernel_rfl,by kernel_rfl,by kernel_rfl,by decide⟩
theorem Cs:P.bytesOf 61<=64:=of_decide_eq_true (by kernel_rfl)
def Da:Nat->World->Nat->Prop
 | 0,w,r=>uX w r
 | 1,w,r=>uX w r
 | _,w,r=>BD w r
theorem Da.kept{w w':World}{r:Nat}(hg:w.grownBy w' none):∀ {i:Nat},Da i w r->Da i w' r
 | 0,h=>uX.kept h hg
 | 1,h=>uX.kept h hg
 | _+2,h=>BD.kept h hg
theorem sB{w:World}{r:Nat}{x y:Int}(h:∀ w1,w.grownBy w1 none->Calls P 86 #[.pointer (some ⟨r,0,none⟩)] w1 fun ev w'=>ev=.returned (.tuple #[.int .i64 x,.int .i64 y])/\w1.grownBy w' none):
    Calls P 58 #[.pointer (some ⟨r,0,none⟩),jC ⟨4,0,0,0⟩] w fun ev w'=>ev=.returned (.tuple #[.int .i64 x,.int .i64 y])/\w.grownBy w' none:=by
  apply vc58;dsimp only[VC58,rt,Br,Rd,cI,cB,nb,iq];obtain⟨w1,DU,g1,b1⟩:=bZ w #[.int .i64 4,.int .i64 0,.int .u64 0,.int .u64 0] 47;rw[← DU];refine⟨_,aA b1 0,_,aA b1 1,_,aA b1 2,_,aA b1 3,(dQ (c:=⟨4,0,0,0⟩) (by unfold Bj;decide)).mono fun ev w2 hh=>?_⟩;obtain⟨rfl,g2⟩:=hh;refine⟨_,rfl,fun e=>absurd e (by decide),fun _=>⟨_,aA (aE b1 g2) 0,fun e=>absurd e (by decide),fun _=>⟨fun e=>absurd e (by decide),fun _=>⟨fun e=>absurd e (by decide),fun _=>⟨fun _=>(h w2 (aB g1 g2)).mono fun ev w3 hh=>?_,fun e=>absurd rfl e⟩⟩⟩⟩⟩;obtain⟨rfl,g3⟩:=hh;exact⟨_,_,rfl,rfl,aB (aB g1 g2) g3⟩
theorem BY{w:World}{r:Nat}(h:uX w r):Calls P 58 #[.pointer (some ⟨r,0,none⟩),jC ⟨1,5,0,0⟩] w fun ev w'=>ev=.returned (.tuple #[.int .i64 0,.int .i64 0])/\BD w' r/\Kp w w' (fun q=>q=r):=by
 apply vc58;dsimp only[VC58,rt,Br,Rd,cI,cB,nb,iq];obtain⟨w1,DU,g1,b1⟩:=bZ w #[.int .i64 1,.int .i64 5,.int .u64 0,.int .u64 0] 47;rw[← DU];refine⟨_,aA b1 0,_,aA b1 1,_,aA b1 2,_,aA b1 3,(dQ (c:=⟨1,5,0,0⟩) (by unfold Bj;decide)).mono fun ev w2 hh=>?_⟩;obtain⟨rfl,g2⟩:=hh;refine⟨_,rfl,fun e=>absurd e (by decide),fun _=>⟨_,aA (aE b1 g2) 0,fun _=>⟨_,aA (aE b1 g2) 1,(wP (uX.kept h (aB g1 g2))).mono fun ev w3 hh=>?_⟩,fun e=>absurd rfl e⟩⟩;obtain⟨rfl,h3,k3⟩:=hh;exact⟨_,rfl,rfl,h3,(Kp.of_none (aB g1 g2)).then k3 (fun q _ e=>e)⟩
theorem CO{w:World}{A:OA}:Calls P 58 #[.pointer A,jC ⟨0,0,0,0⟩] w fun ev w'=>ev=.returned (.tuple #[.int .i64 0,.int .i64 30])/\w.grownBy w' none:=by
 apply vc58;dsimp only[VC58,rt,Br,Rd,cI,cB,nb,iq];obtain⟨w1,DU,g1,b1⟩:=bZ w #[.int .i64 0,.int .i64 0,.int .u64 0,.int .u64 0] 47;rw[← DU];refine⟨_,aA b1 0,_,aA b1 1,_,aA b1 2,_,aA b1 3,(dQ (c:=⟨0,0,0,0⟩) (by unfold Bj;decide)).mono fun ev w2 hh=>?_⟩;obtain⟨rfl,g2⟩:=hh;exact⟨_,rfl,fun _=>⟨rfl,aB g1 g2⟩,fun e=>absurd (by decide) e⟩
theorem Dw{w:World}{r i:Nat}(hi:i<4)(h:Da i w r):Calls P 58 #[.pointer (some ⟨r,0,none⟩),jC (cQ[i]'hi)] w fun ev w'=>ev=.returned (.tuple #[.int .i64 (aQ[i]'hi).1,.int .i64 (aQ[i]'hi).2])/\Da (i+1) w' r/\Kp w w' (fun q=>q=r):=by
 match i,hi,h with
 | 0,_,h=>exact(sB fun w1 g=>uO (uX.kept h g)).mono fun ev w' hh=>⟨hh.1,uX.kept h hh.2,Kp.of_none hh.2⟩
 | 1,_,h=>exact BY h
 | 2,_,h=>exact(sB fun w1 g=>uP (BD.kept h g)).mono fun ev w' hh=>⟨hh.1,BD.kept h hh.2,Kp.of_none hh.2⟩
 | 3,_,h=>exact CO.mono fun ev w' hh=>⟨hh.1,BD.kept h hh.2,Kp.of_none hh.2⟩
theorem Da.kp{w w':World}{S:Nat->Prop}{r:Nat}(hk:Kp w w' S)(hS:∀ q,S q->∃(c:Array Value)(fr:Nat×Nat),w.heap[q]?=some (.cells c 61 fr)):∀ {i:Nat},Da i w r->Da i w' r:=by
 have keep:∀ {q:Nat} {cs:Array Value} {fr:Nat×Nat},w.heap[q]?=some (.cells cs 132 fr)->w'.heap[q]?=some (.cells cs 132 fr):=fun {q cs fr} hq=>by
  rw[hk.block _ (Array.getElem?_eq_some_iff.1 hq).1 fun e=>by
   obtain⟨c,fr,e⟩:=hS _ e;rw[hq]at e;cases e]
  exact hq
 have k0:uX w r->uX w' r:=fun⟨RA,d,bv,h⟩=>⟨RA,d,bv,keep h⟩;intro i h
 match i,h with
 | 0,h=>exact k0 h
 | 1,h=>exact k0 h
 | _+2,h =>
  obtain⟨RA,d,bv,g,h,k⟩:=h;exact⟨RA,d,bv,g,keep h,k.kp hk hS (.inr rfl)⟩
theorem yI{w:World}{A:OA}{n c:Nat}:Calls P 21 #[.pointer none,.slice A n c] w fun ev w'=>ev=.returned (.slice none 0 0)/\w'=w:=by
 apply vc21;dsimp only[VC21,Wt,Br,Rd,Ix,Ap,Ws,nb,ad,al,iq];exact⟨fun _=>⟨rfl,rfl⟩,fun e=>absurd rfl e⟩
theorem yJ {w:World} {r:Nat} {B:OA} {c:Nat} (h:uX w r) (hr:bC w B (dY cQ)) (hB:∀ a,B=some a->a.block≠r):Calls P 21 #[.pointer (some ⟨r,0,none⟩),.slice B 4 c] w fun ev w'=>∃(A':OA)(c':Nat),ev=.returned (.slice A' 4 c')/\bC w' A' (BC aQ)/\Kp w w' (fun q=>q=r):=by
  apply vc21;dsimp only[VC21,Wt,Br,Rd,Ix,Ap,Ws,nb,ad,al,iq]
  try simp only[aI]
  have DL:r<w.heap.size:=by obtain⟨RA,d,bv,h⟩:=h;exact(Array.getElem?_eq_some_iff.1 h).1
  refine⟨fun e=>(by cases e),fun _=>⟨fun m A n c x W=>∃ i:Nat,x=(i:Int)/\i<=4/\m=4-i/\n=i/\aD W w.heap.size 61 2 A n c (BC (aQ.take i))/\Da i W r/\Kp w W (fun q=>q=r),⟨4,0,rfl,by omega,rfl,rfl,aD.nil _ _ _ _,h,Kp.refl _ _⟩,?_⟩⟩;rintro m A n c' x W ⟨i,rfl,hi,rfl,rfl,ho,hs,hk⟩;have ti:(n:Int).toNat=n:=by omega
  rw[ti];refine⟨fun EU=>?_,fun DR=>?_⟩
  · have Iu:n<4:=by omega
    obtain⟨a,rfl,f0,f1,f2,f3⟩:=lB (hr.kp hk (fun a ha _=>hB a ha)) (j:=n) Iu;obtain⟨v,hv,l1,l2,l3,l4,l5,l6,l7,l8,b1,g1⟩:=Di W 47 (.int .i64 0) (.int .i64 0) (.int .u64 0) (.int .u64 0) (.int .i64 cQ[n].k) (.int .i64 cQ[n].t) (.int .u64 cQ[n].u) (.int .u64 cQ[n].v);refine⟨_,rfl,by omega,by omega,_,f0,_,f1,_,f2,_,f3,l1,l2,l3,l4,l5,l6,l7,l8,?_⟩;rw[← hv];refine⟨_,aA b1 0,_,aA b1 1,_,aA b1 2,_,aA b1 3,(Dw Iu (hs.kept g1)).mono fun ev w2 hh=>?_⟩;obtain⟨rfl,s2,k2⟩:=hh;have KW:Kp W w2 (fun q=>q=r):=(Kp.of_none g1).then k2 (fun q _ e=>e);have o2:=ho.kp KW (fun q hq e=>by have:=ho.block_ge q hq;omega);obtain⟨w3,EJ,g3,b3⟩:=bZ w2 #[.int .i64 aQ[n].1,.int .i64 aQ[n].2] 61;have z3:=(hk.then KW (fun q _ e=>e)).size;have r3:bC w3 (some ⟨w2.heap.size,0,none⟩) [.int .i64 aQ[n].1,.int .i64 aQ[n].2]:=by rw[EJ];exact lO _ _ _
    obtain⟨A',n',c'',w4,DV,o4,rfl,g4,_⟩:=(o2.kept g3).appends (ty:=58) C5 Cs (a:=⟨w2.heap.size,0,none⟩) (m:=1) (cc:=1) (us:=[.int .i64 aQ[n].1,.int .i64 aQ[n].2]) rfl (fun j u hj=>by obtain⟨b,q1,q2⟩:=r3 j u hj;cases q1;exact q2) (fun u hu=>by simp at hu;rcases hu with rfl | rfl <;>rfl) (by omega) (by have:=g3.size;omega);refine⟨_,_,rfl,_,_,_,w4,by rw[← EJ];exact DV,by omega,4-(n+1),by omega,n+1,by omega,by omega,rfl,rfl,?_,?_,?_⟩
    · have e:BC (aQ.take (n+1))=BC (aQ.take n)++[.int .i64 aQ[n].1,.int .i64 aQ[n].2]:=by
        rw[List.take_succ_eq_append_getElem (show n<aQ.length from Iu)];unfold BC;rw[List.flatMap_append];rfl
      rw[e];exact o4
    · exact(s2.kept g3).kp (Kp.of_grown g4) (fun q e=>by
        obtain⟨cur,hc⟩:=(o2.kept g3).block_type q e.symm;exact⟨_,_,hc⟩)
    · have K3:=(hk.then KW (fun q _ e=>e)).then (Kp.of_none (S:=fun _=>False) g3) (fun q _ e=>e.elim);exact K3.step g4 (fun q e=>.inl ((o2.kept g3).block_ge q e))
  · have:n=4:=by omega
    subst this;exact⟨_,_,rfl,ho.row,hk⟩
theorem wY(a b c d:Int)(w:World):(Op.equalIn 10000 37 (.agg #[.int .i64 a,.int .i64 b]) (.agg #[.int .i64 c,.int .i64 d])).run P w=.ok (decide (a=c/\b=d)) w:=by
 rw[run_equalIn_struct w 9999 37 _ _ (by kernel_rfl) (by kernel_rfl)];obtain ⟨f, g, GR, FN, FM, GS, GP, GO, GN⟩ : ∃ f g : Field, (P.fieldsOf 37).toList = [f, g] ∧ f.name = "Line" ∧ f.type = 3 ∧ f.offset = 0 ∧ g.name = "Col" ∧ g.type = 3 ∧ g.offset = 1 :=
  ⟨((P.fieldsOf 37).toList)[0]!,((P.fieldsOf 37).toList)[1]!,by kernel_rfl,by kernel_rfl,by kernel_rfl,by kernel_rfl,by kernel_rfl,by kernel_rfl,by kernel_rfl⟩
 rw[GR];have u1:P.underlying 3=some (.int .i64):=by kernel_rfl
 have p1:P.plainKey 3=true:=by kernel_rfl
 have e1:∀(x y:Int)(w:World),(part 3 #[.int .i64 x,.int .i64 y] 0).run P w=.ok (.int .i64 x) w:=fun x y w=>run_part_plain w p1 rfl;have e2:∀(x y:Int)(w:World),(part 3 #[.int .i64 x,.int .i64 y] 1).run P w=.ok (.int .i64 y) w:=fun x y w=>run_part_plain w p1 rfl;have q1:∀(x y:Int)(w:World),(Op.equalIn 9999 3 (.int .i64 x) (.int .i64 y)).run P w=.ok (x ==y) w:=fun x y w=>run_equalIn_int w 9998 _ _ _ _ _ u1;simp only[Op.eqFields,FN,FM,GS,GP,GO,GN,Sem.run_bind,Sem.run_ite,e1,e2,q1,Result.andThen_ok];by_cases h1:a=c <;>by_cases h2:b=d <;>simp[h1,h2]
theorem vM(s t:Operand)(a b c d:Int)(w:World):Sem.run P (do eqGuard .eql 37 s t (.agg #[.int .i64 a,.int .i64 b]) (.agg #[.int .i64 c,.int .i64 d]);Go.binOp .eql 37 (.agg #[.int .i64 a,.int .i64 b]) (.agg #[.int .i64 c,.int .i64 d]):Sem Value) w=.ok (.bool (decide (a=c/\b=d))) w:=by
 rw[Sem.run_bind,run_eqGuard_agg w .eql 37 s t _ _ (by kernel_rfl),Result.andThen_ok,run_eql_struct w,wY];rfl
abbrev tx1:List Int:=[115,101,101,107,32,53,10,99,111,117,110,116,10]
abbrev tx2:List Int:=[99,111,117,110,116,10,67,111,117,110,116,10]
theorem par1:gD tx1=([⟨1,5,0,0⟩,⟨4,0,0,0⟩],0,0,0):=by kernel_rfl
theorem par2:gD tx2=([],2,1,30):=by kernel_rfl
theorem pri1:gC [⟨1,5,0,0⟩,⟨4,0,0,0⟩]=tx1:=by
 have d:eQ 5=[53]:=by unfold eQ;rfl
 unfold gC;simp[uB,gG,eJ,d,cM]
theorem tx1_b:aN tx1:=by unfold aN tx1;decide
theorem tx2_b:aN tx2:=by unfold aN tx2;decide
theorem qT{w:World}(ht:rE w):Calls P 7 #[] w fun ev w'=>ev=.returned (.bool true)/\w.grownBy w' none:=by
 apply vc7;dsimp only[VC7,rb,Wt,Br,Bb,Rd,Ix,Ap,Eg,Ws,cB,cS,cT,nb,iq];refine(iR (l:=tx1) (by decide) tx1_b).mono fun ev w1 hh=>?_;rw[par1]at hh;obtain⟨A1,n1,c1,rfl,Fa,o1,g1⟩:=hh;replace Fa:n1=2:=Fa;subst Fa;obtain⟨v1,Jg,l1,l2,l3,l4,p1,gv1⟩:=AI w1 37 (.int .i64 0) (.int .i64 0) (.int .i64 0) (.int .i64 0);refine⟨_,_,_,_,_,_,rfl,l1,l2,l3,l4,?_⟩;rw[← Jg];refine(iR (l:=tx2) (by decide) tx2_b).mono fun ev w2 hh=>?_;rw[par2]at hh;obtain⟨A2,n2,c2,rfl,FJ,o2,g2⟩:=hh;replace FJ:n2=0:=FJ;subst FJ;obtain⟨v2,Kg,l1,l2,l3,l4,p2,gv2⟩:=AI w2 37 (.int .i64 0) (.int .i64 0) (.int .i64 2) (.int .i64 1);refine⟨_,_,_,_,_,_,rfl,l1,l2,l3,l4,?_⟩;rw[← Kg];refine pG.mono fun ev w3 hh=>?_;obtain⟨A3,n3,c3,rfl,o3,g3⟩:=hh;have n3e:n3=lX.length:=by have:=o3.cases.1;simp[bY]at this;omega
 refine⟨_,_,_,_,rfl,(vQ o3.row n3e (mQ o3)).mono fun ev w4 hh=>?_⟩;obtain⟨r,rfl,hR,hr,g4⟩:=hh;have Jm:r<w4.heap.size:=by obtain⟨RA,d,bv,h⟩:=hR;exact(Array.getElem?_eq_some_iff.1 h).1
 have EN:=aB gv1 g2;have FW:=aB (aB gv2 g3) g4;have G14:=aB EN FW;obtain⟨w5,HO,g5,b5⟩:=bZ w4 #[.int .i64 4,.int .i64 0,.int .u64 0,.int .u64 0] 47;have own:aD w5 w4.heap.size 47 4 (some ⟨w4.heap.size,0,none⟩) 1 1 (dY [⟨4,0,0,0⟩]):=aD.of_block (Nat.le_refl _) b5 (Nat.le_refl _) (by simp only[maxLen];omega) rfl rfl rfl;have Lt:=aB G14 g5;have Ja:=o1.kept Lt;obtain⟨A6,n6,c6,w6,r6,o6,g6,F8⟩:=fL (m:=2) (d:=c1) own Ja.row rfl (fun e=>by
  rcases Ja.cases.2 with⟨_,h,_⟩ | ⟨g,cur,h,_⟩
  ·cases h
  ·cases e.symm.trans h) (by omega) (by have:=g5.size;omega)
 have G56:w4.grownBy w6 none:=aP g5 g6 (fun k hk=>by cases hk;exact Nat.le_refl _);obtain⟨w7,Kd,g7,b7⟩:=bZ w6 #[.int .i64 0,.int .i64 0,.int .u64 0,.int .u64 0] 47;obtain⟨A8,n8,c8,w8,r8,o8,g8,Ii⟩:=fL (m:=1) (d:=1) (o6.kept g7) (oD (c:=⟨0,0,0,0⟩) b7) rfl (fun e=>by cases e) (by omega) (by have:=(aB G56 g7).size;omega);have G58:w4.grownBy w8 none:=aP (aB G56 g7) g8 (fun k hk=>(o6.kept g7).block_ge k hk);have e8:n8=4:=by omega
 subst e8;refine⟨_,_,rfl,fun e=>(by cases e),fun _=>⟨_,_,_,w6,by rw[← HO];exact r6,_,_,_,w8,by rw[← Kd];exact r8,(yJ (hR.kept G58) o8.row (fun a ha e=>by have:=o8.block_ge a.block (by rw[ha];rfl);omega)).mono fun ev w9 hh=>?_⟩⟩;obtain⟨A9,c9,rfl,rows9,K9⟩:=hh;have z14:=G14.size;have z1:=g1.size;have zv1:=gv1.size;have z2:=g2.size;have zv2:=gv2.size;have z3:=g3.size;have z58:=G58.size;have lt1:=(Array.getElem?_eq_some_iff.1 p1).1;have lt2:=(Array.getElem?_eq_some_iff.1 p2).1;have keep:∀ {q:Nat} {x:Obj},q<v2.heap.size->v2.heap[q]?=some x->w9.heap[q]?=some x:=fun {q x} hq hx=>by
  have h8:=aE (aE (aE (aE hx g3) g4) G58) (aF _ _);rw[K9.block _ (Array.getElem?_eq_some_iff.1 h8).1 (fun e=>by omega)];exact h8
 have p1':=keep (by omega) (aE (aE p1 g2) gv2);have p2':=keep lt2 p2;have GA:w.grownBy w9 none:=((Kp.of_none (aB (aB g1 G14) G58)).then K9 (fun q hq e=>e)).grown (fun q hq e=>by omega);have row1:bC w9 A1 (dY [⟨1,5,0,0⟩,⟨4,0,0,0⟩]):=((o1.kept G14).kept G58).row.kp K9 (fun a ha _ e=>by
  have:=(World.ownsRow.lt o1 a.block (by rw[ha];rfl)).2;omega)
 obtain⟨a1,rfl,f0,f1,f2,f3⟩:=lB row1 (j:=0) (by decide);simp only[Nat.zero_mul,qF]at f0 f1 f2 f3;obtain⟨a9,rfl,_⟩:=rows9 0 _ rfl;have at9:∀(j:Nat)(v:Value),(BC aQ)[j]?=some v->w9.cell? (a9.add j)=some v:=fun j v hj=>by obtain⟨b,q,e⟩:=rows9 j v hj;cases q;exact e
 have T9:rE w9:=ht.kept GA;refine⟨_,_,_,rfl,fun _=>⟨_,aA p1' 0,_,aA p1' 1,_,fun w=>vM _ _ _ _ _ _ w,fun _=>?_,fun e=>absurd e (by decide)⟩,fun e=>absurd rfl e⟩;refine⟨fun _=>⟨_,rfl,by omega,by omega,5,f1,fun _=>?_,fun e=>absurd rfl e⟩,fun e=>absurd rfl e⟩;refine⟨fun _=>⟨_,aA p2' 0,_,aA p2' 1,_,fun w=>vM _ _ _ _ _ _ w,fun _=>?_,fun e=>absurd e (by decide)⟩,fun e=>absurd rfl e⟩;refine⟨fun _=>⟨_,rfl,by omega,by omega,29,at9 1 _ rfl,fun _=>?_,fun e=>absurd rfl e⟩,fun e=>absurd rfl e⟩;refine⟨_,rfl,by omega,by omega,0,by rw[eV];exact at9 3 _ rfl,fun _=>?_,fun e=>absurd rfl e⟩;refine⟨_,rfl,by omega,by omega,3,at9 4 _ rfl,fun _=>?_,fun e=>absurd rfl e⟩;refine⟨_,rfl,by omega,by omega,30,by rw[eV];exact at9 7 _ rfl,fun _=>?_,fun e=>absurd rfl e⟩;refine(oZ row1 rfl (by decide) (fun c hc=>by simp at hc;rcases hc with rfl | rfl <;>(unfold cY;decide)) T9).mono fun ev Eo hh=>?_;obtain⟨rfl,EO⟩:=hh;rw[pri1];refine⟨_,rfl,_,fun w=>iE _ _ _ _ w,fun _=>?_,fun e=>?_⟩
 ·obtain⟨a2,q,e0,e1,e2,e3⟩:=lB (row1.kept_none EO) (j:=0) (by decide);cases q;simp only[Nat.zero_mul,qF]at e0 e1 e2 e3;refine⟨_,rfl,by omega,by omega,_,e0,_,e1,_,e2,_,e3,(dQ (c:=⟨1,5,0,0⟩) (by unfold Bj;decide)).mono fun ev D0 hh=>?_⟩;obtain⟨rfl,IV⟩:=hh;refine⟨_,rfl,fun _=>(dQ (c:=⟨0,0,0,0⟩) (by unfold Bj;decide)).mono fun ev FA hh=>?_,fun e=>absurd e (by decide)⟩;obtain⟨rfl,g12'⟩:=hh;refine⟨_,rfl,fun _=>yI.mono fun ev Fz hh=>?_,fun e=>absurd (by decide) e⟩;obtain⟨rfl,rfl⟩:=hh;exact⟨_,_,_,rfl,rfl,aB GA (aB (aB EO IV) g12')⟩
 ·exact absurd e (by rw[decide_eq_false_iff_not];exact fun h=>h (by rfl))
abbrev kW : List (String × DataW Unit) := [("math/bits.deBruijn32tab", Rows.laid_math_bits_deBruijn32tab), ("math/bits.deBruijn64tab", Rows.laid_math_bits_deBruijn64tab), ("internal/strconv.uint64pow10", Rows.laid_internal_strconv_uint64pow10)]
theorem CF:Rows.laid_internal_strconv_uint64pow10=(Lib.tabData .u64 Lib.pow10Tab:DataW Unit):=by kernel_rfl
theorem BO{W:World}(h:laidMetH P kW W):rE W:=by
 rw[MakeChecks.laidMetH_plain _ _ _ (by kernel_rfl)]at h;have h3:=h.tail.tail;rw[CF]at h3;exact Lib.tabIs_of_head Dr (by kernel_rfl) (t:=(P.globals[0]!).type) (e:=28) (n:=20) (by kernel_rfl) (by kernel_rfl) (by kernel_rfl) (by kernel_rfl) h3
theorem B8(os:Os)(args:Array Value):laidMetH P kW ((World.laidAll P os kW).forCall (fun _ _=>0) ⟨#[],args,[]⟩).memory:=by
 rw[MakeChecks.laidMetH_plain _ _ _ (by kernel_rfl)];exact laidMet_laidAll _ (by kernel_rfl) (by kernel_rfl)
theorem kw_b(k:Int):aN (eJ k):=by
 unfold eJ aN;split
 ·decide
 split
 ·decide
 split
 ·decide
 split
 ·decide
 split
 ·decide
 split
 ·decide
 ·decide
theorem arg_b(c:Cm):aN (gG c):=by
 have h:=Bw;unfold gG;have sp:∀ {l:List Int},aN l->aN (32 ::l):=fun hl x hx=>by
  rcases List.mem_cons.1 hx with rfl | hx
  ·decide
  ·exact hl x hx
 split
 ·exact sp (h _)
 split
 ·intro x hx;rw[List.mem_append]at hx;rcases hx with hx | hx
  ·exact sp (h _) x hx
  ·exact sp (h _) x hx
 split
 ·exact sp (h _)
 ·intro x hx;cases hx
theorem DH{a b:List Int}(ha:aN a)(hb:aN b):aN (a++b):=fun x hx=>by
 rcases List.mem_append.1 hx with hx | hx
 ·exact ha x hx
 ·exact hb x hx
theorem vE{w:World}{A:OA}{n c:Nat}{l:List dO}{N k:Int}(hr:bC w A (cK l))(hn:n=l.length)(hl:n<=2^20)(hk:0<=k/\k<=255)(hb:∀ e∈l,0<=e.t/\e.t<=2251799813685248):
    Calls P 24 #[.agg #[.int .u64 N,.slice A n c],.int .u8 k] w fun ev w'=>∃ t:Int,ev=.returned (.int .i64 t)/\t<=9223372036854775807/\w.grownBy w' none:=by
  apply vc24;dsimp only[VC24,Br,Rd,Rs,Ix,nb,al,iq]
  try simp only[aI]
  obtain⟨w0,EY,g0,b0⟩:=bZ w #[.int .u64 N,.slice A n c] 31;rw[← EY];have gd:=aG (aF w0 none);have bd:=aE b0 gd;have g0d:=aB g0 gd;obtain⟨w1,DU⟩:∃ w1,w1=w0.drew:=⟨_,rfl⟩;rw[← DU]at gd bd g0d ⊢;have g2:=World.grownBy_alloc w0 (.cells #[.int .i64 0,.int .i64 5,.int .i64 4611686018427387903,.int .i64 9223372036854775807,.int .i64 (-1),.int .i64 (-9223372036854775808)] 2) none;have b2:=heap_alloc_new w0 (.cells #[.int .i64 0,.int .i64 5,.int .i64 4611686018427387903,.int .i64 9223372036854775807,.int .i64 (-1),.int .i64 (-9223372036854775808)] 2);have lit:∀ j:Int,0<=j->j<6->∃ x:Int,(w0.alloc (.cells #[.int .i64 0,.int .i64 5,.int .i64 4611686018427387903,.int .i64 9223372036854775807,.int .i64 (-1),.int .i64 (-9223372036854775808)] 2)).cell? (Addr.add ⟨w0.heap.size,0,none⟩ j.toNat)=some (.int .i64 x)/\x<=9223372036854775807:=by
    intro j h0 h6;have e:Addr.add ⟨w0.heap.size,0,none⟩ j.toNat=⟨w0.heap.size,j.toNat,none⟩:=bB _ _;rw[e,aA b2];obtain⟨q,rfl⟩:∃ q:Nat,j=(q:Int):=⟨j.toNat,by omega⟩;have:q=0∨q=1∨q=2∨q=3∨q=4∨q=5:=by omega
    rcases this with rfl | rfl | rfl | rfl | rfl | rfl <;>exact⟨_,rfl,by omega⟩
  obtain⟨x,hx,Hi⟩:=lit (k % 6) (by omega) (by omega);refine⟨_,_,_,aA b0 1,fun h0=>⟨by omega,_,rfl,by omega,by omega,x,hx,x,rfl,Hi,aB g0 g2⟩,fun h0=>⟨fun IP=>⟨by omega,_,rfl,by omega,by omega,x,hx,x,rfl,Hi,aB g0 g2⟩,fun IP=>?_⟩⟩;have LL:0<l.length:=by omega
  have h1:=Int.emod_nonneg (k / 3) (show(n:Int)≠0 by omega);have h2:=Int.emod_lt_of_pos (k / 3) (show(0:Int)<(n:Int) by omega);obtain⟨p,hp⟩:∃ p:Nat,(p:Int)=k / 3 % (n:Int):=⟨(k / 3 % (n:Int)).toNat,by omega⟩;obtain⟨a,e1,e2,_⟩:=nB (hr.kept_none g0d) (show p<l.length by omega);have ht:=hb _ (List.getElem_mem (show p<l.length by omega));refine⟨_,_,_,aA bd 1,⟨by omega,by omega,by omega,by omega⟩,by omega,_,_,_,aA bd 1,⟨by omega,by omega⟩,a,e1,by omega,by omega,l[p].t,?_,⟨by omega,by omega⟩,by omega,by omega,by omega,_,rfl,by omega,g0d⟩;rw[← hp];exact e2
abbrev cmdA(c:Cm):Array Value:=#[.int .i64 c.k,.int .i64 c.t,.int .u64 c.u,.int .u64 c.v]
theorem yD {w:World} {A B:OA} {n c m d:Nat} {l:List dO} {N:Int} {u:List Int} (hA:bC w A (cK l)) (hn:n=l.length) (hl:n<=2^20) (Iy:∀ e∈l,0<=e.t/\e.t<=2251799813685248) (hN:1<=N/\N<=4294967296) (hB:bC w B (bY u)) (hm:m=u.length) (hu:aN u) (Ik:m<=2^20) :
    Calls P 9 #[.agg #[.int .u64 N,.slice A n c],.slice B m d] w fun ev w'=>∃(A':OA)(n' c':Nat)(cs:List Cm),ev=.returned (.slice A' n' c')/\n'=cs.length/\cs.length<=m/\(∀ c∈cs,cY c)/\aD w' w.heap.size 47 4 A' n' c' (dY cs)/\w.grownBy w' none:=by
  apply vc9;dsimp only[VC9,Wt,Br,Bb,Rd,Rs,Ix,Ap,Ws,cI,nb,iq]
  try simp only[aI,mnI]
  obtain⟨w0,EY,g0,b0⟩:=bZ w #[.int .u64 N,.slice A n c] 31;rw[← EY];refine⟨fun mm O on oc x W=>∃(q:Nat)(cs:List Cm),x=(q:Int)/\q<=u.length/\mm=u.length-q/\on=cs.length/\cs.length<=q/\(∀ c∈cs,cY c)/\aD W w.heap.size 47 4 O on oc (dY cs)/\W.heap[w.heap.size]?=some (.cells #[.int .u64 N,.slice A n c] 31 (0,0))/\w.grownBy W none,⟨u.length,0,[],rfl,Nat.zero_le _,rfl,rfl,Nat.le_refl _,(fun c h=>by cases h),aD.nil _ _ _ _,b0,g0⟩,?_⟩;rintro mm O on oc x W ⟨q,cs,rfl,hq,rfl,rfl,LX,EM,ho,bh,gW⟩;refine⟨⟨by omega,by omega⟩,fun DL=>?_,fun DR=>⟨_,_,_,cs,rfl,rfl,by omega,EM,ho,gW⟩⟩;have q1:((q:Int)+1).toNat=q+1:=by omega
  have q2:((q:Int)+2).toNat=q+2:=by omega
  have q0:(q:Int).toNat=q:=by omega
  rw[q0,q1,q2];have H0:q<u.length:=by omega
  have F7:q+1<u.length:=by omega
  have HZ:q+2<u.length:=by omega
  obtain⟨a,rfl⟩:∃ a,B=some a:=by obtain⟨a,e,_⟩:=hB q (.int .u8 u[q]) (by simp[bY,H0]);exact⟨a,e⟩
  have rB:∀ {V:World},w.grownBy V none->∀ {j:Nat} (hj:j<u.length),V.cell? (a.add j)=some (.int .u8 u[j]):=fun {V} g {j} hj=>by
    obtain⟨b,e,h⟩:=hB.kept_none g j (.int .u8 u[j]) (by simp[bY,hj]);cases e;exact h
  have x0:=hu _ (List.getElem_mem H0);have x1:=hu _ (List.getElem_mem F7);have x2:=hu _ (List.getElem_mem HZ);obtain⟨v,hv,l1,l2,l3,l4,l5,l6,l7,l8,b1,gv⟩:=Di W 47 (.int .i64 0) (.int .i64 0) (.int .u64 0) (.int .u64 0) (.int .i64 (u[q] % 8+1)) (.int .i64 0) (.int .u64 0) (.int .u64 0);have w1:=gW.size;have lw:=(Array.getElem?_eq_some_iff.1 bh).1;have zv:=gv.size;have lb:=(Array.getElem?_eq_some_iff.1 b1).1;refine⟨_,rfl,by omega,by omega,_,rB gW H0,⟨by omega,by omega⟩,⟨by omega,by omega⟩,⟨by omega,by omega⟩,l1,l2,l3,l4,l5,l6,l7,l8,?_⟩;rw[← hv];have gWv:=aB gW gv;refine⟨fun V=>∃ K:Int,(1<=K/\K<=6)/\V.heap[W.heap.size]?=some (.cells #[.int .i64 K,.int .i64 0,.int .u64 0,.int .u64 0] 47 (0,0))/\W.grownBy V none,⟨_,aA b1 0,fun h6=>?_,fun h6=>?_⟩,?_⟩
  · have s:=aH b1 0 (.int .i64 1);have K1:=cH (j:=0) (u:=.int .i64 1) (Kp.refl v (fun q=>q=W.heap.size)) rfl;exact⟨⟨_,aA b1 0⟩,aC b1 0,1,by omega,by simpa using s,((Kp.of_none gv).then K1 (fun q _ e=>e)).grown (fun q hq e=>by omega)⟩
  · exact⟨_,⟨by omega,by omega⟩,b1,gv⟩
  rintro V ⟨K,hK,bK,gV⟩;have gWV:=aB gW gV;have gd:=aG gWV;have hd:=aE bh (aG gV);have bKd:V.drew.heap[W.heap.size]?=some (.cells #[.int .i64 K,.int .i64 0,.int .u64 0,.int .u64 0] 47 (0,0)):=bK;have hF:1<=min N 9+1/\min N 9+1<=10:=by omega
  refine⟨N,aA (aE bh gV) 0,?_⟩;generalize min N 9+1=F at hF ⊢;have m1:0<=u[q+1] % F/\u[q+1] % F<=255:=⟨Int.emod_nonneg _ (by omega),by have:=Int.emod_lt_of_pos u[q+1] (show 0<F by omega);omega⟩;have m2:0<=u[q+2] % F/\u[q+2] % F<=255:=⟨Int.emod_nonneg _ (by omega),by have:=Int.emod_lt_of_pos u[q+2] (show 0<F by omega);omega⟩;refine⟨⟨by omega,by omega⟩,⟨by omega,by omega⟩,a,rfl,by omega,by omega,_,rB gd F7,⟨by omega,by omega⟩,⟨by omega,by omega⟩,⟨by omega,by omega⟩,a,rfl,by omega,by omega,_,rB gd HZ,⟨by omega,by omega⟩,⟨by omega,by omega⟩,fun uu V'=>(0<=uu/\uu<=18446744073709551615)/\V'=V.drew,⟨⟨by omega,by omega⟩,a,rfl,by omega,by omega,_,rB gd F7,fun _=>⟨N,aA hd 0,⟨by omega,by omega⟩,⟨by omega,by omega⟩,rfl⟩,fun _=>⟨⟨by omega,by omega⟩,rfl⟩⟩,?_⟩;rintro uu V' ⟨Lz,rfl⟩;refine⟨fun vv V'=>(0<=vv/\vv<=18446744073709551615)/\V'=V.drew,⟨⟨by omega,by omega⟩,a,rfl,by omega,by omega,_,rB gd HZ,fun _=>⟨N,aA hd 0,⟨by omega,by omega⟩,rfl⟩,fun _=>⟨⟨by omega,by omega⟩,rfl⟩⟩,?_⟩;rintro vv V' ⟨Jg,rfl⟩;have zV:=gV.size;refine⟨K,aA bKd 0,fun U=>∃ c:Cm,cY c/\U.heap[W.heap.size]?=some (.cells (cmdA c) 47 (0,0))/\W.grownBy U none,⟨fun h1=>?_,fun h1=>?_⟩,?_⟩
  · have gdd:=aG gd;have JC:=aE hd (aG (aF V.drew none));have bKdd:=aE bKd (aG (aF V.drew none));refine⟨N,aA JC 0,?_⟩;refine⟨_,_,_,aA JC 1,?_⟩;refine⟨⟨by omega,by omega⟩,a,rfl,by omega,by omega,?_⟩;refine⟨_,rB gdd F7,?_⟩;have T:=vE (w:=V.drew.drew) (c:=c) (N:=N) (hA.kept_none gdd) hn hl x1 Iy;refine T.mono fun ev V2 hh=>?_;obtain⟨t,rfl,ht,g2⟩:=hh;have b2:=aE bKdd g2;have LK:0<=mx t 0/\mx t 0<=9223372036854775807:=by unfold mx;split <;>omega
    have s:=aH b2 1 (.int .i64 (mx t 0));have K1:=cH (j:=1) (u:=.int .i64 (mx t 0)) (Kp.refl V2 (fun q=>q=W.heap.size)) rfl;exact⟨_,rfl,⟨_,aA b2 1⟩,aC b2 1,⟨K,mx t 0,0,0⟩,by unfold cY;simp only;omega,by simpa using s,((Kp.of_none (aB (aG (aG gV)) g2)).then K1 (fun q _ e=>e)).grown (fun q hq e=>by omega)⟩
  · refine⟨fun z U=>U=V.drew/\z=decide (K=3∨K=6),⟨fun h=>⟨rfl,by rw[decide_eq_decide];omega⟩,fun h=>⟨rfl,by rw[decide_eq_decide];omega⟩⟩,?_⟩;rintro z U ⟨rfl,rfl⟩;have KW:∀ {X:World},Kp V.drew X (fun q=>q=W.heap.size)->W.grownBy X none:=fun {X} hk=>((Kp.of_none (aG gV)).then hk (fun q _ e=>e)).grown (fun q hq e=>by omega);refine⟨fun h2=>?_,fun h2=>?_⟩
    · have s:=aH bKd 2 (.int .u64 uu);exact⟨⟨_,aA bKd 2⟩,aC bKd 2,⟨K,0,uu,0⟩,by unfold cY;simp only;omega,by simpa using s,KW (cH (Kp.refl _ _) rfl)⟩
    · refine⟨fun z U=>U=V.drew/\z=decide (K=2∨K=5),⟨fun h=>⟨rfl,by rw[decide_eq_decide];omega⟩,fun h=>⟨rfl,by rw[decide_eq_decide];omega⟩⟩,?_⟩;rintro z U ⟨rfl,rfl⟩;refine⟨fun h4=>?_,fun h4=>?_⟩
      · have s:=aH bKd 2 (.int .u64 uu);have s2:=aH s 3 (.int .u64 vv);exact⟨⟨_,aA bKd 2⟩,aC bKd 2,⟨_,aA s 3⟩,aC s 3,⟨K,0,uu,vv⟩,by unfold cY;simp only;omega,by simpa using s2,KW (cH (cH (Kp.refl _ _) rfl) rfl)⟩
      · exact⟨⟨K,0,0,0⟩,by unfold cY;simp only;omega,bKd,aG gV⟩
  rintro U ⟨c',Fy,bU,gU⟩;refine⟨_,aA bU 0,_,aA bU 1,_,aA bU 2,_,aA bU 3,?_⟩;obtain⟨w8,Kc,g8,b8⟩:=bZ U (cmdA c') 47;have gU8:=aB gU g8;have zU:=gU8.size;have o8:=ho.kept gU8;obtain⟨A',n',cc',w9,DV,o9,g9,Ih⟩:=fL (m:=1) (d:=1) o8 (oD (c:=c') b8) rfl (fun h=>by cases h) (by omega) (by omega);have bh9:w9.heap[w.heap.size]?=some (.cells #[.int .u64 N,.slice A n c] 31 (0,0)):=by
    have h8:=aE bh gU8;rw[g9.block _ (Array.getElem?_eq_some_iff.1 h8).1 (fun e=>Az o8 h8 (by decide) e.symm)];exact h8
  have gW9:w.grownBy w9 none:=aP (aB gW gU8) g9 (fun k hk=>o8.block_ge k hk);refine⟨_,_,_,w9,by rw[← Kc];exact DV,⟨by omega,by omega⟩,u.length-(q+3),by omega,q+3,cs++[c'],by omega,by omega,rfl,by simp;omega,by simp;omega,fun x hx=>?_,o9,bh9,gW9⟩;rcases List.mem_append.1 hx with hx | hx
  · exact EM x hx
  · rw[List.mem_singleton.1 hx];exact Fy
theorem lin_b(c:Cm):aN (uB c):=DH (DH (kw_b _) (arg_b _)) (fun x hx=>by simp at hx;subst hx;decide)
theorem pri_b(l:List Cm):aN (gC l):=fun x hx=>by
 unfold gC at hx;obtain⟨c,_,h⟩:=List.mem_flatMap.1 hx;exact lin_b c x h
theorem Cg:kL P 22 5 1 (P.bytesOf 5):=⟨(P.info? 5).getD default,((P.info? 5).getD default).zero.getD undef,by kernel_rfl,by kernel_rfl,by kernel_rfl,by kernel_rfl,by kernel_rfl,by kernel_rfl,by decide⟩
theorem C6:P.bytesOf 5<=64:=of_decide_eq_true (by kernel_rfl)
theorem yB(l m:List Int):bY (l++m)=bY l++bY m:=by simp
theorem kE{w:World}{base:Nat}{A B:OA}{n c m d:Nat}{xs ys:List Int}(ho:aD w base 5 1 A n c (bY xs))(hB:bC w B (bY ys))(hm:m=ys.length)(hd:B=none->d=0)(hn:n+m<=2^39)(hb:base<=w.heap.size):
    ∃ (A':OA) (n' c':Nat) (w':World),Sem.run P (Builtin.append_ #[22,22] 22 #[.slice A n c,.slice B m d]) w=.ok (.slice A' n' c') w' ∧
      aD w' base 5 1 A' n' c' (bY (xs++ys))/\w.grownBy w' (Value.slice A n c).ownBlock/\n'=n+m:=by
  cases B with
  | none =>
    have FB:ys=[]:=by
      cases ys with
      | nil=>rfl
      | cons y ys=>obtain⟨a,e,_⟩:=hB 0 _ rfl;cases e
    subst FB;have h0:m=0:=by simpa using hm
    have h1:=hd rfl;subst h0 h1;exact⟨A,n,c,w,ho.appends_nil Cg,by simpa using ho,aF _ _,rfl⟩
  | some a =>
    obtain⟨A',n',c',w',h1,h2,h3,h4,_⟩:=ho.appends (ty:=22) Cg C6 (a:=a) (m:=m) (cc:=d) (us:=bY ys) (by simp[hm]) (fun j u hj=>by obtain⟨b,q1,q2⟩:=hB j u hj;cases q1;exact q2) (fun u hu=>by
      simp at hu;obtain⟨e,_,rfl⟩:=hu;rfl) (by omega) hb
    exact⟨A',n',c',w',h1,by rw[yB];exact h2,h4,h3⟩
theorem Ck{w:World}{A:OA}{c k:Nat}{l:List Int}(h:bC w A (bY l))(hA:A=none->c=0)(hc:l.length<=c):bC w (bN A c k 1) (bY (l.drop k))/\(bN A c k 1=none->c-k=0):=by
 refine⟨uL h hc,fun e=>?_⟩;unfold bN at e;split at e
 ·omega
 ·cases A with
  | none=>have:=hA rfl;omega
  | some a=>cases e
theorem sW{w:World}{l:List Int}(hb:aN l):∃(a:Addr)(n c:Nat)(w':World),Sem.run P (Go.convert 9 22 (cF l)) w=.ok (.slice (some a) n c) w'/\bC w' (some a) (bY l)/\n=l.length/\n<=c/\w.grownBy w' none:=by
 have h:=run_bytes_of_string (P:=P) w 9 22 5 (aO l) (by kernel_rfl) (by kernel_rfl) (by kernel_rfl);have hc:=grownCap_ge w (aO l).size 0 5;rw[aK]at h hc;refine⟨_,_,_,_,h,?_,rfl,hc,?_⟩
 ·intro j u hj;refine⟨_,rfl,?_⟩;have EB:j<l.length:=by
   have:=(List.getElem?_eq_some_iff.1 hj).1;simpa using this
  have hu:u=.int .u8 l[j]:=by simpa[EB]using hj.symm
  subst hu;have hx:=hb _ (List.getElem_mem EB);have hn:=heap_alloc_new w.drew (.cells (Go.bytesRow (aO l) (grownCap w l.length 0 5)) 5 ((Go.bytesRow (aO l) (grownCap w l.length 0 5)).size,(Go.bytesRow (aO l) (grownCap w l.length 0 5)).size+1));rw[bB];refine(aA hn j).trans ?_;have hd:(aO l).data[j]?=some (UInt8.ofNat l[j].toNat):=by
   rw[← Array.getElem?_toList,bJ,List.getElem?_map,List.getElem?_eq_getElem EB];rfl
  unfold Go.bytesRow;rw[Array.getElem?_append_left (by rw[Array.size_map];exact(Array.getElem?_eq_some_iff.1 hd).1),Array.getElem?_map,hd,Option.map_some,nD hx]
 ·exact aB (aG (aF w none)) (World.grownBy_alloc _ _ _)
theorem yG{w:World}{A M:OA}{n c m d:Nat}{l mo:List Int}{E8 at' x:Int}(hA:bC w A (bY l))(hn:n=l.length)(hc:n<=c)(Hd:A=none->c=0)(Gb:aN l)(hM:bC w M (bY mo))(hm:m=mo.length)(JR:M=none->d=0)(GD:aN mo)(hl:l.length<=2^20)(Ik:mo.length<=2^20)(hh:0<=E8/\E8<=255)(ha:0<=at'/\at'<=65535)(hx:0<=x/\x<=255):
    Calls P 11 #[.slice A n c,.int .u8 E8,.int .u16 at',.int .u8 x,.slice M m d] w fun ev w'=>∃(A':OA)(n' c':Nat)(y:List Int),ev=.returned (.slice A' n' c')/\n'=y.length/\bC w' A' (bY y)/\aN y/\y.length<=l.length+mo.length/\w.grownBy w' none:=by
  apply vc11;dsimp only[VC11,Wt,Br,Bb,Ix,Ap]
  try simp only[aI]
  have nilU:∀ {V:World},aD V V.heap.size 5 1 none 0 0 (bY []):=fun {V}=>aD.nil _ _ _ _;have apn:∀ {V:World} {B:OA} {k e:Nat} {ys:List Int},w.grownBy V none->bC V B (bY ys)->k=ys.length->(B=none->e=0)->ys.length<=2^30->∃(A':OA)(n' c':Nat)(V':World),Sem.run P (Builtin.append_ #[22,22] 22 #[.slice none 0 0,.slice B k e]) V=.ok (.slice A' n' c') V'/\aD V' V.heap.size 5 1 A' n' c' (bY ys)/\V.grownBy V' none/\n'=ys.length/\w.grownBy V' none:=fun {V B k e ys} g hB hk he hy=>by
    obtain⟨A',n',c',V',r,o,g',EE⟩:=kE (ys:=ys) nilU hB hk he (by omega) (Nat.le_refl _);exact⟨A',n',c',V',r,by simpa using o,g',by omega,aB g g'⟩
  obtain⟨A1,n1,c1,w1,r1,o1,g1,Fa,G1⟩:=apn (aF w none) hA hn Hd (by omega);refine⟨_,_,_,w1,r1,fun h0=>?_,fun h0=>?_⟩
  · obtain⟨A2,n2,c2,w2,r2,o2,g2,FJ,G2⟩:=apn G1 (hM.kept_none G1) hm JR (by omega);exact⟨_,_,_,w2,r2,A2,n2,c2,mo,rfl,FJ,o2.row,GD,by omega,G2⟩
  have FL:=Int.emod_nonneg at' (show(n1:Int)≠0 by omega);have Gc:=Int.emod_lt_of_pos at' (show(0:Int)<(n1:Int) by omega);obtain⟨k,hk⟩:∃ k:Nat,at' % (n1:Int)=(k:Int):=⟨(at' % (n1:Int)).toNat,by omega⟩;rw[hk];have tk:(k:Int).toNat=k:=by omega
  have tk1:((k:Int)+1).toNat=k+1:=by omega
  rw[tk,tk1];have Jx:k<l.length:=by omega
  have bT:∀ {j:Nat},aN (l.take j):=fun {j} y hy=>Gb y (List.mem_of_mem_take hy);have bD:∀ {j:Nat},aN (l.drop j):=fun {j} y hy=>Gb y (List.mem_of_mem_drop hy);have lT:(l.take k).length=k:=by rw[List.length_take];omega
  refine⟨⟨by omega,by omega⟩,⟨by omega,by omega⟩,⟨by omega,by omega⟩,fun A' n' c' W=>∃ y:List Int,n'=y.length/\bC W A' (bY y)/\aN y/\y.length<=l.length+mo.length/\w.grownBy W none,⟨fun z W=>W=w1/\z=decide (E8 % 5=0∨E8 % 5=1),⟨fun h=>⟨rfl,by rw[decide_eq_decide];omega⟩,fun h=>⟨rfl,by rw[decide_eq_decide];omega⟩⟩,?_⟩,?_⟩
  · rintro z W ⟨rfl,rfl⟩;have gd:=aG G1;refine⟨fun h1=>?_,fun h1=>⟨fun h2=>?_,fun h2=>⟨fun h3=>?_,fun h3=>?_⟩⟩⟩
    · obtain⟨b,rfl,L0,_,D8,KR,o1',K1⟩:=CM o1 (k:=k) (by simp;omega) (.int .u8 x);refine⟨_,rfl,by omega,by omega,?_⟩;rw[bB];have e:(bY l).set k (.int .u8 x)=bY (l.set k x):=by simp
      rw[e]at o1';refine⟨D8,KR,l.set k x,by rw[List.length_set];omega,o1'.row,fun y hy=>?_,by rw[List.length_set];omega,((Kp.of_none G1).then K1 (fun q hq e=>e)).grown (fun q hq e=>by omega)⟩;rcases List.mem_or_eq_of_mem_set hy with h | rfl
      · exact Gb y h
      · exact hx
    · obtain⟨A2,n2,c2,w2,r2,o2,g2,FJ,G2⟩:=apn gd ((hA.kept_none gd).take k |>fun h=>(by rw[← List.map_take]at h;exact h:bC W.drew A (bY (l.take k)))) lT.symm Hd (by omega);obtain⟨A3,n3,c3,w3,r3,o3,g3,F9⟩:=kE o2 (hM.kept_none G2) hm JR (by omega) g2.size;have G3:w.grownBy w3 none:=aP G2 g3 (fun j hj=>Nat.le_trans gd.size (o2.block_ge j hj));obtain⟨q1,q2⟩:=Ck (k:=k) (hA.kept_none G3) Hd (by omega);obtain⟨A4,n4,c4,w4,r4,o4,g4,ET⟩:=kE o3 q1 (m:=n-k) (by simp;omega) q2 (by omega) (Nat.le_trans g2.size g3.size);refine⟨⟨by omega,by omega⟩,_,_,_,w2,r2,_,_,_,w3,r3,⟨by omega,by omega⟩,_,_,_,w4,r4,_,_,_,l.take k++mo++l.drop k,rfl,?_,o4.row,DH (DH bT GD) bD,by simp;omega,aP G3 g4 (fun j hj=>Nat.le_trans gd.size (o3.block_ge j hj))⟩;simp;omega
    · exact⟨⟨by omega,by have:=mQ o1;omega⟩,_,_,_,l.take k,rfl,lT.symm,by have:=o1.row.take k;rw[← List.map_take]at this;exact this,bT,by omega,G1⟩
    · obtain⟨A2,n2,c2,w2,r2,o2,g2,FJ,G2⟩:=apn gd ((hA.kept_none gd).take k |>fun h=>(by rw[← List.map_take]at h;exact h:bC W.drew A (bY (l.take k)))) lT.symm Hd (by omega);obtain⟨q1,q2⟩:=Ck (k:=k+1) (hA.kept_none G2) Hd (by omega);obtain⟨A4,n4,c4,w4,r4,o4,g4,ET⟩:=kE o2 q1 (m:=n-(k+1)) (by simp;omega) q2 (by omega) g2.size;refine⟨⟨by omega,by omega⟩,_,_,_,w2,r2,⟨by omega,by omega⟩,⟨by omega,by omega⟩,_,_,_,w4,r4,l.take k++l.drop (k+1),?_,o4.row,DH bT bD,by simp;omega,aP G2 g4 (fun j hj=>Nat.le_trans gd.size (o2.block_ge j hj))⟩;simp;omega
  · rintro A' n' c' W ⟨y,rfl,h1,h2,h3,h4⟩;exact⟨_,_,_,y,rfl,rfl,h1,h2,h3,h4⟩
abbrev Ds:List (List Int):=[[115,101,101,107,32,53,10],[115,101,101,107,32,57,50,50,51,51,55,50,48,51,54,56,53,52,55,55,53,56,48,56,10],[99,111,110,110,101,99,116,101,100,32,48,32,49,10],[99,111,110,110,101,99,116,101,100,32,48,10],[115,105,122,101,32,51,10],[115,105,122,101,32,49,56,52,52,54,55,52,52,48,55,51,55,48,57,53,53,49,54,49,54,10],[99,111,117,110,116,10],[99,111,117,110,116,32,10],[104,97,115,32,49,32,50,10],[100,101,103,114,101,101,32,49],[100,101,103,114,101,101,32,48,49,10],[10],[120,10],[115,101,101,107,32,45,49,10],[83,105,122,101,32,49,10],[99,111,117,110,116,115,10],[104,97,115,32,49,32,32,50,10]]
abbrev soA:Array Value:=#[.string ⟨#[115,101,101,107,32,53,10]⟩,.string ⟨#[115,101,101,107,32,57,50,50,51,51,55,50,48,51,54,56,53,52,55,55,53,56,48,56,10]⟩,.string ⟨#[99,111,110,110,101,99,116,101,100,32,48,32,49,10]⟩,.string ⟨#[99,111,110,110,101,99,116,101,100,32,48,10]⟩,.string ⟨#[115,105,122,101,32,51,10]⟩,.string ⟨#[115,105,122,101,32,49,56,52,52,54,55,52,52,48,55,51,55,48,57,53,53,49,54,49,54,10]⟩,.string ⟨#[99,111,117,110,116,10]⟩,.string ⟨#[99,111,117,110,116,32,10]⟩,.string ⟨#[104,97,115,32,49,32,50,10]⟩,.string ⟨#[100,101,103,114,101,101,32,49]⟩,.string ⟨#[100,101,103,114,101,101,32,48,49,10]⟩,.string ⟨#[10]⟩,.string ⟨#[120,10]⟩,.string ⟨#[115,101,101,107,32,45,49,10]⟩,.string ⟨#[83,105,122,101,32,49,10]⟩,.string ⟨#[99,111,117,110,116,115,10]⟩,.string ⟨#[104,97,115,32,49,32,32,50,10]⟩]
theorem Dt:∀ {j:Nat} (hj:j<17),soA[j]?=some (cF (Ds[j]'hj))
 | 0,_=>by kernel_rfl
 | 1,_=>by kernel_rfl
 | 2,_=>by kernel_rfl
 | 3,_=>by kernel_rfl
 | 4,_=>by kernel_rfl
 | 5,_=>by kernel_rfl
 | 6,_=>by kernel_rfl
 | 7,_=>by kernel_rfl
 | 8,_=>by kernel_rfl
 | 9,_=>by kernel_rfl
 | 10,_=>by kernel_rfl
 | 11,_=>by kernel_rfl
 | 12,_=>by kernel_rfl
 | 13,_=>by kernel_rfl
 | 14,_=>by kernel_rfl
 | 15,_=>by kernel_rfl
 | 16,_=>by kernel_rfl
 | n+17,h=>absurd h (by omega)
theorem so_b{j:Nat}(hj:j<17):aN (Ds[j]'hj)/\(Ds[j]'hj).length<=40:=by
 have:∀ j:Fin 17,(∀ x∈(Ds[j]'j.2),0<=x/\x<=255)/\(Ds[j]'j.2).length<=40:=by decide
 exact this ⟨j,hj⟩
theorem lI{w:World}{A:OA}{n c:Nat}{l:List Int}(hr:bC w A (bY l))(hn:n=l.length)(hb:aN l)(hl:l.length<=2^10):
    Calls P 12 #[.slice A n c] w fun ev w'=>∃ t:List Int,ev=.returned (cF t)/\aN t/\t.length<=40*l.length/\w.grownBy w' none:=by
  apply vc12;dsimp only[VC12,Br,Rd,Ix,nb]
  try simp only[aI]
  obtain⟨w1,DU,g1,b1⟩:=bZ w soA 9;rw[← DU];refine⟨fun m s i W=>∃(q:Nat)(t:List Int),i=(q:Int)/\q<=l.length/\m=l.length-q/\s=aO t/\aN t/\t.length<=40*q/\W=w1,⟨l.length,0,[],rfl,Nat.zero_le _,rfl,rfl,(fun x hx=>by cases hx),by simp,rfl⟩,?_⟩;rintro m s i W ⟨q,t,rfl,hq,rfl,rfl,Gq,FY,rfl⟩;have tq:(q:Int).toNat=q:=by omega
  rw[tq];refine⟨fun DL=>?_,fun DR=>⟨t,rfl,Gq,by omega,g1⟩⟩;have Jo:q<l.length:=by omega
  obtain⟨a,rfl,hx⟩:=hr.kept_none g1 q (.int .u8 l[q]) (by simp[Jo]);have h0:=hb _ (List.getElem_mem Jo);obtain⟨j,hj⟩:∃ j:Nat,l[q] % 17=(j:Int):=⟨(l[q] % 17).toNat,by omega⟩;have GK:j<17:=by omega
  have tj:(j:Int).toNat=j:=by omega
  obtain⟨s1,s2⟩:=so_b GK;refine⟨_,rfl,by omega,by omega,_,hx,⟨by omega,by omega⟩,⟨by omega,by omega⟩,_,rfl,by omega,by omega,aO (Ds[j]'GK),?_,_,fun w=>cJ (by omega) w,⟨by omega,by omega⟩,l.length-(q+1),by omega,q+1,t++(Ds[j]'GK),by omega,by omega,rfl,rfl,DH Gq s1,by rw[List.length_append];omega,rfl⟩;rw[hj,tj,bB];exact(aA b1 j).trans (Dt GK)
theorem BS(s t:Operand)(a b c d:Int)(w:World):Sem.run P (do eqGuard .neq 37 s t (.agg #[.int .i64 a,.int .i64 b]) (.agg #[.int .i64 c,.int .i64 d]);Go.binOp .neq 37 (.agg #[.int .i64 a,.int .i64 b]) (.agg #[.int .i64 c,.int .i64 d]):Sem Value) w=.ok (.bool (!decide (a=c/\b=d))) w:=by
 rw[Sem.run_bind,run_eqGuard_agg w .neq 37 s t _ _ (by kernel_rfl),Result.andThen_ok,run_neq_struct w,wY];rfl
theorem BP(b:ByteArray):∃ t:List Int,b=aO t/\aN t:=by
 refine⟨b.data.toList.map fun x=>(x.toNat:Int),?_,fun x hx=>?_⟩
 ·apply oB;rw[bJ,List.map_map]
  conv=>lhs;rw[← List.map_id b.data.toList]
  apply List.map_congr_left;intro x _;show x=UInt8.ofNat ((x.toNat:Int)).toNat;rw[Int.toNat_natCast,UInt8.ofNat_toNat]
 ·obtain⟨y,_,rfl⟩:=List.mem_map.1 hx;have:=y.toNat_lt;omega
theorem vW:∀(n:Nat)(s:Sn)(out:List Cm),s.l.length<n->(jH n s out).1.length<=out.length+s.l.length
 | 0,s,out,h=>absurd h (by omega)
 | n+1,s,out,hn=>by
  by_cases he:s.e≠0
  ·rw[yV hn he];simp
  replace he:s.e=0:=by omega
  by_cases hl:s.l=[]
  ·rw[pL hn he hl];simp
  by_cases hk:bX (s.l.takeWhile bE)=0
  ·rw[pM hn he hl hk];simp
  obtain⟨_,_,_,h,_⟩:=mP (out:=out) hn he hl hk;simp only[jH,he,hl,hk,ne_eq,not_true_eq_false,if_false];have:=vW n (eI (bX (s.l.takeWhile bE)) (skN (s.l.takeWhile bE).length s)).2 (out++[(eI (bX (s.l.takeWhile bE)) (skN (s.l.takeWhile bE).length s)).1]) (by omega);rw[List.length_append,List.length_singleton]at this;omega
theorem BW(l:List Int):(gD l).1.length<=l.length:=by
 unfold gD;have:=vW (l.length+1) ⟨l,1,1,0⟩ [] (Nat.lt_succ_self _);simpa using this
theorem qP{w:World}{raw more:ByteArray}{MA LA NA:OA}{mn mc ln lc nn nc:Nat}{ms l u:List Int}{k E8 at' c:Int}
    (hM:bC w MA (bY ms)) (Ju:mn=ms.length) (GD:aN ms) (hk:0<=k/\k<=255) (hL:bC w LA (bY l)) (KA:ln=l.length) (Gb:aN l) (hU:bC w NA (bY u)) (Kh:nn=u.length) (Ki:aN u) (hh:0<=E8/\E8<=255) (ha:0<=at'/\at'<=65535) (hc:0<=c/\c<=255) (ht:rE w) :
    Calls P 3 #[.string raw,.slice MA mn mc,.int .u8 k,.slice LA ln lc,.slice NA nn nc,.int .u8 E8,.int .u16 at',.int .u8 c,.string more] w fun ev w'=>ev=.returned (.bool true)/\w.grownBy w' none:=by
  apply vc3;dsimp only[VC3,rb,Wt,Br,Bb,Rd,Ix,Eg,Cv,Ws,cB,cS,nb,iq]
  try simp only[aI]
  obtain⟨rw0,rfl,Km⟩:=BP raw;obtain⟨mo,rfl,Jr⟩:=BP more;rw[aK,aK];refine(qT ht).mono fun ev w1 hh=>?_;obtain⟨rfl,g1⟩:=hh;refine⟨_,rfl,fun e=>absurd e (by decide),fun _=>⟨fun _=>⟨trivial,g1⟩,fun L5=>⟨fun _=>⟨trivial,g1⟩,fun L9=>⟨fun _=>⟨trivial,g1⟩,fun L7=>⟨fun _=>⟨trivial,g1⟩,fun L6=>⟨fun _=>⟨trivial,g1⟩,fun L8=>?_⟩⟩⟩⟩⟩⟩;refine(qV (hL.kept_none g1) KA Gb hk (by omega)).mono fun ev w2 hh=>?_;obtain⟨A2,n2,c2,rfl,o2,g2⟩:=hh;have l2:n2=(fK k l).length:=by have:=o2.cases.1;rw[eM]at this;omega
  obtain⟨_,Iy⟩:=wL (k:=k) Gb (by omega);have hV:=oO k;have LR:=nX k l;refine⟨_,_,_,_,rfl,(yD o2.row l2 (by omega) (fun e he=>by have:=(Iy e he).1;omega) (by omega) (hU.kept_none (aB g1 g2)) Kh Ki (by omega)).mono fun ev w3 hh=>?_⟩;obtain⟨A3,n3,c3,cs,rfl,rfl,EM,Hu,o3,g3⟩:=hh;have D9:=aB (aB g1 g2) g3;refine⟨_,_,_,rfl,(yL o3.row rfl (by omega) Hu).mono fun ev w4 hh=>?_⟩;obtain⟨rfl,g4⟩:=hh;have Ff:=aB D9 g4;have Hn:=oE Hu;have Gx:=pri_b cs;generalize gC cs=sT at Hn Gx;obtain⟨a5,n5,c5,w5,r5,row5,Fl,K0,g5⟩:=sW (w:=w4) Gx;obtain⟨a6,n6,c6,w6,r6,row6,F8,LY,g6⟩:=sW (w:=w5) Jr;have He:=aB (aB Ff g5) g6;refine⟨_,rfl,_,_,_,w5,r5,_,_,_,w6,r6,(yG (row5.kept_none g6) Fl K0 (fun e=>by cases e) Gx row6 F8 (fun e=>by cases e) Jr (by omega) (by omega) hh ha hc).mono fun ev w7 hh=>?_⟩;obtain⟨A7,n7,c7,y,rfl,Gz,row7,Gj,J8,g7⟩:=hh;have g17:=aB He g7;refine⟨_,_,_,rfl,_,fI row7 Gz,(lI (hM.kept_none g17) Ju GD (by omega)).mono fun ev w8 hh=>?_⟩;obtain⟨t1,rfl,Jh,LN,g8⟩:=hh;have HA:=aB g17 g8;refine⟨_,rfl,(lI (hM.kept_none HA) Ju GD (by omega)).mono fun ev w9 hh=>?_⟩;obtain⟨t2,rfl,Kl,Hr,g9⟩:=hh;have Hz:=aB HA g9;obtain⟨TT,IK⟩:∃ TT:List (List Int),TT=[rw0,t1,sT,y,sT++t2]:=⟨_,rfl⟩;have L4:TT.length=5:=by rw[IK];rfl
  have Li:∀ t∈TT,aN t/\t.length<=2^20:=fun t h=>by
    rw[IK]at h;simp only[List.mem_cons,List.not_mem_nil,or_false]at h;rcases h with rfl | rfl | rfl | rfl | rfl
    · exact⟨Km,by omega⟩
    · exact⟨Jh,by omega⟩
    · exact⟨Gx,by omega⟩
    · exact⟨Gj,by omega⟩
    · exact⟨DH Gx Kl,by rw[List.length_append];omega⟩
  obtain⟨Eo,HP,EO,FX⟩:=bZ w9 #[cF rw0,cF t1,cF sT,cF y,cF (sT++t2)] 9;have D8:∀ {q:Nat} (hq:q<TT.length),(#[cF rw0,cF t1,cF sT,cF y,cF (sT++t2)]:Array Value)[q]?=some (cF TT[q]):=fun {q} hq=>by
    subst IK
    match q,hq with
    | 0,_=>rfl
    | 1,_=>rfl
    | 2,_=>rfl
    | 3,_=>rfl
    | 4,_=>rfl
  have G:=aB Hz EO;refine⟨_,rfl,_,fun w=>cJ (by omega) w,?_⟩;rw[← HP];generalize (#[cF rw0,cF t1,cF sT,cF y,cF (sT++t2)]:Array Value)=CC at D8 FX;refine⟨fun m x W=>∃ q:Nat,x=(q:Int)/\q<=5/\m=5-q/\Eo.grownBy W none,⟨5,0,rfl,by omega,rfl,aF _ _⟩,?_⟩;rintro m x W ⟨q,rfl,hq,rfl,gW⟩;have tq:(q:Int).toNat=q:=by omega
  rw[tq];refine⟨fun DL=>?_,fun DR=>⟨trivial,aB G gW⟩⟩;have Jq:q<TT.length:=by omega
  obtain⟨HI,HH⟩:=Li _ (List.getElem_mem Jq);generalize Lc:TT[q]=X at HI HH;have KY:W.cell? (Addr.add ⟨w9.heap.size,0,none⟩ q)=some (cF X):=by
    rw[bB,← Lc];exact(aA (aE FX gW) q).trans (D8 Jq)
  refine⟨_,rfl,by omega,by omega,_,KY,(iR (l:=X) (by omega) HI).mono fun ev V1 hh=>?_⟩;obtain⟨B1,m1,d1,rfl,Hq,p1,v1⟩:=hh;obtain⟨V2,IJ,l1,l2,l3,l4,q2,v2⟩:=AI V1 37 (.int .i64 0) (.int .i64 0) (.int .i64 (gD X).2.1) (.int .i64 (gD X).2.2.1);refine⟨_,_,_,_,_,_,rfl,l1,l2,l3,l4,?_⟩;rw[← IJ];refine(tL (l:=X) (by omega) HI).mono fun ev V3 hh=>?_;obtain⟨B3,m3,d3,rfl,Kz,p3,v3⟩:=hh;obtain⟨V4,Lg,l1,l2,l3,l4,q4,v4⟩:=AI V3 37 (.int .i64 0) (.int .i64 0) (.int .i64 (gD X).2.1) (.int .i64 (gD X).2.2.1);refine⟨_,_,_,_,_,_,rfl,l1,l2,l3,l4,?_⟩;rw[← Lg];have v34:=aB v3 v4;have q2':=aE q2 v34;have v14:=aB (aB v1 v2) v34;have p1':=(p1.kept v2).kept v34;have Ia:(gD X).1.length<=2^20:=Nat.le_trans (BW X) HH;refine⟨fun e=>absurd rfl e,fun _=>⟨_,aA q2' 0,_,aA q2' 1,_,aA q4 0,_,aA q4 1,_,fun w=>BS _ _ _ _ _ _ w,fun e=>absurd e (by simp),fun _=>(yH (l:=(gD X).1) (q:=(gD X).1) p1'.row (p3.kept v4).row Hq Kz (by omega)).mono fun ev V5 hh=>?_⟩⟩;obtain⟨rfl,v5⟩:=hh;have v15:=aB v14 v5;refine⟨_,rfl,fun e=>absurd e (by simp),fun _=>⟨fun h0=>?_,fun h0=>⟨⟨by omega,by omega⟩,5-(q+1),by omega,q+1,by omega,by omega,rfl,aB gW v15⟩⟩⟩;obtain⟨e1,e2,_⟩:=CL h0;refine(oZ (p1'.kept v5).row Hq Ia (fun c hc=>(e2 c hc).2) (ht.kept (aB G (aB gW v15)))).mono fun ev V6 hh=>?_;obtain⟨rfl,v6⟩:=hh;rw[e1];exact⟨_,rfl,_,fun w=>lL _ _ _ _ w,fun e=>absurd e (by simp),fun _=>⟨⟨by omega,by omega⟩,5-(q+1),by omega,q+1,by omega,by omega,rfl,aB gW (aB v15 v6)⟩⟩
end Go.Proofs.YtdlomlmijdifbaaGreatDoor
