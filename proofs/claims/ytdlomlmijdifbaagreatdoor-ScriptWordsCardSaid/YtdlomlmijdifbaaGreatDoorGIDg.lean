/- Own texts, packed: I16, I17, I18, I19, I20, I21, I22, I23, I24. -/
import Derived.Test.YtdlomlmijdifbaaGreatDoorGICg
import Derived.Test.YtdlomlmijdifbaaGreatDoorGIYg
import Derived.Test.YtdlomlmijdifbaaGreatDoorGWCg
import Derived.Test.YtdlomlmijdifbaaGreatDoorGWFg
import Derived.Test.YtdlomlmijdifbaaGreatDoorGWBg
import Derived.Test.YtdlomlmijdifbaaGreatDoorGIBg
import Derived.Test.YtdlomlmijdifbaaGreatDoorGIZg
import Derived.Test.YtdlomlmijdifbaaGreatDoorGIAg
import Derived.Test.YtdlomlmijdifbaaGreatDoorRows
import Derived.Test.YtdlomlmijdifbaaGreatDoorR4g
import Derived.Stop.LaidErr
import Derived.Handy
import Derived.Lay
import Derived.MakeChecks
set_option linter.unusedVariables false
set_option linter.unusedSimpArgs false
set_option linter.unusedSectionVars false
set_option maxHeartbeats 40000000
set_option maxRecDepth 100000
namespace Go.Proofs.YtdlomlmijdifbaaGreatDoor
open Go Go.V Go.RowKit
theorem Bm:lS P 244 247 1 (P.bytesOf 247):=⟨(P.info? 247).getD default,((P.info? 247).getD default).zero.getD undef,by kernel_rfl,by kernel_rfl,by kernel_rfl,by kernel_rfl,by kernel_rfl,by kernel_rfl,by decide⟩
theorem Ay:P.bytesOf 247<=64:=of_decide_eq_true (by kernel_rfl)
def yW(w:World)(f:Nat):Prop:=∃(p:Value)(em:Nat),w.heap[f]?=some (.cells #[p,.int .i64 0,.map (some em),.slice none 0 0] 290 (0,0))/\w.heap[em]?=some (.map #[] 0)
theorem yW.kp{w w':World}{S:Nat->Prop}{f:Nat}(h:yW w f)(hk:Kp w w' S)(hS:∀ q,(∃ c fr,w.heap[q]?=some (.cells c 290 fr))∨(∃ e c,w.heap[q]?=some (.map e c))->¬ S q):yW w' f:=by
 obtain⟨p,em,h1,h2⟩:=h;exact⟨p,em,by rw[hk.block _ (Array.getElem?_eq_some_iff.1 h1).1 (hS _ (.inl ⟨_,_,h1⟩))];exact h1,by rw[hk.block _ (Array.getElem?_eq_some_iff.1 h2).1 (hS _ (.inr ⟨_,_,h2⟩))];exact h2⟩
theorem yW.kept{w w':World}{f:Nat}(h:yW w f)(hg:w.grownBy w' none):yW w' f:=h.kp (S:=fun _=>False) (Kp.of_none hg) (fun _ _ h=>h)
theorem rT{w:World}{sd:Int}:Calls P 179 #[.int .i64 0,.int .u64 sd] w fun ev w'=>∃ f:Nat,ev=.returned (.pointer (some ⟨f,0,none⟩))/\yW w' f/\w.grownBy w' none:=by
 apply vc179;dsimp only[VC179,Br,cI,nb,iq];apply vc208;dsimp only[VC208,nb];obtain⟨W0,CK,g0,b0⟩:=bP w #[.slice none 0 0,.int .u64 (mx sd 1)] 325;rw[← CK];have g1:=World.grownBy_alloc W0 (.map #[] 0) none;have b1:=heap_alloc_new W0 (.map #[] 0);obtain⟨W2,DN,g2,b2⟩:=bP (W0.alloc (.map #[] 0)) #[.pointer (some ⟨w.heap.size,0,none⟩),.int .i64 0,.map (some W0.heap.size),.slice none 0 0] 290;have hN:mn (mx 0 0) 65536=0:=by decide
 rw[hN];refine⟨_,rfl,_,rfl,?_⟩;rw[← DN,dA];have CW:=aB (aB g0 g1) g2;refine⟨0,aA b2 1,fun m x W=>W=W2/\x=0,⟨0,rfl,rfl⟩,?_⟩;rintro m x W ⟨rfl,rfl⟩;exact⟨fun h=>absurd h (by decide),fun _=>⟨_,rfl,⟨_,_,b2,aC b1 g2⟩,CW⟩⟩
theorem pQ{w:World}{f:Nat}(h:yW w f):Calls P 305 #[.pointer (some ⟨f,0,none⟩)] w fun ev w'=>ev=.returned (.int .i64 0)/\w.grownBy w' none:=by
 apply vc305;dsimp only[VC305,Rd,iq]
 try simp only[aH]
 obtain⟨p,em,h1,h2⟩:=h;have gd:=aK (aF w none);have h1:w.drew.heap[f]?=_:=h1;have h2:w.drew.heap[em]?=_:=h2;generalize w.drew=w1 at h1 h2 gd ⊢;refine⟨_,rfl,0,by rw[aN];exact aA h1 1,_,rfl,some em,by rw[aN];exact aA h1 2,0,?_,⟨by omega,by omega,by omega,by omega⟩,⟨by omega,by omega⟩,rfl,gd⟩;rw[run_len_map w1 288 3 em #[] 0 (by kernel_rfl) h2];rfl
def HL(w:World)(g:Nat):Prop:=∃(sd:Int)(M D t o:Value)(la lv f c:Nat),w.heap[g]?=some (.cells #[.int .i64 0,.int .u64 sd,M,.slice (some ⟨la,0,none⟩) 1 c,D] 246 (0,0))/\(∃ cs fr,w.heap[la]?=some (.cells cs 247 fr)/\cs[0]?=some (.pointer (some ⟨lv,0,none⟩))) ∧
 w.heap[lv]?=some (.cells #[.pointer (some ⟨f,0,none⟩),t,o] 260 (0,0))/\yW w f
theorem HL.kp{T:TypeId}{w w':World}{S:Nat->Prop}{g:Nat}(h:HL w g)(hk:Kp w w' S)(hS:∀ q,S q->∃(c:Array Value)(fr:Nat×Nat),w.heap[q]?=some (.cells c T fr))(hT:T=132∨T=61):HL w' g:=by
 obtain⟨sd,M,D,t,o,la,lv,f,c,h1,⟨cs,fr,h2,h3⟩,h4,h5⟩:=h;have keep:∀ {q:Nat} {x:Obj},w.heap[q]?=some x->(∀ c fr,x≠.cells c T fr)->w'.heap[q]?=some x:=fun {q x} hq hx=>by
  rw[hk.block _ (Array.getElem?_eq_some_iff.1 hq).1 fun e=>by
   obtain⟨c,fr,e⟩:=hS _ e;rw[hq]at e;exact hx _ _ (Option.some.inj e)]
  exact hq
 refine⟨sd,M,D,t,o,la,lv,f,c,keep h1 (by intro c fr e;rcases hT with rfl | rfl <;>cases e),⟨cs,fr,keep h2 (by intro c fr e;rcases hT with rfl | rfl <;>cases e),h3⟩,keep h4 (by intro c fr e;rcases hT with rfl | rfl <;>cases e),h5.kp hk ?_⟩;intro q hq e;obtain⟨c,fr,e⟩:=hS _ e;rcases hq with⟨c',fr',e'⟩ | ⟨e1,c',e'⟩ <;>(rw[e]at e';rcases hT with rfl | rfl <;>cases e')
theorem HL.kept{w w':World}{g:Nat}(h:HL w g)(hg:w.grownBy w' none):HL w' g:=h.kp (S:=fun _=>False) (Kp.of_none hg) (fun _ h=>h.elim) (.inl rfl)
def AtI(g:Nat)(w:World)(m:Nat)(W:World):Prop:=(m=1/\W=w)∨(m=0/\HL W g/\w.grownBy W (some g))
theorem yK{w:World}{g:Nat}(h:HL w g):Calls P 157 #[.pointer (some ⟨g,0,none⟩),.int .i64 0] w fun ev w'=>∃ lv f:Nat,ev=.returned (.pointer (some ⟨lv,0,none⟩))/\w'=w/\w.cell? ⟨lv,0,none⟩=some (.pointer (some ⟨f,0,none⟩))/\yW w f:=by
 apply vc157;dsimp only[VC157,Br,Rc,Rs,Ix,Ap,Ws,nb,iq];obtain⟨sd,M,D,t,o,la,lv,f,c,h1,⟨cs,fr,h2,h3⟩,h4,h5⟩:=h;refine⟨fun m W=>W=w,⟨0,rfl⟩,?_⟩;rintro m W rfl;refine⟨_,rfl,_,_,_,by rw[bW];exact aA h1 3,fun Ck=>absurd Ck (by decide),fun _=>?_⟩;exact⟨_,rfl,_,_,_,by rw[bW];exact aA h1 3,_,rfl,by omega,by omega,_,by
  first
   | exact(aA h2 0).trans h3
   | (rw[bW];exact(aA h2 0).trans h3)
   | (rw[lR];exact(aA h2 0).trans h3),_,_,rfl,rfl,aA h4 0,h5⟩
theorem vQ {w:World} {g:Nat} {sd:Int} {M D:Value} (hg:w.heap[g]?=some (.cells #[.int .i64 0,.int .u64 sd,M,.slice none 0 0,D] 246 (0,0))):Calls P 157 #[.pointer (some ⟨g,0,none⟩),.int .i64 0] w fun ev w'=>(∃ lv:Nat,ev=.returned (.pointer (some ⟨lv,0,none⟩)))/\HL w' g/\w.grownBy w' (some g):=by
  apply vc157;dsimp only[VC157,Br,Rc,Rs,Ix,Ap,Ws,nb,iq];refine⟨AtI g w,⟨1,.inl ⟨rfl,rfl⟩⟩,?_⟩;have lt:=(Array.getElem?_eq_some_iff.1 hg).1;rintro m W (⟨rfl,rfl⟩ | ⟨rfl,hH,hG⟩)
  · refine⟨_,rfl,_,_,_,by rw[bW];exact aA hg 3,fun _=>?_,fun Ck=>absurd (by decide) Ck⟩;have g2:=aK (aF W none);obtain⟨w2,CU⟩:∃ w2,w2=W.drew:=⟨_,rfl⟩;have h2:w2.heap[g]?=some (.cells #[.int .i64 0,.int .u64 sd,M,.slice none 0 0,D] 246 (0,0)):=by rw[CU];exact hg
    rw[← CU]at g2 ⊢;have z2:=g2.size;have kb:∀ W',w2.grownBy W' none->W'.heap[g]?=some (.cells #[.int .i64 0,.int .u64 sd,M,.slice none 0 0,D] 246 (0,0)):=fun W' h=>aC h2 h;have c3:∀ W',w2.grownBy W' none->W'.cell? (Addr.add ⟨g,0,none⟩ 3)=some (.slice none 0 0):=fun W' h=>by rw[bW];exact aA (kb W' h) 3
    obtain⟨C,hC⟩:∃ C:World->Prop,C=fun W'=>W'.cell? ⟨g,0,none⟩=some (.int .i64 0)/\W'.cell? (Addr.add ⟨g,0,none⟩ 1)=some (.int .u64 sd):=⟨_,rfl⟩;have FL:∀ W':World,(∃ x y z,W'.heap[g]?=some (.cells #[.int .i64 0,.int .u64 sd,x,y,z] 246 (0,0)))->C W':=fun W' ⟨x,y,z,hh⟩=>by rw[hC];exact⟨aA hh 0,by rw[bW];exact aA hh 1⟩
    have EV:∀ W',w2.grownBy W' none->C W':=fun W' h=>FL W' ⟨_,_,_,kb W' h⟩;have GM:∀ W',C W'->W'.cell? ⟨g,0,none⟩=some (.int .i64 0):=fun W' h=>by rw[hC]at h;exact h.1
    have GL:∀ W',C W'->W'.cell? (Addr.add ⟨g,0,none⟩ 1)=some (.int .u64 sd):=fun W' h=>by rw[hC]at h;exact h.2
    have fin:∀(W':World)(t o f:Nat),w2.grownBy W' none->yW W' f →
        ∃ (A:OA) (n c:Nat) (w3:World),Sem.run P (Builtin.append_ #[244,244] 244 #[.slice none 0 0,.slice (some ⟨(W'.alloc (.cells #[.pointer (some ⟨f,0,none⟩),.map (some t),.map (some o)] 260)).heap.size,0,none⟩) 1 1]) ((W'.alloc (.cells #[.pointer (some ⟨f,0,none⟩),.map (some t),.map (some o)] 260)).alloc (.cells #[.pointer (some ⟨W'.heap.size,0,none⟩)] 247))=.ok (.slice A n c) w3 ∧
          (C w3/\∃ a39:Addr,some (⟨g,0,none⟩:Addr)=some a39/\((∃ uv:Value,w3.cell? (a39.add 3)=some uv)/\w3.frozen? (a39.add 3)=false/\(C (w3.setCell (a39.add 3) (.slice A n c))/\∃ m_1:Nat,m_1<1/\AtI g W m_1 (w3.setCell (a39.add 3) (.slice A n c))))):=by
      intro W' t o f k1 k2;obtain⟨W1,Ez,g1,b1⟩:=bP W' #[.pointer (some ⟨f,0,none⟩),.map (some t),.map (some o)] 260;rw[← Ez];obtain⟨W3,FJ,g3,b3⟩:=bP W1 #[.pointer (some ⟨W'.heap.size,0,none⟩)] 247;rw[← FJ];have CC:=aB g1 g3;have kw:=aB k1 CC;have zk:=kw.size;obtain⟨A,n,c,w3,r1,r2,r3,r4,r5⟩:=(aE.nil W3 W3.heap.size 247 1).appends (ty:=244) Bm Ay (a:=⟨W1.heap.size,0,none⟩) (m:=1) (cc:=1) (us:=[.pointer (some ⟨W'.heap.size,0,none⟩)]) rfl (fun j u hj=>by
        match j,hj with
        | 0,hj=>cases hj;rw[lR];exact aA b3 0) (fun u hu=>by simp at hu;subst hu;rfl) (by omega) (Nat.le_refl _)
      have r4:W3.grownBy w3 none:=r4;have k3:=aB kw r4;have ET:=kb w3 k3;refine⟨A,n,c,w3,r1,EV _ k3,_,rfl,?_⟩;rw[bW];have Gw:=aG ET 3 (.slice A n c);refine⟨⟨_,aA ET 3⟩,aD ET 3,FL _ ⟨_,_,_,Gw⟩,0,by omega,.inr ⟨rfl,?_,?_⟩⟩
      · obtain⟨_,hc | ⟨la,cur,rfl,IB,_,CJ,Cr,Du,Ga⟩⟩:=r2.cases
        · omega
        · have K4:Kp w3 (w3.setCell ⟨g,3,none⟩ (.slice (some ⟨la,0,none⟩) n c)) (fun q=>q=g):=dH (Kp.refl _ _) rfl;have ne:∀ {q:Nat} {x:Obj},w3.heap[q]?=some x->(∀ c fr,x≠.cells c 246 fr)->(w3.setCell ⟨g,3,none⟩ (.slice (some ⟨la,0,none⟩) n c)).heap[q]?=some x:=fun {q x} hq hx=>by
            rw[K4.block _ (Array.getElem?_eq_some_iff.1 hq).1 fun e=>by rw[e,ET]at hq;exact hx _ _ (Option.some.inj hq).symm];exact hq
          have n1:n=1:=by simpa using r3
          subst n1;have Er:cur[0]?=some (.pointer (some ⟨W'.heap.size,0,none⟩)):=by
            have:=r2.row 0 _ rfl;obtain⟨a,ha,Gt⟩:=this;cases ha;rw[lR,aA Cr]at Gt;exact Gt
          have HZ:=k2.kept (aB CC r4);obtain⟨p,em,DD,DC⟩:=HZ;exact⟨sd,M,D,_,_,la,W'.heap.size,f,c,by simpa using Gw,⟨_,_,ne Cr (by intro c fr e;cases e),Er⟩,ne (aC b1 (aB g3 r4)) (by intro c fr e;cases e),p,em,ne DD (by intro c fr e;cases e),ne DC (by intro c fr e;cases e)⟩
      · have:=aB g2 k3;exact⟨this.os,this.tape,this.output,by have:=this.size;simpa using this,fun i hi hn=>by
          rw[(dH (u:=.slice A n c) (Kp.refl w3 (fun q=>q=g)) rfl:Kp w3 (w3.setCell ⟨g,3,none⟩ (.slice A n c)) (fun q=>q=g)).block i (by have:=this.size;omega) (fun e=>hn (by rw[e]))];exact this.block i hi (by simp)⟩
    have Fg:aH .u64 ((0:Nat):Int):=⟨by omega,by omega⟩;clear hC FL kb;refine⟨C,EV _ (aF _ _),?_⟩
    repeat' (first
      | exact trivial
      | refine⟨_,rfl,none,0,0,c3 _ (by repeat (first | exact aF _ _ | refine dK ?_ _ | refine aB ?_ (by assumption))),?_⟩
      | refine⟨_,rfl,(0:Int),GM,?_⟩
      | refine⟨_,rfl,sd,GL,?_⟩
      | refine⟨Fg,?_⟩
      | refine⟨EV _ (by repeat (first | exact aF _ _ | refine dK ?_ _ | refine aB ?_ (by assumption))),?_⟩
      | (refine rT.mono fun ev Wc hh=>?_
         obtain⟨f,rfl,hF,gW⟩:=hh;refine⟨_,rfl,?_⟩)
      | refine⟨_,rfl,EV _ (by repeat (first | exact aF _ _ | refine dK ?_ _ | refine aB ?_ (by assumption))),?_⟩
      | refine⟨none,0,0,c3 _ (by repeat (first | exact aF _ _ | refine dK ?_ _ | refine aB ?_ (by assumption))),?_⟩
      | refine⟨(0:Int),GM,?_⟩
      | refine⟨sd,GL,?_⟩
      | refine⟨_,rfl,?_⟩
      | refine fin _ _ _ _ (by repeat (first | exact aF _ _ | refine dK ?_ _ | refine aB ?_ (by assumption))) (yW.kept hF (by repeat (first | exact aF _ _ | refine dK ?_ _)))
      | refine And.intro ?_ ?_)
  · obtain⟨sd',M',D',t,o,la,lv,f,c,h1,⟨cs,fr,h2,h3⟩,h4,h5⟩:=id hH;refine⟨_,rfl,_,_,_,by rw[bW];exact aA h1 3,fun Ck=>absurd Ck (by decide),fun _=>?_⟩;exact⟨_,rfl,_,_,_,by rw[bW];exact aA h1 3,_,rfl,by omega,by omega,_,by
      first
        | exact(aA h2 0).trans h3
        | (rw[bW];exact(aA h2 0).trans h3)
        | (rw[lR];exact(aA h2 0).trans h3),⟨_,rfl⟩,hH,hG⟩
theorem Ao:Bv P 50 3 (.int .i64 0) 8:=⟨(P.info? 3).getD default,by kernel_rfl,by kernel_rfl,by kernel_rfl,by kernel_rfl,by kernel_rfl,by kernel_rfl⟩
theorem sY{w:World}{sd:Int}:Calls P 139 #[.int .i64 0,.int .u64 sd] w fun ev w'=>∃ g:Nat,ev=.returned (.pointer (some ⟨g,0,none⟩))/\HL w' g/\w.grownBy w' none:=by
 apply vc139;dsimp only[VC139,nb,iq];have hN:mn (mx 0 0) 65536=((0:Nat):Int):=by decide
 rw[hN];have g1:=World.grownBy_alloc w (.map #[] 0) none;obtain⟨w2,r2,o2,g2⟩:=zP (P:=P) (w:=w.alloc (.map #[] 0)) Ao (by omega) (m:=0) (by omega);obtain⟨W3,FJ,g3,b3⟩:=bP w2 #[.int .i64 0,.int .u64 sd,.map (some w.heap.size),.slice none 0 0,.slice (some ⟨(w.alloc (.map #[] 0)).heap.size,0,none⟩) 0 0] 246;refine⟨_,_,_,w2,r2,?_⟩;have e:(w2.alloc (.cells #[.int .i64 ((0:Nat):Int),.int .u64 sd,.map (some w.heap.size),.slice none 0 0,.slice (some ⟨(w.alloc (.map #[] 0)).heap.size,0,none⟩) 0 0] 246))=W3:=by rw[FJ];rfl
 rw[e];have z2:=(aB g1 g2).size;refine(vQ b3).mono fun ev w4 hh=>?_;obtain⟨⟨lv,rfl⟩,h4,g4⟩:=hh;refine⟨_,rfl,_,rfl,h4,?_⟩;have:=aB (aB g1 g2) g3;exact aP this g4 (fun k hk=>by cases hk;exact z2)
theorem qJ{w:World}{g:Nat}(h:HL w g):Calls P 303 #[.pointer (some ⟨g,0,none⟩)] w fun ev w'=>ev=.returned (.int .i64 0)/\w.grownBy w' none:=by
 apply vc303;dsimp only[VC303,cI,iq];refine(yK h).mono fun ev w1 hh=>?_;obtain⟨lv,f,rfl,rfl,h1,h2⟩:=hh;refine⟨_,rfl,_,rfl,_,h1,(pQ h2).mono fun ev w2 hh=>?_⟩;obtain⟨rfl,g2⟩:=hh;exact⟨_,rfl,rfl,g2⟩
def kG:List Int:=fF 3 1 0++iZ []
theorem BV:dE 3 1 0:=by unfold dE;omega
theorem tI:By kG:=(tB _ _ _).append (sE _)
theorem pC:kG.length=32:=by unfold kG;rw[List.length_append,dX,fV];rfl
theorem mS{w:World}:Calls P 19 #[.agg #[.int .u64 3,.slice none 0 0],.int .i64 1] w fun ev w'=>∃(A':OA)(n' c':Nat),ev=.returned (.tuple #[.slice A' n' c',.int .i64 0])/\aE w' w.heap.size 5 1 A' n' c' (cR kG)/\w.grownBy w' none:=by
 apply vc19;dsimp only[VC19,rt,Br,Rd,Rc,Rs,Ix,Ap,cI,cS,cT,nb,ad,al,iq]
 try simp only[aH,mnI]
 obtain⟨w1,Cj,g1,b1⟩:=bP w #[.int .u64 3,.slice none 0 0] 31;rw[← Cj];refine⟨3,aA b1 0,none,0,0,aA b1 1,(rD (l:=[]) (bS.nil _ _) rfl (Nat.zero_le _) (fun e he=>by simp at he)).mono fun ev w2 hh=>?_⟩;obtain⟨rfl,g2⟩:=hh;have b2:=aC b1 g2;have CW:=aB g1 g2;refine⟨_,_,rfl,fun e=>absurd rfl e,fun _=>⟨fun e=>absurd e (by decide),fun _=>⟨fun e=>absurd e (by decide),fun _=>⟨3,aA b2 0,none,0,0,aA b2 1,?_⟩⟩⟩⟩;refine(mQ BV).mono fun ev w4 hh=>?_;obtain⟨A4,n4,c4,rfl,o4,g4⟩:=hh;refine⟨_,_,_,rfl,fun q B d e R s t NA nn nc x W=>B=A4/\d=n4/\e=c4/\R=none/\s=0/\t=0/\x=0/\W=w4,⟨0,rfl,rfl,rfl,rfl,rfl,rfl,rfl,rfl⟩,?_⟩;rintro q B d e R s t NA nn nc x W ⟨rfl,rfl,rfl,rfl,rfl,rfl,rfl,rfl⟩;have b4:=aC b2 g4;refine⟨none,0,0,aA b4 1,fun Cc=>absurd Cc (by decide),fun Ck=>?_⟩;refine(sH (l:=[]) (bS.nil _ _) rfl (by decide) rfl (fun r hr=>by simp at hr)).mono fun ev W1 hh=>?_;obtain⟨A5,n5,c5,rfl,o5,g5⟩:=hh;have oW1:=o4.kp (S:=fun _=>False) (Kp.of_none g5) (fun _ _ e=>e);have C4:n5=(iZ []).length:=by have h':=o5.cases.1;unfold cR at h';rw[List.length_map]at h';omega
 have hd:d=24:=by have h':=o4.cases.1;unfold cR at h';rw[List.length_map,dX]at h';omega
 have Gd:=fV [];obtain⟨A6,n6,c6,W2,r6,o6,g6,_⟩:=bJ oW1 o5.row C4 (cF o5) (by rw[C4,Gd,hd];decide) (aB g4 g5).size;have gW2:=aP (aB g4 g5) g6 fun q hq=>(World.ownsRow.lt oW1 q hq).1;exact⟨_,_,_,_,rfl,A6,n6,c6,W2,r6,A6,n6,c6,rfl,o6.mono CW.size,aB CW gW2⟩
theorem sN{w:World}{A:OA}{n c:Nat}(hr:bS w A (cR kG))(hn:n=kG.length)(hc:n<=c):
    Calls P 56 #[.slice A n c] w fun ev w'=>∃(B:OA)(m d:Nat),ev=.returned (.tuple #[nI 3 1 0,.slice B m d,.int .i64 0])/\aE w' w.heap.size 118 3 B m d (cH [])/\w.grownBy w' none:=by
  apply vc56;dsimp only[VC56,rt,Wt,Br,Rd,Ws,cT,nb,iq];obtain⟨w0,G6,g0,b0⟩:=bP w #[.int .u64 0,.int .i64 0,.int .i64 0] 113;rw[← G6];refine(oB (hr.kept_none g0) hn hc tI rfl (by omega) BV).mono fun ev w1 hh=>?_;obtain⟨rfl,g1⟩:=hh;have b1:=aC b0 g1;obtain⟨w3,CO,p0,q0,p1,q1,p2,q2,h3,g3⟩:=BD w1 113 (.int .u64 0) (.int .i64 0) (.int .i64 0) (.int .u64 3) (.int .i64 1) (.int .i64 0);refine⟨_,_,_,_,rfl,p0,q0,p1,q1,p2,q2,fun e=>absurd rfl e,fun _=>?_⟩;rw[← CO];have Cw:=aB g0 (aB g1 g3);refine⟨3,aA h3 0,1,aA h3 1,0,aA h3 2,(sW (pre:=fF 3 1 0) (rows:=[]) (hr.kept_none Cw) hn hc tI (by rw[pC];decide) rfl (by rw[dX];rfl) BV rfl rfl (fun r hr=>by simp at hr)).mono fun ev w4 hh=>?_⟩;obtain⟨A4,n4,c4,rfl,o4,g4⟩:=hh;have h4:=aC h3 g4;have b4:=aC (aC b1 g3) g4;have t1:=aG b4 0 (.int .u64 3);have t2:=aG t1 1 (.int .i64 1);have t3:=aG t2 2 (.int .i64 0);have Da:=aB Cw g4;have z03:=Cw.size;have z3:w.heap.size<w3.heap.size:=(Array.getElem?_eq_some_iff.1 (aC b1 g3)).1;have K4:Kp w4 (((w4.setCell ⟨w.heap.size,0,none⟩ (.int .u64 3)).setCell ⟨w.heap.size,1,none⟩ (.int .i64 1)).setCell ⟨w.heap.size,2,none⟩ (.int .i64 0)) (fun q=>q=w.heap.size):=dH (dH (dH (Kp.refl _ _) rfl) rfl) rfl;have gF:=((Kp.of_none (S:=fun q=>w.heap.size<=q) Da).then K4 fun q _ e=>by omega).grown fun q hq e=>by omega
  refine⟨_,_,_,_,rfl,fun e=>absurd rfl e,fun _=>⟨3,aA h4 0,1,aA h4 1,0,aA h4 2,⟨_,aA b4 0⟩,aD b4 0,⟨_,aA t1 1⟩,aD t1 1,⟨_,aA t2 2⟩,aD t2 2,3,by rw[aA t3 0];rfl,1,by rw[aA t3 1];rfl,0,by rw[aA t3 2];rfl,A4,n4,c4,rfl,?_,gF⟩⟩;exact(o4.kp K4 (fun q hq e=>by have:=(World.ownsRow.lt o4 q hq).1;omega)).mono (by omega)
theorem wP{w:World}{a:Addr}{x d:Int}(h:w.cell? a=some (.int .i64 x))(hf:w.frozen? a=false)(hr:aH .i64 (x+d)):Sem.run P (callFunc 165 #[.pointer (some a),.int .i64 d]) w=.ok (.value (.int .i64 (x+d))) (w.setCell a (.int .i64 (x+d))):=by
  rw[run_callFunc_extern (P:=P) Tryz.func165 (by kernel_rfl) (by kernel_rfl) (by kernel_rfl) (e:=Extern.Atomic.update (Op.intArith .add) .i64 true) (by kernel_rfl) _ w];have e:=cV hr
  have e0:Extern.Atomic.update (Op.intArith .add) .i64 true #[.pointer (some a),.int .i64 d]=(do
      let b ← asAddr (.pointer (some a));let old ← Extern.Atomic.read (.int .i64) b;let new ← Op.intArith .add .i64 (← asInt old) (← asInt (.int .i64 d))
      store b new .atomic
      pure (if true then new else old)):=rfl
  rw[e0];simp[Extern.Atomic.read,asAddr,asInt,asIntOf,Op.intArith,load,store,Sem.run,h,hf,e]
theorem gP{w:World}{a:Addr}{x d:Int}(h:w.cell? a=some (.int .i64 x))(hf:w.frozen? a=false)(hr:aH .i64 (x+d)):Calls P 142 #[.pointer (some a),.int .i64 d] w fun ev w'=>ev=.returned (.int .i64 (x+d))/\w'=w.setCell a (.int .i64 (x+d)):=by
 apply vc142;dsimp only[VC142,iq];exact⟨_,rfl,_,_,wP h hf hr,rfl,rfl⟩
abbrev Cb(RA:OA)(d:Nat)(bv now:Value)(s0 s1 s2 s3:Int):Array Value:=#[.int .u64 3,.int .i64 1,.int .i64 0,.slice RA 0 d,bv,.int .u64 1,now,.int .i64 s0,.int .i64 s1,.int .i64 s2,.int .i64 s3]
theorem yN{w:World}{r:Nat}{RA A:OA}{d c:Nat}{bv now:Value}(h:w.heap[r]?=some (.cells (Cb RA d bv now 0 0 0 0) 132 (0,0)))(hr:bS w A [.int .i64 0,.int .i64 0,.int .i64 0]):
    Calls P 112 #[.pointer (some ⟨r,0,none⟩),.slice A 3 c] w fun ev w'=>ev=.returned (.tuple #[])/\w'.heap[r]?=some (.cells (Cb RA d bv now 1 0 0 0) 132 (0,0))/\Kp w w' (fun q=>q=r):=by
  apply vc112;dsimp only[VC112,rt,Br,Rd,Ix,Ap,cI,nb,iq]
  try simp only[aH]
  obtain⟨w1,Cl,g1,b1⟩:=bP w #[.int .i64 1] 3;rw[← Cl];have lt:=(Array.getElem?_eq_some_iff.1 h).1;have own:nQ w1 w.heap.size 3 (some ⟨w.heap.size,0,none⟩) 1 1 [.int .i64 1]:=(aE.of_block (Nat.le_refl _) b1 (Nat.le_refl _) (by simp only[maxLen];omega) rfl rfl rfl:aE w1 w.heap.size 3 1 (some ⟨w.heap.size,0,none⟩) 1 1 [.int .i64 1]);have EM:=hr.kept_none g1;obtain⟨a,rfl,_⟩:=EM 0 _ rfl;obtain⟨A',n',c',w2,r2,o2,g2⟩:=own.appends (ty:=50) Ao (by omega) (a:=a) (m:=3) (cc:=c) (us:=[.int .i64 0,.int .i64 0,.int .i64 0]) rfl (fun j u hj=>by obtain⟨b,q1,q2⟩:=EM j u hj;cases q1;exact q2) (fun u hu=>by simp at hu;subst hu;rfl) (by omega) g1.size;have K2:Kp w w2 (fun _=>False):=Kp.of_none (aP g1 g2 (fun k hk=>by cases hk;exact Nat.le_refl _));have h2:w2.heap[r]?=_:=(K2.block r lt (fun e=>e)).trans h;have n4:n'=4:=by have:=(show aE w2 w.heap.size 3 1 A' n' c' _ from o2).cases.1;simp at this;omega
  subst n4;have row2:bS w2 A' [.int .i64 1,.int .i64 0,.int .i64 0,.int .i64 0]:=(show aE w2 w.heap.size 3 1 A' 4 c' _ from o2).row;have Cg:∀ a,A'=some a->a.block≠r:=fun a ha e=>by
    have:=nQ.block_ge o2 a.block (by rw[ha];rfl);omega
  refine⟨_,_,_,w2,r2,fun m x W=>∃ i:Nat,x=(i:Int)/\i<=4/\m=4-i/\W.heap[r]?=some (.cells (Cb RA d bv now (if 0<i then 1 else 0) 0 0 0) 132 (0,0))/\Kp w2 W (fun q=>q=r),⟨4,0,rfl,by omega,rfl,h2,Kp.refl _ _⟩,?_⟩;rintro m x W ⟨i,rfl,hi,rfl,hW,KW⟩;have ti:(i:Int).toNat=i:=by omega
  rw[ti];have rowW:bS W A' [.int .i64 1,.int .i64 0,.int .i64 0,.int .i64 0]:=row2.kp KW (fun a ha _=>Cg a ha);have KK:Kp w W (fun q=>q=r):=(K2.mono (S':=fun q=>q=r) (fun _ _ e=>e.elim)).then KW (fun _ _ e=>e);refine⟨fun Cc=>?_,fun Ck=>?_⟩
  · match i,Cc with
    | 0,_ =>
      obtain⟨a,rfl,q⟩:=rowW 0 _ rfl;refine⟨_,rfl,by omega,by omega,_,q,_,rfl,⟨by omega,by omega⟩,?_⟩;rw[dA,dA];refine(gP (aA hW 7) (aD hW 7) ⟨by omega,by omega⟩).mono fun ev W2 hh=>?_;obtain⟨rfl,rfl⟩:=hh;have s:=aG hW 7 (.int .i64 (0+1));exact⟨_,rfl,⟨by omega,by omega⟩,3,by omega,1,by omega,by omega,rfl,by simpa using s,eZ KW rfl⟩
    | 1,_ =>
      obtain⟨a,rfl,q⟩:=rowW 1 _ rfl;refine⟨_,rfl,by omega,by omega,_,q,_,rfl,⟨by omega,by omega⟩,?_⟩;rw[dA,dA];refine(gP (aA hW 8) (aD hW 8) ⟨by omega,by omega⟩).mono fun ev W2 hh=>?_;obtain⟨rfl,rfl⟩:=hh;have s:=aG hW 8 (.int .i64 (0+0));exact⟨_,rfl,⟨by omega,by omega⟩,2,by omega,2,by omega,by omega,rfl,by simpa using s,eZ KW rfl⟩
    | 2,_ =>
      obtain⟨a,rfl,q⟩:=rowW 2 _ rfl;refine⟨_,rfl,by omega,by omega,_,q,_,rfl,⟨by omega,by omega⟩,?_⟩;rw[dA,dA];refine(gP (aA hW 9) (aD hW 9) ⟨by omega,by omega⟩).mono fun ev W2 hh=>?_;obtain⟨rfl,rfl⟩:=hh;have s:=aG hW 9 (.int .i64 (0+0));exact⟨_,rfl,⟨by omega,by omega⟩,1,by omega,3,by omega,by omega,rfl,by simpa using s,eZ KW rfl⟩
    | 3,_ =>
      obtain⟨a,rfl,q⟩:=rowW 3 _ rfl;refine⟨_,rfl,by omega,by omega,_,q,_,rfl,⟨by omega,by omega⟩,?_⟩;rw[dA,dA];refine(gP (aA hW 10) (aD hW 10) ⟨by omega,by omega⟩).mono fun ev W2 hh=>?_;obtain⟨rfl,rfl⟩:=hh;have s:=aG hW 10 (.int .i64 (0+0));exact⟨_,rfl,⟨by omega,by omega⟩,0,by omega,4,by omega,by omega,rfl,by simpa using s,eZ KW rfl⟩
    | n+4,h=>exact absurd h (by omega)
  · have:i=4:=by omega
    subst this;exact⟨trivial,hW,KK⟩
def BJ(w:World)(g:Nat):Prop:=∃(nb hg:Nat)(m1 m2 m3:Value),w.heap[g]?=some (.cells #[.pointer (some ⟨nb,0,none⟩),.iface 224 (.pointer (some ⟨hg,0,none⟩)),m1,m2] 204 (0,0))/\w.heap[nb]?=some (.cells #[m3,.slice none 0 0] 239 (0,0))/\HL w hg
theorem BJ.kp{T:TypeId}{w w':World}{S:Nat->Prop}{g:Nat}(h:BJ w g)(hk:Kp w w' S)(hS:∀ q,S q->∃(c:Array Value)(fr:Nat×Nat),w.heap[q]?=some (.cells c T fr))(hT:T=132∨T=61):BJ w' g:=by
 obtain⟨nb,hg,m1,m2,m3,h1,h2,h3⟩:=h;have keep:∀ {q:Nat} {x:Obj},w.heap[q]?=some x->(∀ c fr,x≠.cells c T fr)->w'.heap[q]?=some x:=fun {q x} hq hx=>by
  rw[hk.block _ (Array.getElem?_eq_some_iff.1 hq).1 fun e=>by
   obtain⟨c,fr,e⟩:=hS _ e;rw[hq]at e;exact hx _ _ (Option.some.inj e)]
  exact hq
 exact⟨nb,hg,m1,m2,m3,keep h1 (by intro c fr e;rcases hT with rfl | rfl <;>cases e),keep h2 (by intro c fr e;rcases hT with rfl | rfl <;>cases e),h3.kp hk hS hT⟩
theorem BJ.kept{w w':World}{g:Nat}(h:BJ w g)(hg:w.grownBy w' none):BJ w' g:=h.kp (S:=fun _=>False) (Kp.of_none hg) (fun _ h=>h.elim) (.inl rfl)
theorem jH{w:World}{nb:Nat}{m3:Value}(h:w.heap[nb]?=some (.cells #[m3,.slice none 0 0] 239 (0,0))):Calls P 120 #[.pointer (some ⟨nb,0,none⟩)] w fun ev w'=>ev=.returned (.int .i64 0)/\w'=w:=by
 apply vc120;dsimp only[VC120,Rs,iq];exact⟨_,rfl,_,_,_,by rw[aN];exact aA h 1,rfl,rfl⟩
theorem sS{w:World}:Calls P 111 #[.slice none 0 0,.int .u64 1] w fun ev w'=>∃ g:Nat,ev=.returned (.pointer (some ⟨g,0,none⟩))/\BJ w' g/\w.grownBy w' none:=by
 apply vc111;dsimp only[VC111,Wt,Br,Bb,Rd,Rc,Ix,Ws,cI,cB,nb,ad,al,iq];apply vc136;dsimp only[VC136];have g0:=World.grownBy_alloc w (.map #[] 0) none;obtain⟨w1,Cl,g1,b1⟩:=bP (w.alloc (.map #[] 0)) #[.map (some w.heap.size),.slice none 0 0] 239;rw[← Cl];have g2:=World.grownBy_alloc w1 (.map #[] 0) none;have g3:=World.grownBy_alloc (w1.alloc (.map #[] 0)) (.map #[] 0) none;obtain⟨w4,Dc,g4,b4⟩:=bP ((w1.alloc (.map #[] 0)).alloc (.map #[] 0)) #[.pointer (some ⟨(w.alloc (.map #[] 0)).heap.size,0,none⟩),.nilIface,.map (some w1.heap.size),.map (some (w1.alloc (.map #[] 0)).heap.size)] 204;have Da:=aB (aB g0 g1) (aB (aB g2 g3) g4);have FV:=aC b1 (aB (aB g2 g3) g4);refine⟨_,rfl,fun m x W=>W=w4/\x=0,⟨0,by rw[Dc],rfl⟩,?_⟩;rintro m x W ⟨rfl,rfl⟩;refine⟨fun h=>absurd h (by decide),fun _=>⟨_,rfl,_,aA b4 0,(jH FV).mono fun ev W2 hh=>?_⟩⟩;obtain⟨rfl,rfl⟩:=hh;refine⟨_,rfl,fun h=>absurd h (by decide),fun _=>⟨_,rfl,_,aA b4 0,(jH FV).mono fun ev W2 hh=>?_⟩⟩;obtain⟨rfl,rfl⟩:=hh;refine⟨_,rfl,sY.mono fun ev W3 hh=>?_⟩;obtain⟨hg,rfl,hH,g5⟩:=hh;have E5:=aC b4 g5;have Il:=aC FV g5;refine⟨_,rfl,fun m x V=>V=W3/\x=0,⟨0,rfl,rfl⟩,?_⟩;rintro m x V ⟨rfl,rfl⟩;refine⟨fun h=>absurd h (by decide),fun _=>⟨_,rfl,?_⟩⟩;rw[aN];have s:=aG E5 1 (.iface 224 (.pointer (some ⟨hg,0,none⟩)));have K:=eZ (j:=1) (u:=.iface 224 (.pointer (some ⟨hg,0,none⟩))) (Kp.refl V (fun q=>q=((w1.alloc (.map #[] 0)).alloc (.map #[] 0)).heap.size)) rfl;have keep:∀ {q:Nat} {x:Obj},V.heap[q]?=some x->(∀ c fr,x≠.cells c 204 fr)->(V.setCell ⟨((w1.alloc (.map #[] 0)).alloc (.map #[] 0)).heap.size,1,none⟩ (.iface 224 (.pointer (some ⟨hg,0,none⟩)))).heap[q]?=some x:=fun {q x} hq hx=>by
  rw[K.block _ (Array.getElem?_eq_some_iff.1 hq).1 fun e=>by rw[e,E5]at hq;exact hx _ _ (Option.some.inj hq).symm];exact hq
 refine⟨⟨_,aA E5 1⟩,aD E5 1,_,rfl,⟨_,hg,_,_,_,by simpa using s,keep Il (by intro c fr e;cases e),?_⟩,?_⟩
 ·obtain⟨sd,M,D,t,o,la,lv,f,c,h1,⟨cs,fr,h2,h3⟩,h4,p,em,h5,h6⟩:=hH;exact⟨sd,M,D,t,o,la,lv,f,c,keep h1 (by intro c fr e;cases e),⟨cs,fr,keep h2 (by intro c fr e;cases e),h3⟩,keep h4 (by intro c fr e;cases e),p,em,keep h5 (by intro c fr e;cases e),keep h6 (by intro c fr e;cases e)⟩
 ·have z:=(aB (aB g0 g1) (aB g2 g3)).size;exact((Kp.of_none (aB Da g5)).then K (fun k hk e=>e)).grown (fun k hk e=>by omega)
theorem tH{w:World}{A:OA}{c:Nat}{t:Int}:Calls P 110 #[.slice A 0 c,.int .i64 t] w fun ev w'=>ev=.returned (.int .i64 (-1))/\w.grownBy w' none:=by
 apply vc110;dsimp only[VC110,Br,Rs,cI,cB,nb,iq];obtain⟨w1,Cl,g1,b1⟩:=bP w #[.slice A 0 c] 114;rw[← Cl];obtain⟨w2,CU,g2,b2⟩:=bP w1 #[.int .i64 t] 2;rw[← CU];refine⟨_,_,_,aA (aC b1 g2) 0,(kC (l:=[]) (bS.nil _ _) rfl (Nat.zero_le _)).mono fun ev w3 hh=>?_⟩;obtain⟨rfl,g3⟩:=hh;refine⟨_,rfl,fun e=>absurd e (by decide),fun _=>⟨_,_,_,aA (aC (aC b1 g2) g3) 0,?_⟩⟩;apply vc115z;dsimp only[VC115z,Br,cB,iq];refine⟨fun m i j W=>W=w3/\i=0/\j=0,⟨0,rfl,rfl,rfl⟩,?_⟩;rintro m i j W ⟨rfl,rfl,rfl⟩;exact⟨fun h=>absurd h (by decide),fun _=>⟨_,rfl,by unfold aH;decide,rfl,aB (aB g1 g2) g3⟩⟩
def rL(w:World)(r:Nat):Prop:=∃(RA:OA)(d:Nat)(bv:Value),w.heap[r]?=some (.cells (Cb RA d bv (.pointer none) 0 0 0 0) 132 (0,0))
def yV(w:World)(r:Nat):Prop:=∃(RA:OA)(d:Nat)(bv:Value)(g:Nat),w.heap[r]?=some (.cells (Cb RA d bv (.pointer (some ⟨g,0,none⟩)) 1 0 0 0) 132 (0,0))/\BJ w g
theorem rL.kept{w w':World}{r:Nat}(h:rL w r)(hg:w.grownBy w' none):rL w' r:=by
 obtain⟨RA,d,bv,h⟩:=h;exact⟨RA,d,bv,aC h hg⟩
theorem yV.kept{w w':World}{r:Nat}(h:yV w r)(hg:w.grownBy w' none):yV w' r:=by
 obtain⟨RA,d,bv,g,h,k⟩:=h;exact⟨RA,d,bv,g,aC h hg,k.kept hg⟩
theorem vK{w:World}{r:Nat}(h:rL w r):Calls P 118 #[.pointer (some ⟨r,0,none⟩),.slice none 0 0] w fun ev w'=>ev=.returned (.int .i64 29)/\w.grownBy w' none:=by
 apply vc118;dsimp only[VC118,Br,Bb,cB,nb,iq];obtain⟨RA,d,bv,h⟩:=h;obtain⟨w1,Cl,g1,b1⟩:=bP w #[.pointer (some ⟨r,0,none⟩)] 55;rw[← Cl];exact⟨_,aA b1 0,_,rfl,none,by rw[aN];exact aA (aC h g1) 6,fun _=>⟨rfl,g1⟩,fun e=>absurd rfl e⟩
theorem vJ{w:World}{r:Nat}(h:yV w r):Calls P 118 #[.pointer (some ⟨r,0,none⟩),.slice none 0 0] w fun ev w'=>ev=.returned (.int .i64 0)/\w.grownBy w' none:=by
 apply vc118;dsimp only[VC118,Br,Bb,cB,nb,iq];obtain⟨RA,d,bv,g,h,hG⟩:=h;obtain⟨w1,Cl,g1,b1⟩:=bP w #[.pointer (some ⟨r,0,none⟩)] 55;rw[← Cl];refine⟨_,aA b1 0,_,rfl,some ⟨g,0,none⟩,by rw[aN];exact aA (aC h g1) 6,fun e=>(by cases e),fun _=>?_⟩;apply vc150m;dsimp only[VC150m,fP,cI];apply vc178m;dsimp only[VC178m,Br,Bb,Rd,Ix,cB,iq];refine⟨fun m x W=>W=w1/\x=0,⟨0,rfl,rfl⟩,?_⟩;rintro m x W ⟨rfl,rfl⟩;exact⟨fun h=>absurd h (by decide),fun _=>⟨_,rfl,_,rfl,fun e=>absurd e (by decide),fun _=>⟨rfl,g1⟩⟩⟩
theorem tD{w:World}{r:Nat}{t:Int}(h:rL w r):Calls P 82 #[.pointer (some ⟨r,0,none⟩),.int .i64 t] w fun ev w'=>ev=.returned (.int .i64 0)/\yV w' r/\Kp w w' (fun q=>q=r):=by
 apply vc82;dsimp only[VC82,Wt,Br,Rd,Rc,Rs,Ix,Ws,cI,cS,cU,cT,nb,ad,iq];obtain⟨RA,d,bv,h⟩:=h;obtain⟨w1,Cl,g1,b1⟩:=bP w #[.int .i64 t] 2;rw[← Cl];have gd:=aK g1;have h1:=aC h gd;refine⟨_,rfl,RA,0,d,by rw[aN];exact aA h1 3,t,aA (w:=w1.drew) b1 0,tH.mono fun ev w2 hh=>?_⟩;obtain⟨rfl,g2⟩:=hh;have h2:=aC h1 g2;refine⟨_,rfl,fun _=>⟨_,rfl,1,by rw[aN];exact aA h2 5,sS.mono fun ev w3 hh=>?_⟩,fun e=>absurd (by decide) e⟩;obtain⟨g,rfl,hG,g3⟩:=hh;have h3:=aC h2 g3;refine⟨_,rfl,_,rfl,?_⟩;rw[aN];have s:=aG h3 6 (.pointer (some ⟨g,0,none⟩));have K:=eZ (j:=6) (u:=.pointer (some ⟨g,0,none⟩)) (Kp.refl w3 (fun q=>q=r)) rfl;obtain⟨w4,Dc,g4,b4⟩:=bP (w3.setCell ⟨r,6,none⟩ (.pointer (some ⟨g,0,none⟩))) #[.int .i64 0,.int .i64 0,.int .i64 0] 3;rw[← Dc];refine⟨⟨_,aA h3 6⟩,aD h3 6,(yN (now:=.pointer (some ⟨g,0,none⟩)) (aC (by simpa using s) g4) (by rw[Dc];exact jX _ _ _)).mono fun ev w5 hh=>?_⟩;obtain⟨rfl,h5,K5⟩:=hh;refine⟨rfl,rfl,⟨RA,d,bv,g,h5,((hG.kp K (fun q e=>by subst e;exact⟨_,_,h3⟩) (.inl rfl)).kept g4).kp K5 (fun q e=>by subst e;exact⟨_,_,aC (by simpa using s) g4⟩) (.inl rfl)⟩,?_⟩;have K14:Kp w w4 (fun q=>q=r):=((Kp.of_none (S:=fun q=>q=r) (aB (aB gd g2) g3)).then K (fun q _ e=>e)).then (Kp.of_none (S:=fun _=>False) g4) (fun q _ e=>e.elim);exact K14.then K5 (fun q _ e=>e)
theorem qV{w:World}{r:Nat}(h:rL w r):Calls P 86 #[.pointer (some ⟨r,0,none⟩)] w fun ev w'=>ev=.returned (.tuple #[.int .i64 0,.int .i64 29])/\w.grownBy w' none:=by
 apply vc86;dsimp only[VC86,rt,Br,Rc,cI,iq];refine(vK h).mono fun ev w1 hh=>?_;obtain⟨rfl,g1⟩:=hh;exact⟨_,rfl,fun _=>⟨rfl,g1⟩,fun e=>absurd (by decide) e⟩
theorem vI (v : Value) (w : World) : Sem.run P (callMethod (.iface 224 v) "Count" #[]) w = .ok (.enter 303 #[v]) w := by kernel_rfl
theorem qW{w:World}{r:Nat}(h:yV w r):Calls P 86 #[.pointer (some ⟨r,0,none⟩)] w fun ev w'=>ev=.returned (.tuple #[.int .i64 3,.int .i64 0])/\w.grownBy w' none:=by
 apply vc86;dsimp only[VC86,rt,Br,Rc,cI,iq];refine(vJ h).mono fun ev w1 hh=>?_;obtain⟨rfl,g1⟩:=hh;obtain⟨RA,d,bv,g,h,nb,hg,m1,m2,m3,q1,q2,q3⟩:=h;have gd:=aK g1;refine⟨_,rfl,fun e=>absurd rfl e,fun _=>⟨fun W=>w.grownBy W none,gd,_,rfl,3,fun wq hq=>aA (aC h hq) 0,by unfold aH;decide,_,rfl,_,by rw[aN];exact aA (aC h gd) 6,_,rfl,_,aA (aC q1 gd) 0,(jH (aC q2 gd)).mono fun ev w2 hh=>?_⟩⟩;obtain⟨rfl,rfl⟩:=hh;refine⟨_,rfl,gd,by unfold aH;decide,_,rfl,_,fun wq hq=>by rw[aN];exact aA (aC h hq) 6,_,rfl,_,fun wq hq=>by rw[aN];exact aA (aC q1 hq) 1,303,[.pointer (some ⟨hg,0,none⟩)],vI _ _,(qJ (q3.kept gd)).mono fun ev w3 hh=>?_⟩;obtain⟨rfl,g3⟩:=hh;have CC:=aB gd g3;exact⟨_,rfl,CC,by unfold aH;decide,rfl,CC⟩
theorem sF{w:World}{A:OA}{n c:Nat}(hr:bS w A (cR kG))(hn:n=kG.length)(hc:n<=c):
    Calls P 20 #[.slice A n c,.int .u64 1] w fun ev w'=>∃ r:Nat,ev=.returned (.tuple #[.pointer (some ⟨r,0,none⟩),.int .i64 0])/\rL w' r/\w.heap.size<=r/\w.grownBy w' none:=by
  apply vc20;dsimp only[VC20,rt,Br,Rc,Ws,cS,nb,iq];refine(sN hr hn hc).mono fun ev w1 hh=>?_;obtain⟨B,m,d,rfl,o1,g1⟩:=hh;have m0:m=0:=by have:=o1.cases.1;simp[cH]at this;omega
  subst m0;obtain⟨v,hv,l1,l2,l3,l4,l5,l6,b2,g2⟩:=BD w1 113 (.int .u64 0) (.int .i64 0) (.int .i64 0) (.int .u64 3) (.int .i64 1) (.int .i64 0);refine⟨_,_,_,_,_,_,_,rfl,l1,l2,l3,l4,l5,l6,?_⟩;rw[← hv];have C9:=aB g1 g2;have gd:w1.grownBy v.drew none:=aK g2;refine⟨fun e=>absurd rfl e,fun _=>⟨fun W=>v.grownBy W none,aK (aF _ _),_,fun wq hq=>aA (aC b2 hq) 0,_,fun wq hq=>aA (aC b2 hq) 1,_,fun wq hq=>aA (aC b2 hq) 2,(rF (hr.kept_none (aK C9)) hn (by rw[pC];decide)).mono fun ev w3 hh=>?_⟩⟩;obtain⟨A',n',c',rfl,o3,g3⟩:=hh;have FR:v.grownBy w3 none:=⟨g3.os,g3.tape,g3.output,g3.size,g3.block⟩;obtain⟨w4,Dc,g4,b4⟩:=bP w3 (Cb B d (.slice A' n' c') (.pointer none) 0 0 0 0) 132;refine⟨_,_,_,rfl,FR,?_⟩;rw[← Dc];have gA:=aB C9 FR;exact⟨aB FR g4,_,rfl,⟨_,_,_,b4⟩,gA.size,aB gA g4⟩
abbrev cQ:List Cm:=[⟨4,0,0,0⟩,⟨1,5,0,0⟩,⟨4,0,0,0⟩,⟨0,0,0,0⟩]
abbrev aQ:List (Int×Int):=[(0,29),(0,0),(3,0),(0,30)]
def yU(l:List (Int×Int)):List Value:=l.flatMap fun a=>[.int .i64 a.1,.int .i64 a.2]
theorem Bn:lS P 58 61 2 (P.bytesOf 61):=⟨(P.info? 61).getD default,((P.info? 61).getD default).zero.getD undef,by kernel_rfl,by kernel_rfl,by kernel_rfl,by kernel_rfl,by kernel_rfl,by kernel_rfl,by decide⟩
theorem AA:P.bytesOf 61<=64:=of_decide_eq_true (by kernel_rfl)
def Bs:Nat->World->Nat->Prop
 | 0,w,r=>rL w r
 | 1,w,r=>rL w r
 | _,w,r=>yV w r
theorem Bs.kept{w w':World}{r:Nat}(hg:w.grownBy w' none):∀ {i:Nat},Bs i w r->Bs i w' r
 | 0,h=>rL.kept h hg
 | 1,h=>rL.kept h hg
 | _+2,h=>yV.kept h hg
theorem oV{w:World}{r:Nat}{x y:Int}(h:∀ w1,w.grownBy w1 none->Calls P 86 #[.pointer (some ⟨r,0,none⟩)] w1 fun ev w'=>ev=.returned (.tuple #[.int .i64 x,.int .i64 y])/\w1.grownBy w' none):
    Calls P 58 #[.pointer (some ⟨r,0,none⟩),gT ⟨4,0,0,0⟩] w fun ev w'=>ev=.returned (.tuple #[.int .i64 x,.int .i64 y])/\w.grownBy w' none:=by
  apply vc58;dsimp only[VC58,rt,Br,Rd,cI,cB,nb,iq];obtain⟨w1,Cl,g1,b1⟩:=bP w #[.int .i64 4,.int .i64 0,.int .u64 0,.int .u64 0] 47;rw[← Cl];refine⟨_,aA b1 0,_,aA b1 1,_,aA b1 2,_,aA b1 3,(cW (c:=⟨4,0,0,0⟩) (by unfold yF;decide)).mono fun ev w2 hh=>?_⟩;obtain⟨rfl,g2⟩:=hh;refine⟨_,rfl,fun e=>absurd e (by decide),fun _=>⟨_,aA (aC b1 g2) 0,fun e=>absurd e (by decide),fun _=>⟨fun e=>absurd e (by decide),fun _=>⟨fun e=>absurd e (by decide),fun _=>⟨fun _=>(h w2 (aB g1 g2)).mono fun ev w3 hh=>?_,fun e=>absurd rfl e⟩⟩⟩⟩⟩;obtain⟨rfl,g3⟩:=hh;exact⟨_,_,rfl,rfl,aB (aB g1 g2) g3⟩
theorem zX{w:World}{r:Nat}(h:rL w r):Calls P 58 #[.pointer (some ⟨r,0,none⟩),gT ⟨1,5,0,0⟩] w fun ev w'=>ev=.returned (.tuple #[.int .i64 0,.int .i64 0])/\yV w' r/\Kp w w' (fun q=>q=r):=by
 apply vc58;dsimp only[VC58,rt,Br,Rd,cI,cB,nb,iq];obtain⟨w1,Cl,g1,b1⟩:=bP w #[.int .i64 1,.int .i64 5,.int .u64 0,.int .u64 0] 47;rw[← Cl];refine⟨_,aA b1 0,_,aA b1 1,_,aA b1 2,_,aA b1 3,(cW (c:=⟨1,5,0,0⟩) (by unfold yF;decide)).mono fun ev w2 hh=>?_⟩;obtain⟨rfl,g2⟩:=hh;refine⟨_,rfl,fun e=>absurd e (by decide),fun _=>⟨_,aA (aC b1 g2) 0,fun _=>⟨_,aA (aC b1 g2) 1,(tD (rL.kept h (aB g1 g2))).mono fun ev w3 hh=>?_⟩,fun e=>absurd rfl e⟩⟩;obtain⟨rfl,h3,k3⟩:=hh;exact⟨_,rfl,rfl,h3,(Kp.of_none (aB g1 g2)).then k3 (fun q _ e=>e)⟩
theorem AZ{w:World}{A:OA}:Calls P 58 #[.pointer A,gT ⟨0,0,0,0⟩] w fun ev w'=>ev=.returned (.tuple #[.int .i64 0,.int .i64 30])/\w.grownBy w' none:=by
 apply vc58;dsimp only[VC58,rt,Br,Rd,cI,cB,nb,iq];obtain⟨w1,Cl,g1,b1⟩:=bP w #[.int .i64 0,.int .i64 0,.int .u64 0,.int .u64 0] 47;rw[← Cl];refine⟨_,aA b1 0,_,aA b1 1,_,aA b1 2,_,aA b1 3,(cW (c:=⟨0,0,0,0⟩) (by unfold yF;decide)).mono fun ev w2 hh=>?_⟩;obtain⟨rfl,g2⟩:=hh;exact⟨_,rfl,fun _=>⟨rfl,aB g1 g2⟩,fun e=>absurd (by decide) e⟩
theorem BR{w:World}{r i:Nat}(hi:i<4)(h:Bs i w r):Calls P 58 #[.pointer (some ⟨r,0,none⟩),gT (cQ[i]'hi)] w fun ev w'=>ev=.returned (.tuple #[.int .i64 (aQ[i]'hi).1,.int .i64 (aQ[i]'hi).2])/\Bs (i+1) w' r/\Kp w w' (fun q=>q=r):=by
 match i,hi,h with
 | 0,_,h=>exact(oV fun w1 g=>qV (rL.kept h g)).mono fun ev w' hh=>⟨hh.1,rL.kept h hh.2,Kp.of_none hh.2⟩
 | 1,_,h=>exact zX h
 | 2,_,h=>exact(oV fun w1 g=>qW (yV.kept h g)).mono fun ev w' hh=>⟨hh.1,yV.kept h hh.2,Kp.of_none hh.2⟩
 | 3,_,h=>exact AZ.mono fun ev w' hh=>⟨hh.1,yV.kept h hh.2,Kp.of_none hh.2⟩
theorem Bs.kp{w w':World}{S:Nat->Prop}{r:Nat}(hk:Kp w w' S)(hS:∀ q,S q->∃(c:Array Value)(fr:Nat×Nat),w.heap[q]?=some (.cells c 61 fr)):∀ {i:Nat},Bs i w r->Bs i w' r:=by
 have keep:∀ {q:Nat} {cs:Array Value} {fr:Nat×Nat},w.heap[q]?=some (.cells cs 132 fr)->w'.heap[q]?=some (.cells cs 132 fr):=fun {q cs fr} hq=>by
  rw[hk.block _ (Array.getElem?_eq_some_iff.1 hq).1 fun e=>by
   obtain⟨c,fr,e⟩:=hS _ e;rw[hq]at e;cases e]
  exact hq
 have k0:rL w r->rL w' r:=fun⟨RA,d,bv,h⟩=>⟨RA,d,bv,keep h⟩;intro i h
 match i,h with
 | 0,h=>exact k0 h
 | 1,h=>exact k0 h
 | _+2,h =>
  obtain⟨RA,d,bv,g,h,k⟩:=h;exact⟨RA,d,bv,g,keep h,k.kp hk hS (.inr rfl)⟩
theorem uV{w:World}{A:OA}{n c:Nat}:Calls P 21 #[.pointer none,.slice A n c] w fun ev w'=>ev=.returned (.slice none 0 0)/\w'=w:=by
 apply vc21;dsimp only[VC21,Wt,Br,Rd,Ix,Ap,Ws,nb,ad,al,iq];exact⟨fun _=>⟨rfl,rfl⟩,fun e=>absurd rfl e⟩
theorem uW {w:World} {r:Nat} {B:OA} {c:Nat} (h:rL w r) (hr:bS w B (eI cQ)) (hB:∀ a,B=some a->a.block≠r):Calls P 21 #[.pointer (some ⟨r,0,none⟩),.slice B 4 c] w fun ev w'=>∃(A':OA)(c':Nat),ev=.returned (.slice A' 4 c')/\bS w' A' (yU aQ)/\Kp w w' (fun q=>q=r):=by
  apply vc21;dsimp only[VC21,Wt,Br,Rd,Ix,Ap,Ws,nb,ad,al,iq]
  try simp only[aH]
  have Cc:r<w.heap.size:=by obtain⟨RA,d,bv,h⟩:=h;exact(Array.getElem?_eq_some_iff.1 h).1
  refine⟨fun e=>(by cases e),fun _=>⟨fun m A n c x W=>∃ i:Nat,x=(i:Int)/\i<=4/\m=4-i/\n=i/\aE W w.heap.size 61 2 A n c (yU (aQ.take i))/\Bs i W r/\Kp w W (fun q=>q=r),⟨4,0,rfl,by omega,rfl,rfl,aE.nil _ _ _ _,h,Kp.refl _ _⟩,?_⟩⟩;rintro m A n c' x W ⟨i,rfl,hi,rfl,rfl,ho,hs,hk⟩;have ti:(n:Int).toNat=n:=by omega
  rw[ti];refine⟨fun CR=>?_,fun Ck=>?_⟩
  · have Fy:n<4:=by omega
    obtain⟨a,rfl,f0,f1,f2,f3⟩:=nO (hr.kp hk (fun a ha _=>hB a ha)) (j:=n) Fy;obtain⟨v,hv,l1,l2,l3,l4,l5,l6,l7,l8,b1,g1⟩:=BC W 47 (.int .i64 0) (.int .i64 0) (.int .u64 0) (.int .u64 0) (.int .i64 cQ[n].k) (.int .i64 cQ[n].t) (.int .u64 cQ[n].u) (.int .u64 cQ[n].v);refine⟨_,rfl,by omega,by omega,_,f0,_,f1,_,f2,_,f3,l1,l2,l3,l4,l5,l6,l7,l8,?_⟩;rw[← hv];refine⟨_,aA b1 0,_,aA b1 1,_,aA b1 2,_,aA b1 3,(BR Fy (hs.kept g1)).mono fun ev w2 hh=>?_⟩;obtain⟨rfl,s2,k2⟩:=hh;have KW:Kp W w2 (fun q=>q=r):=(Kp.of_none g1).then k2 (fun q _ e=>e);have o2:=ho.kp KW (fun q hq e=>by have:=ho.block_ge q hq;omega);obtain⟨w3,CO,g3,b3⟩:=bP w2 #[.int .i64 aQ[n].1,.int .i64 aQ[n].2] 61;have z3:=(hk.then KW (fun q _ e=>e)).size;have r3:bS w3 (some ⟨w2.heap.size,0,none⟩) [.int .i64 aQ[n].1,.int .i64 aQ[n].2]:=by rw[CO];exact jX _ _ _
    obtain⟨A',n',c'',w4,Cp,o4,rfl,g4,_⟩:=(o2.kept g3).appends (ty:=58) Bn AA (a:=⟨w2.heap.size,0,none⟩) (m:=1) (cc:=1) (us:=[.int .i64 aQ[n].1,.int .i64 aQ[n].2]) rfl (fun j u hj=>by obtain⟨b,q1,q2⟩:=r3 j u hj;cases q1;exact q2) (fun u hu=>by simp at hu;rcases hu with rfl | rfl <;>rfl) (by omega) (by have:=g3.size;omega);refine⟨_,_,rfl,_,_,_,w4,by rw[← CO];exact Cp,by omega,4-(n+1),by omega,n+1,by omega,by omega,rfl,rfl,?_,?_,?_⟩
    · have e:yU (aQ.take (n+1))=yU (aQ.take n)++[.int .i64 aQ[n].1,.int .i64 aQ[n].2]:=by
        rw[List.take_succ_eq_append_getElem (show n<aQ.length from Fy)];unfold yU;rw[List.flatMap_append];rfl
      rw[e];exact o4
    · exact(s2.kept g3).kp (Kp.of_grown g4) (fun q e=>by
        obtain⟨cur,hc⟩:=(o2.kept g3).block_type q e.symm;exact⟨_,_,hc⟩)
    · have K3:=(hk.then KW (fun q _ e=>e)).then (Kp.of_none (S:=fun _=>False) g3) (fun q _ e=>e.elim);exact K3.step g4 (fun q e=>.inl ((o2.kept g3).block_ge q e))
  · have:n=4:=by omega
    subst this;exact⟨_,_,rfl,ho.row,hk⟩
theorem Am(a b c d:Int)(w:World):(Op.equalIn 10000 37 (.agg #[.int .i64 a,.int .i64 b]) (.agg #[.int .i64 c,.int .i64 d])).run P w=.ok (decide (a=c/\b=d)) w:=by
 rw[run_equalIn_struct w 9999 37 _ _ (by kernel_rfl) (by kernel_rfl)];obtain ⟨f, g, Ej, DD, DC, Ek, Eh, Ef, Ee⟩ : ∃ f g : Field, (P.fieldsOf 37).toList = [f, g] ∧ f.name = "Line" ∧ f.type = 3 ∧ f.offset = 0 ∧ g.name = "Col" ∧ g.type = 3 ∧ g.offset = 1 :=
  ⟨((P.fieldsOf 37).toList)[0]!,((P.fieldsOf 37).toList)[1]!,by kernel_rfl,by kernel_rfl,by kernel_rfl,by kernel_rfl,by kernel_rfl,by kernel_rfl,by kernel_rfl⟩
 rw[Ej];have u1:P.underlying 3=some (.int .i64):=by kernel_rfl
 have p1:P.plainKey 3=true:=by kernel_rfl
 have e1:∀(x y:Int)(w:World),(part 3 #[.int .i64 x,.int .i64 y] 0).run P w=.ok (.int .i64 x) w:=fun x y w=>run_part_plain w p1 rfl;have e2:∀(x y:Int)(w:World),(part 3 #[.int .i64 x,.int .i64 y] 1).run P w=.ok (.int .i64 y) w:=fun x y w=>run_part_plain w p1 rfl;have q1:∀(x y:Int)(w:World),(Op.equalIn 9999 3 (.int .i64 x) (.int .i64 y)).run P w=.ok (x ==y) w:=fun x y w=>run_equalIn_int w 9998 _ _ _ _ _ u1;simp only[Op.eqFields,DD,DC,Ek,Eh,Ef,Ee,Sem.run_bind,Sem.run_ite,e1,e2,q1,Result.andThen_ok];by_cases h1:a=c <;>by_cases h2:b=d <;>simp[h1,h2]
theorem mO(s t:Operand)(a b c d:Int)(w:World):Sem.run P (do eqGuard .eql 37 s t (.agg #[.int .i64 a,.int .i64 b]) (.agg #[.int .i64 c,.int .i64 d]);Go.binOp .eql 37 (.agg #[.int .i64 a,.int .i64 b]) (.agg #[.int .i64 c,.int .i64 d]):Sem Value) w=.ok (.bool (decide (a=c/\b=d))) w:=by
 rw[Sem.run_bind,run_eqGuard_agg w .eql 37 s t _ _ (by kernel_rfl),Result.andThen_ok,run_eql_struct w,Am];rfl
abbrev tx1:List Int:=[115,101,101,107,32,53,10,99,111,117,110,116,10]
abbrev tx2:List Int:=[99,111,117,110,116,10,67,111,117,110,116,10]
theorem par1:eS tx1=([⟨1,5,0,0⟩,⟨4,0,0,0⟩],0,0,0):=by kernel_rfl
theorem par2:eS tx2=([],2,1,30):=by kernel_rfl
theorem pri1:iV [⟨1,5,0,0⟩,⟨4,0,0,0⟩]=tx1:=by
 have d:bD 5=[53]:=by unfold bD;rfl
 unfold iV;simp[dW,aW,bN,d,bH]
theorem tx1_b:bB tx1:=by unfold bB tx1;decide
theorem tx2_b:bB tx2:=by unfold bB tx2;decide
theorem jB{w:World}(ht:nR w):Calls P 7 #[] w fun ev w'=>ev=.returned (.bool true)/\w.grownBy w' none:=by
 apply vc7;dsimp only[VC7,rb,Wt,Br,Bb,Rd,Ix,Ap,Eg,Ws,cB,cS,cT,nb,iq];refine(dN (l:=tx1) (by decide) tx1_b).mono fun ev w1 hh=>?_;rw[par1]at hh;obtain⟨A1,n1,c1,rfl,Dq,o1,g1⟩:=hh;replace Dq:n1=2:=Dq;subst Dq;obtain⟨v1,Hb,l1,l2,l3,l4,p1,gv1⟩:=sT w1 37 (.int .i64 0) (.int .i64 0) (.int .i64 0) (.int .i64 0);refine⟨_,_,_,_,_,_,rfl,l1,l2,l3,l4,?_⟩;rw[← Hb];refine(dN (l:=tx2) (by decide) tx2_b).mono fun ev w2 hh=>?_;rw[par2]at hh;obtain⟨A2,n2,c2,rfl,Ft,o2,g2⟩:=hh;replace Ft:n2=0:=Ft;subst Ft;obtain⟨v2,Ha,l1,l2,l3,l4,p2,gv2⟩:=sT w2 37 (.int .i64 0) (.int .i64 0) (.int .i64 2) (.int .i64 1);refine⟨_,_,_,_,_,_,rfl,l1,l2,l3,l4,?_⟩;rw[← Ha];refine mS.mono fun ev w3 hh=>?_;obtain⟨A3,n3,c3,rfl,o3,g3⟩:=hh;have n3e:n3=kG.length:=by have:=o3.cases.1;simp[cR]at this;omega
 refine⟨_,_,_,_,rfl,(sF o3.row n3e (oU o3)).mono fun ev w4 hh=>?_⟩;obtain⟨r,rfl,hR,hr,g4⟩:=hh;have Gd:r<w4.heap.size:=by obtain⟨RA,d,bv,h⟩:=hR;exact(Array.getElem?_eq_some_iff.1 h).1
 have C9:=aB gv1 g2;have EX:=aB (aB gv2 g3) g4;have G14:=aB C9 EX;obtain⟨w5,Fe,g5,b5⟩:=bP w4 #[.int .i64 4,.int .i64 0,.int .u64 0,.int .u64 0] 47;have own:aE w5 w4.heap.size 47 4 (some ⟨w4.heap.size,0,none⟩) 1 1 (eI [⟨4,0,0,0⟩]):=aE.of_block (Nat.le_refl _) b5 (Nat.le_refl _) (by simp only[maxLen];omega) rfl rfl rfl;have Ih:=aB G14 g5;have FY:=o1.kept Ih;obtain⟨A6,n6,c6,w6,r6,o6,g6,EO⟩:=iM (m:=2) (d:=c1) own FY.row rfl (fun e=>by
  rcases FY.cases.2 with⟨_,h,_⟩ | ⟨g,cur,h,_⟩
  ·cases h
  ·cases e.symm.trans h) (by omega) (by have:=g5.size;omega)
 have G56:w4.grownBy w6 none:=aP g5 g6 (fun k hk=>by cases hk;exact Nat.le_refl _);obtain⟨w7,G4,g7,b7⟩:=bP w6 #[.int .i64 0,.int .i64 0,.int .u64 0,.int .u64 0] 47;obtain⟨A8,n8,c8,w8,r8,o8,g8,Fq⟩:=iM (m:=1) (d:=1) (o6.kept g7) (pY (c:=⟨0,0,0,0⟩) b7) rfl (fun e=>by cases e) (by omega) (by have:=(aB G56 g7).size;omega);have G58:w4.grownBy w8 none:=aP (aB G56 g7) g8 (fun k hk=>(o6.kept g7).block_ge k hk);have e8:n8=4:=by omega
 subst e8;refine⟨_,_,rfl,fun e=>(by cases e),fun _=>⟨_,_,_,w6,by rw[← Fe];exact r6,_,_,_,w8,by rw[← G4];exact r8,(uW (hR.kept G58) o8.row (fun a ha e=>by have:=o8.block_ge a.block (by rw[ha];rfl);omega)).mono fun ev w9 hh=>?_⟩⟩;obtain⟨A9,c9,rfl,rows9,K9⟩:=hh;have z14:=G14.size;have z1:=g1.size;have zv1:=gv1.size;have z2:=g2.size;have zv2:=gv2.size;have z3:=g3.size;have z58:=G58.size;have lt1:=(Array.getElem?_eq_some_iff.1 p1).1;have lt2:=(Array.getElem?_eq_some_iff.1 p2).1;have keep:∀ {q:Nat} {x:Obj},q<v2.heap.size->v2.heap[q]?=some x->w9.heap[q]?=some x:=fun {q x} hq hx=>by
  have h8:=aC (aC (aC (aC hx g3) g4) G58) (aF _ _);rw[K9.block _ (Array.getElem?_eq_some_iff.1 h8).1 (fun e=>by omega)];exact h8
 have p1':=keep (by omega) (aC (aC p1 g2) gv2);have p2':=keep lt2 p2;have GA:w.grownBy w9 none:=((Kp.of_none (aB (aB g1 G14) G58)).then K9 (fun q hq e=>e)).grown (fun q hq e=>by omega);have row1:bS w9 A1 (eI [⟨1,5,0,0⟩,⟨4,0,0,0⟩]):=((o1.kept G14).kept G58).row.kp K9 (fun a ha _ e=>by
  have:=(World.ownsRow.lt o1 a.block (by rw[ha];rfl)).2;omega)
 obtain⟨a1,rfl,f0,f1,f2,f3⟩:=nO row1 (j:=0) (by decide);simp only[Nat.zero_mul,lR]at f0 f1 f2 f3;obtain⟨a9,rfl,_⟩:=rows9 0 _ rfl;have at9:∀(j:Nat)(v:Value),(yU aQ)[j]?=some v->w9.cell? (a9.add j)=some v:=fun j v hj=>by obtain⟨b,q,e⟩:=rows9 j v hj;cases q;exact e
 have T9:nR w9:=ht.kept GA;refine⟨_,_,_,rfl,fun _=>⟨_,aA p1' 0,_,aA p1' 1,_,fun w=>mO _ _ _ _ _ _ w,fun _=>?_,fun e=>absurd e (by decide)⟩,fun e=>absurd rfl e⟩;refine⟨fun _=>⟨_,rfl,by omega,by omega,5,f1,fun _=>?_,fun e=>absurd rfl e⟩,fun e=>absurd rfl e⟩;refine⟨fun _=>⟨_,aA p2' 0,_,aA p2' 1,_,fun w=>mO _ _ _ _ _ _ w,fun _=>?_,fun e=>absurd e (by decide)⟩,fun e=>absurd rfl e⟩;refine⟨fun _=>⟨_,rfl,by omega,by omega,29,at9 1 _ rfl,fun _=>?_,fun e=>absurd rfl e⟩,fun e=>absurd rfl e⟩;refine⟨_,rfl,by omega,by omega,0,by rw[eF];exact at9 3 _ rfl,fun _=>?_,fun e=>absurd rfl e⟩;refine⟨_,rfl,by omega,by omega,3,at9 4 _ rfl,fun _=>?_,fun e=>absurd rfl e⟩;refine⟨_,rfl,by omega,by omega,30,by rw[eF];exact at9 7 _ rfl,fun _=>?_,fun e=>absurd rfl e⟩;refine(mK row1 rfl (by decide) (fun c hc=>by simp at hc;rcases hc with rfl | rfl <;>(unfold cC;decide)) T9).mono fun ev EH hh=>?_;obtain⟨rfl,EE⟩:=hh;rw[pri1];refine⟨_,rfl,_,fun w=>hO _ _ _ _ w,fun _=>?_,fun e=>?_⟩
 ·obtain⟨a2,q,e0,e1,e2,e3⟩:=nO (row1.kept_none EE) (j:=0) (by decide);cases q;simp only[Nat.zero_mul,lR]at e0 e1 e2 e3;refine⟨_,rfl,by omega,by omega,_,e0,_,e1,_,e2,_,e3,(cW (c:=⟨1,5,0,0⟩) (by unfold yF;decide)).mono fun ev EG hh=>?_⟩;obtain⟨rfl,FT⟩:=hh;refine⟨_,rfl,fun _=>(cW (c:=⟨0,0,0,0⟩) (by unfold yF;decide)).mono fun ev E6 hh=>?_,fun e=>absurd e (by decide)⟩;obtain⟨rfl,g12'⟩:=hh;refine⟨_,rfl,fun _=>uV.mono fun ev Ip hh=>?_,fun e=>absurd (by decide) e⟩;obtain⟨rfl,rfl⟩:=hh;exact⟨_,_,_,rfl,rfl,aB GA (aB (aB EE FT) g12')⟩
 ·exact absurd e (by rw[decide_eq_false_iff_not];exact fun h=>h (by rfl))
abbrev mV:List (List Int×Int×Int):=[([115,101,101,107,32,120,10],6,21),([99,111,110,110,101,99,116,101,100,32,53,32,10],13,21),([115,105,122,101,32,48,53,10],6,21),([104,97,115,32,49,44,50,10],6,21),([100,101,103,114,101,101,32,51,32,52,10],9,21),
 ([115,101,101,107,32,57,50,50,51,51,55,50,48,51,54,56,53,52,55,55,53,56,48,56,10],6,22),([99,111,117,110,116],6,20),([83,101,101,107,32,49,10],1,30),([99,111,110,110,101,99,116,101,100,32,49,32,49,56,52,52,54,55,52,52,48,55,51,55,48,57,53,53,49,54,49,54,10],13,22),([104,97,115],4,20)]
abbrev plA:Array Value:=#[.string ⟨#[115,101,101,107,32,120,10]⟩,.string ⟨#[99,111,110,110,101,99,116,101,100,32,53,32,10]⟩,.string ⟨#[115,105,122,101,32,48,53,10]⟩,.string ⟨#[104,97,115,32,49,44,50,10]⟩,.string ⟨#[100,101,103,114,101,101,32,51,32,52,10]⟩,.string ⟨#[115,101,101,107,32,57,50,50,51,51,55,50,48,51,54,56,53,52,55,55,53,56,48,56,10]⟩,.string ⟨#[99,111,117,110,116]⟩,.string ⟨#[83,101,101,107,32,49,10]⟩,.string ⟨#[99,111,110,110,101,99,116,101,100,32,49,32,49,56,52,52,54,55,52,52,48,55,51,55,48,57,53,53,49,54,49,54,10]⟩,.string ⟨#[104,97,115]⟩]
abbrev plC:Array Value:=#[.int .i64 6,.int .i64 13,.int .i64 6,.int .i64 6,.int .i64 9,.int .i64 6,.int .i64 6,.int .i64 1,.int .i64 13,.int .i64 4]
abbrev plE:Array Value:=#[.int .i64 21,.int .i64 21,.int .i64 21,.int .i64 21,.int .i64 21,.int .i64 22,.int .i64 20,.int .i64 30,.int .i64 22,.int .i64 20]
theorem BP:∀ {j:Nat} (hj:j<10),plA[j]?=some (iU (mV[j]'hj).1)/\plC[j]?=some (.int .i64 (mV[j]'hj).2.1)/\plE[j]?=some (.int .i64 (mV[j]'hj).2.2)
 | 0,_=>⟨by kernel_rfl,by kernel_rfl,by kernel_rfl⟩
 | 1,_=>⟨by kernel_rfl,by kernel_rfl,by kernel_rfl⟩
 | 2,_=>⟨by kernel_rfl,by kernel_rfl,by kernel_rfl⟩
 | 3,_=>⟨by kernel_rfl,by kernel_rfl,by kernel_rfl⟩
 | 4,_=>⟨by kernel_rfl,by kernel_rfl,by kernel_rfl⟩
 | 5,_=>⟨by kernel_rfl,by kernel_rfl,by kernel_rfl⟩
 | 6,_=>⟨by kernel_rfl,by kernel_rfl,by kernel_rfl⟩
 | 7,_=>⟨by kernel_rfl,by kernel_rfl,by kernel_rfl⟩
 | 8,_=>⟨by kernel_rfl,by kernel_rfl,by kernel_rfl⟩
 | 9,_=>⟨by kernel_rfl,by kernel_rfl,by kernel_rfl⟩
theorem pl_at:∀ {j:Nat} (hj:j<10) (p:Int) (out:List Cm),dO ((mV[j]'hj).1.length+1) ⟨(mV[j]'hj).1,p,1,0⟩ out=([],p,(mV[j]'hj).2.1,(mV[j]'hj).2.2)
 | 0,_,p,out=>by kernel_rfl
 | 1,_,p,out=>by kernel_rfl
 | 2,_,p,out=>by kernel_rfl
 | 3,_,p,out=>by kernel_rfl
 | 4,_,p,out=>by kernel_rfl
 | 5,_,p,out=>by kernel_rfl
 | 6,_,p,out=>by kernel_rfl
 | 7,_,p,out=>by kernel_rfl
 | 8,_,p,out=>by kernel_rfl
 | 9,_,p,out=>by kernel_rfl
theorem kN:∀(n:Nat)(x:List Int),(eW n x).length=6*n+x.length
 | 0,x=>by simp[eW]
 | n+1,x=>by simp[eW,kN n x];omega
theorem qY:∀(n:Nat)(x y:List Int),eW n x++y=eW n (x++y)
 | 0,x,y=>rfl
 | n+1,x,y=>by simp[eW,qY n x y]
theorem tZ:∀ n:Nat,eW n [99,111,117,110,116,10]=eW (n+1) []
 | 0=>rfl
 | n+1=>by
  have:=tZ n;simp only[eW]at this ⊢;rw[this]
theorem BF:∀ (n:Nat) {x:List Int},bB x->bB (eW n x)
 | 0,x,h=>h
 | n+1,x,h=>by
  have:=BF n h;intro y hy;simp only[eW,List.mem_cons]at hy;rcases hy with rfl | rfl | rfl | rfl | rfl | rfl | hy
  ·decide
  ·decide
  ·decide
  ·decide
  ·decide
  ·decide
  ·exact this y hy
theorem pl_b{j:Nat}(hj:j<10):bB (mV[j]'hj).1:=by
 have:∀ j:Fin 10,∀ x∈(mV[j]'j.2).1,0<=x/\x<=255:=by decide
 exact this ⟨j,hj⟩
theorem zR{j:Nat}(hj:j<10):(mV[j]'hj).1.length<=40:=by
 have:∀ j:Fin 10,(mV[j]'j.2).1.length<=40:=by decide
 exact this ⟨j,hj⟩
theorem oQ:∀(n m:Nat)(s:Sn)(out:List Cm),s.l.length<n->s.l.length<m->dO n s out=dO m s out
 | 0,_,s,out,h,_=>absurd h (by omega)
 | _+1,0,s,out,_,h=>absurd h (by omega)
 | n+1,m+1,s,out,hn,hm=>by
  by_cases he:s.e≠0
  ·rw[vF hn he,vF hm he]
  replace he:s.e=0:=by omega
  by_cases hl:s.l=[]
  ·rw[mY hn he hl,mY hm he hl]
  by_cases hk:bU (s.l.takeWhile bO)=0
  ·rw[mZ hn he hl hk,mZ hm he hl hk]
  obtain⟨_,_,_,h,_⟩:=oP (out:=out) hn he hl hk;simp only[dO,he,hl,hk,ne_eq,not_true_eq_false,if_false];exact oQ n m _ _ (by omega) (by omega)
theorem BO{n j:Nat}(hj:j<10):eS (eW n (mV[j]'hj).1)=([],1+(n:Int),(mV[j]'hj).2.1,(mV[j]'hj).2.2):=by
 unfold eS;rw[kN,show 6*n+(mV[j]'hj).1.length+1=n+((mV[j]'hj).1.length+1+5*n) by omega,wW];rw[← pl_at hj (1+(n:Int)) ([]++List.replicate n ⟨4,0,0,0⟩)];exact oQ _ _ _ _ (by simp only;omega) (by simp only;omega)
theorem AV{w:World}{a b:Int}(ha:0<=a/\a<=255)(hb:0<=b/\b<=255)(ht:nR w):
    Calls P 6 #[.int .u8 a,.int .u8 b] w fun ev w'=>ev=.returned (.bool true)/\w.grownBy w' none:=by
  apply vc6;dsimp only[VC6,rb,Br,Bb,Rd,Ix,Eg,Ws,cB,nb,iq]
  try simp only[aH]
  refine(jB ht).mono fun ev w1 hh=>?_;obtain⟨rfl,g1⟩:=hh;obtain⟨n,hn⟩:∃ n:Nat,a % 20=(n:Int):=⟨(a % 20).toNat,by omega⟩;obtain⟨j,hj⟩:∃ j:Nat,b % 10=(j:Int):=⟨(b % 10).toNat,by omega⟩;have C5:j<10:=by omega
  rw[hn,hj];refine⟨_,rfl,fun e=>absurd e (by decide),fun _=>⟨⟨by omega,by omega⟩,⟨by omega,by omega⟩,fun m s i W=>∃ q:Nat,i=(q:Int)/\q<=n/\m=n-q/\s=aO (eW q [])/\W=w1,⟨n,0,rfl,Nat.zero_le _,rfl,rfl,rfl⟩,?_⟩⟩;rintro m s i W ⟨q,rfl,hq,rfl,rfl,rfl⟩;refine⟨fun Cc=>⟨_,fun w=>hY (b:=[99,111,117,110,116,10]) (by rw[kN];simp;omega) w,⟨by omega,by omega⟩,n-(q+1),by omega,q+1,by omega,by omega,rfl,by rw[qY];exact congrArg aO (tZ q),rfl⟩,fun Ck=>?_⟩;have e:q=n:=by omega
  subst e;obtain⟨w2,CU,g2,b2⟩:=bP W plA 9;obtain⟨w3,CO,g3,b3⟩:=bP w2 plC 3;obtain⟨w4,Dc,g4,b4⟩:=bP w3 plE 3;rw[← CU,← CO,← Dc];have tj:(j:Int).toNat=j:=by omega
  rw[tj];obtain⟨q1,q2,q3⟩:=BP C5;refine⟨⟨by omega,by omega⟩,_,rfl,by omega,by omega,aO (mV[j]'C5).1,by rw[aN];exact(aA b2 j).trans q1,⟨by omega,by omega⟩,_,rfl,by omega,by omega,(mV[j]'C5).2.1,by rw[aN];exact(aA b3 j).trans q2,⟨by omega,by omega⟩,_,rfl,by omega,by omega,(mV[j]'C5).2.2,by rw[aN];exact(aA b4 j).trans q3,aO (eW q (mV[j]'C5).1),?_,?_⟩
  · intro w;have:=hY (a:=eW q []) (b:=(mV[j]'C5).1) (by rw[kN];have:=zR C5;simp;omega) w;rw[qY]at this;exact this
  · refine(dN (l:=eW q (mV[j]'C5).1) (by rw[kN];have:=zR C5;omega) (BF _ (pl_b C5))).mono fun ev w5 hh=>?_;rw[BO C5]at hh;obtain⟨A5,n5,c5,rfl,C4,o5,g5⟩:=hh;replace C4:n5=0:=C4;subst C4;obtain⟨v,hv,l1,l2,l3,l4,p1,gv⟩:=sT w5 37 (.int .i64 0) (.int .i64 0) (.int .i64 (1+(q:Int))) (.int .i64 (mV[j]'C5).2.1);refine⟨_,_,_,_,_,_,rfl,l1,l2,l3,l4,?_⟩;rw[← hv];refine⟨fun _=>⟨_,aA p1 0,_,aA p1 1,⟨by omega,by omega⟩,_,fun w=>mO _ _ _ _ _ _ w,fun _=>⟨rfl,?_⟩,fun e=>?_⟩,fun e=>absurd rfl e⟩
    · exact aB (aB g1 (aB g2 g3)) (aB g4 (aB g5 gv))
    · rw[decide_eq_false_iff_not]at e;exact absurd ⟨by omega,rfl⟩ e
abbrev jK : List (String × DataW Unit) := [("math/bits.deBruijn32tab", Rows.laid_math_bits_deBruijn32tab), ("math/bits.deBruijn64tab", Rows.laid_math_bits_deBruijn64tab), ("internal/strconv.uint64pow10", Rows.laid_internal_strconv_uint64pow10)]
theorem AJ:Rows.laid_internal_strconv_uint64pow10=(Lib.tabData .u64 Lib.pow10Tab:DataW Unit):=by kernel_rfl
theorem zH{W:World}(h:laidMetH P jK W):nR W:=by
 rw[MakeChecks.laidMetH_plain _ _ _ (by kernel_rfl)]at h;have h3:=h.tail.tail;rw[AJ]at h3;exact Lib.tabIs_of_head BM (by kernel_rfl) (t:=(P.globals[0]!).type) (e:=28) (n:=20) (by kernel_rfl) (by kernel_rfl) (by kernel_rfl) (by kernel_rfl) h3
theorem Aa(os:Os)(args:Array Value):laidMetH P jK ((World.laidAll P os jK).forCall (fun _ _=>0) ⟨#[],args,[]⟩).memory:=by
 rw[MakeChecks.laidMetH_plain _ _ _ (by kernel_rfl)];exact laidMet_laidAll _ (by kernel_rfl) (by kernel_rfl)
theorem B7{c:Cm}(hk:gR c.k)(h4:c.k≠4):aW c≠[]:=by
 unfold aW;rcases hk with h | h | h | h | h | h <;>simp[h] <;>omega
theorem Bc{c:Cm}(hk:gR c.k):6<=(dW c).length:=by
 have d:∀ n:Nat,0<(bD n).length:=fun n=>List.length_pos_iff.2 (qS n);have d1:=d c.t.toNat;have d2:=d c.u.toNat;have d3:=d c.v.toNat;unfold dW aW;rcases hk with h | h | h | h | h | h <;>simp[h,bN] <;>omega
abbrev gZ:List (List Int×Int):=[([32,10],21),([32,49,10],21),([120,10],21),([],20),([10,10],30)]
theorem xR{c:Cm}(hc:bH c=true)(hg:cC c){j:Nat}(hj:j<5):
    (eS (bN c.k++(aW c++(gZ[j]'hj).1))).2.2.2=(if c.k=4/\j=2 then 30 else(gZ[j]'hj).2)/\(eS (bN c.k++(aW c++(gZ[j]'hj).1))).2.1=(if j=4 then 2 else 1):=by
  match j,hj with
  | 0,_ =>
    rw[if_neg (by omega),if_neg (by omega)];exact iR hc hg (fun x hx=>by simp at hx;subst hx;rfl) (.inr fun x hx=>by simp at hx;subst hx;rfl) (by simp)
  | 1,_ =>
    rw[if_neg (by omega),if_neg (by omega)];exact iR hc hg (fun x hx=>by simp at hx;subst hx;rfl) (.inr fun x hx=>by simp at hx;subst hx;rfl) (by simp)
  | 2,_ =>
    rw[if_neg (c:=2=4) (by omega)];by_cases h4:c.k=4
    · rw[if_pos ⟨h4,rfl⟩];have e:bN c.k++(aW c++[120,10])=bN 4++120 :: [10]:=by unfold aW;simp[h4]
      show(eS (bN c.k++(aW c++[120,10]))).2.2.2=30/\_;rw[show(gZ[2]'(by decide)).1=[120,10] from rfl,e];exact sK
    · rw[if_neg (fun h=>h4 h.1)];exact iR hc hg (fun x hx=>by simp at hx;subst hx;rfl) (.inl (B7 (dV hc) h4)) (by simp)
  | 3,_ =>
    rw[if_neg (by omega),if_neg (by omega)];exact iR hc hg (fun x hx=>by simp at hx) (.inr fun x hx=>by simp at hx) (by simp)
  | 4,_ =>
    rw[if_neg (by omega),if_pos rfl];exact AW hc hg
theorem kw_b(k:Int):bB (bN k):=by
 unfold bN bB;split
 ·decide
 split
 ·decide
 split
 ·decide
 split
 ·decide
 split
 ·decide
 split
 ·decide
 ·decide
theorem BH(c:Cm):bB (aW c):=by
 have h:=yP;unfold aW;have sp:∀ {l:List Int},bB l->bB (32 ::l):=fun hl x hx=>by
  rcases List.mem_cons.1 hx with rfl | hx
  ·decide
  ·exact hl x hx
 split
 ·exact sp (h _)
 split
 ·intro x hx;rw[List.mem_append]at hx;rcases hx with hx | hx
  ·exact sp (h _) x hx
  ·exact sp (h _) x hx
 split
 ·exact sp (h _)
 ·intro x hx;cases hx
theorem apB{a b:List Int}(ha:bB a)(hb:bB b):bB (a++b):=fun x hx=>by
 rcases List.mem_append.1 hx with hx | hx
 ·exact ha x hx
 ·exact hb x hx
theorem suf_b{j:Nat}(hj:j<5):bB (gZ[j]'hj).1:=by
 have:∀ j:Fin 5,∀ x∈(gZ[j]'j.2).1,0<=x/\x<=255:=by decide
 exact this ⟨j,hj⟩
theorem wR{j:Nat}(hj:j<5):(gZ[j]'hj).1.length<=3:=by
 have:∀ j:Fin 5,(gZ[j]'j.2).1.length<=3:=by decide
 exact this ⟨j,hj⟩
abbrev sufA:Array Value:=#[.string ⟨#[32,10]⟩,.string ⟨#[32,49,10]⟩,.string ⟨#[120,10]⟩,.string ⟨#[]⟩,.string ⟨#[10,10]⟩]
abbrev Bz:Array Value:=#[.int .i64 21,.int .i64 21,.int .i64 21,.int .i64 20,.int .i64 30]
theorem AL:∀ {j:Nat} (hj:j<5),sufA[j]?=some (iU (gZ[j]'hj).1)/\Bz[j]?=some (.int .i64 (gZ[j]'hj).2)
 | 0,_=>⟨by kernel_rfl,by kernel_rfl⟩
 | 1,_=>⟨by kernel_rfl,by kernel_rfl⟩
 | 2,_=>⟨by kernel_rfl,by kernel_rfl⟩
 | 3,_=>⟨by kernel_rfl,by kernel_rfl⟩
 | 4,_=>⟨by kernel_rfl,by kernel_rfl⟩
theorem zM{a:Int}(n:Nat)(h:0<=a/\a<=18446744073709551615):0<=a / 2^n/\a / 2^n<=18446744073709551615 :=
 ⟨Int.ediv_nonneg h.1 (Int.le_of_lt (Int.pow_pos (by decide))),Int.le_trans (Int.ediv_le_self _ h.1) h.2⟩
theorem nT {w:World} {k a b sh mo:Int} (hk:0<=k/\k<=255) (ha:0<=a/\a<=18446744073709551615) (hb:0<=b/\b<=18446744073709551615) (hs:0<=sh/\sh<=255) (hm:0<=mo/\mo<=255) (ht:nR w) :
    Calls P 5 #[.int .u8 k,.int .u64 a,.int .u64 b,.int .u8 sh,.int .u8 mo] w fun ev w'=>ev=.returned (.bool true)/\w.grownBy w' none:=by
  apply vc5;dsimp only[VC5,rb,Wt,Br,Bb,Rd,Ix,Eg,Ws,cB,nb,iq]
  try simp only[aH,mnI]
  refine(jB ht).mono fun ev w1 hh=>?_;obtain⟨rfl,g1⟩:=hh;have hx:=zM (min (Int.toNat (sh % 64)) 64) ha;have hy:=zM (min (Int.toNat (sh / 2 % 64)) 64) hb;generalize a / 2^(min (Int.toNat (sh % 64)) 64)=x at hx ⊢;generalize b / 2^(min (Int.toNat (sh / 2 % 64)) 64)=y at hy ⊢;have hK:1<=k % 6+1/\k % 6+1<=6:=by omega
  have IQ:0<=k % 6/\k % 6<=5:=by omega
  obtain⟨v,hv,l1,l2,l3,l4,l5,l6,l7,l8,b1,gv⟩:=BC w1 47 (.int .i64 0) (.int .i64 0) (.int .u64 0) (.int .u64 0) (.int .i64 (k % 6+1)) (.int .i64 0) (.int .u64 0) (.int .u64 0);refine⟨_,rfl,fun e=>absurd e (by decide),fun _=>⟨⟨by omega,by omega⟩,by omega,⟨by omega,by omega,by omega,by omega⟩,⟨by omega,by omega⟩,by omega,⟨by omega,by omega⟩,⟨by omega,by omega⟩,⟨by omega,by omega⟩,l1,l2,l3,l4,l5,l6,l7,l8,?_⟩⟩;rw[← hv];have g1v:=aB g1 gv;have z1:=g1.size;have gs:∀ {u:World} (_:Kp v u (fun q=>q=w1.heap.size)),w.grownBy u none:=fun K=>((Kp.of_none g1v).then K (fun q _ e=>e)).grown (fun q hq e=>by omega);generalize k % 6+1=K at hK b1 ⊢;refine⟨K,aA b1 0,fun W=>∃ c:Cm,bH c=true/\cC c/\c.k=K/\W.heap[w1.heap.size]?=some (.cells #[.int .i64 c.k,.int .i64 c.t,.int .u64 c.u,.int .u64 c.v] 47 (0,0))/\w.grownBy W none,⟨fun h1=>?_,fun h1=>?_⟩,?_⟩
  · have s:=aG b1 1 (.int .i64 (x / 2^1));have K1:=eZ (j:=1) (u:=.int .i64 (x / 2^1)) (Kp.refl v (fun q=>q=w1.heap.size)) rfl;exact⟨by omega,⟨by omega,by omega⟩,⟨_,aA b1 1⟩,aD b1 1,⟨K,x / 2^1,0,0⟩,by unfold bH;rw[if_pos h1];exact decide_eq_true ⟨by show 0<=x / 2^1;omega,rfl,rfl⟩,by unfold cC;simp only;omega,rfl,by simpa using s,gs K1⟩
  · refine⟨fun z W=>W=v/\z=decide (K=3∨K=6),⟨fun h=>⟨rfl,by rw[decide_eq_decide];omega⟩,fun h=>⟨rfl,by rw[decide_eq_decide];omega⟩⟩,?_⟩;rintro z W ⟨rfl,rfl⟩;refine⟨fun h2=>?_,fun h2=>?_⟩
    · have s:=aG b1 2 (.int .u64 x);have K1:=eZ (j:=2) (u:=.int .u64 x) (Kp.refl W (fun q=>q=w1.heap.size)) rfl;have h3:=of_decide_eq_true h2;exact⟨⟨_,aA b1 2⟩,aD b1 2,⟨K,0,x,0⟩,by unfold bH;rw[if_neg h1,if_neg (by show ¬ (K=2∨K=5);omega),if_pos h3];rfl,by unfold cC;simp only;omega,rfl,by simpa using s,gs K1⟩
    · have h3:=of_decide_eq_false h2;refine⟨fun z U=>U=W/\z=decide (K=2∨K=5),⟨fun h=>⟨rfl,by rw[decide_eq_decide];omega⟩,fun h=>⟨rfl,by rw[decide_eq_decide];omega⟩⟩,?_⟩;rintro z U ⟨rfl,rfl⟩;refine⟨fun h4=>?_,fun h4=>?_⟩
      · have s:=aG b1 2 (.int .u64 x);have s2:=aG s 3 (.int .u64 y);have K1:=eZ (j:=3) (u:=.int .u64 y) (eZ (j:=2) (u:=.int .u64 x) (Kp.refl U (fun q=>q=w1.heap.size)) rfl) rfl;have h5:=of_decide_eq_true h4;exact⟨⟨_,aA b1 2⟩,aD b1 2,⟨_,aA s 3⟩,aD s 3,⟨K,0,x,y⟩,by unfold bH;rw[if_neg h1,if_pos h5];rfl,by unfold cC;simp only;omega,rfl,by simpa using s2,gs K1⟩
      · have h5:=of_decide_eq_false h4;have h6:K=4:=by omega
        exact⟨⟨K,0,0,0⟩,by subst h6;rfl,by unfold cC;simp only;omega,rfl,b1,g1v⟩
  rintro W ⟨c,hc,hg,Cu,Et,gW⟩;subst Cu;refine⟨_,aA Et 0,_,aA Et 1,_,aA Et 2,_,aA Et 3,?_⟩;obtain⟨w2,CU,g2,b2⟩:=bP W #[.int .i64 c.k,.int .i64 c.t,.int .u64 c.u,.int .u64 c.v] 47;rw[← CU];have CW:=aB gW g2;have DY:∀ d∈[c],cC d:=fun d hd=>by simp at hd;subst hd;exact hg
  refine(mK (l:=[c]) (pY b2) rfl (by simp) DY (ht.kept CW)).mono fun ev w3 hh=>?_;obtain⟨rfl,g3⟩:=hh;have hp:iV [c]=dW c:=by simpa[hc,AT]using sI [] c
  rw[hp];have ll:=xC hg;have l6:=Bc (dV hc);have lb:bB (dW c):=apB (apB (kw_b _) (BH _)) (fun x hx=>by simp at hx;subst hx;decide);refine⟨_,rfl,(dN (l:=dW c) (by omega) lb).mono fun ev w4 hh=>?_⟩;have pp:eS (dW c)=([c],0,0,0):=by rw[← hp,AS DY];simp[hc]
  rw[pp]at hh;obtain⟨A4,n4,c4,rfl,CQ,o4,g4⟩:=hh;replace CQ:n4=1:=CQ;subst CQ;obtain⟨v5,G9,l1,l2,l3,l4,p5,g5⟩:=sT w4 37 (.int .i64 0) (.int .i64 0) (.int .i64 0) (.int .i64 0);refine⟨_,_,_,_,_,_,rfl,l1,l2,l3,l4,?_⟩;rw[← G9];have GR:=aB (aB g2 g3) (aB g4 g5);have Ev:=aC Et GR;have o5:=o4.kept g5;obtain⟨a5,rfl,f0,f1,f2,f3⟩:=nO (w:=v5.drew) o5.row.drew (j:=0) Nat.one_pos;simp only[Nat.zero_mul,lR]at f0 f1 f2 f3;refine⟨fun e=>absurd rfl e,fun _=>⟨fun e=>absurd rfl e,fun _=>⟨_,rfl,by omega,by omega,_,f0,_,f1,_,f2,_,f3,_,aA (w:=v5.drew) Ev 0,_,aA (w:=v5.drew) Ev 1,_,aA (w:=v5.drew) Ev 2,_,aA (w:=v5.drew) Ev 3,_,fun w=>AN _ _ c c w,fun e=>absurd e (by simp),fun _=>?_⟩⟩⟩;rw[aZ];obtain⟨j,hj⟩:∃ j:Nat,mo % 5=(j:Int):=⟨(mo % 5).toNat,by omega⟩;have Ed:j<5:=by omega
  have tj:(j:Int).toNat=j:=by omega
  rw[hj,tj];obtain⟨q1,q2⟩:=AL Ed;obtain⟨w6,EJ,g6,b6⟩:=bP v5.drew.drew sufA 9;refine⟨fun e=>absurd e (by omega),fun _=>⟨⟨by omega,by omega⟩,⟨by omega,by omega⟩,⟨by omega,by omega⟩,_,rfl,by omega,by omega,aO (gZ[j]'Ed).1,?_,aO (bN c.k++(aW c++(gZ[j]'Ed).1)),?_,?_⟩⟩
  · rw[← EJ,aN];exact(aA b6 j).trans q1
  · intro w;have e:(aO (dW c)).extract 0 ((dW c).length-1:Int).toNat=aO (bN c.k++aW c):=by
      rw[kW,show((dW c).length-1:Int).toNat=(dW c).length-1 by omega];unfold dW;rw[List.length_append,List.length_singleton,Nat.add_sub_cancel,List.take_left',List.drop_zero];rfl
    rw[e,← List.append_assoc];refine hY ?_ w;have:=wR Ed;have h2:(bN c.k++aW c).length+1=(dW c).length:=by unfold dW;simp;omega
    omega
  · rw[← EJ];have Ch:(bN c.k++(aW c++(gZ[j]'Ed).1)).length<=2^30:=by
      have:=wR Ed;have h2:(bN c.k++aW c).length+1=(dW c).length:=by unfold dW;simp;omega
      rw[← List.append_assoc,List.length_append];omega
    refine(dN Ch (apB (kw_b _) (apB (BH _) (suf_b Ed)))).mono fun ev w7 hh=>?_;obtain⟨A7,n7,c7,rfl,EN,o7,g7⟩:=hh;obtain⟨v8,G8,l1,l2,l3,l4,p8,g8⟩:=sT w7 37 (.int .i64 0) (.int .i64 0) (.int .i64 (eS (bN c.k++(aW c++(gZ[j]'Ed).1))).2.1) (.int .i64 (eS (bN c.k++(aW c++(gZ[j]'Ed).1))).2.2.1);refine⟨_,_,_,_,_,_,rfl,l1,l2,l3,l4,⟨by omega,by omega⟩,_,rfl,by omega,by omega,(gZ[j]'Ed).2,?_⟩;rw[← G8];obtain⟨w9,G2,g9,b9⟩:=bP v8 Bz 3;rw[← G2];have G:v5.grownBy w9 none:=aB (aB (show v5.grownBy w6 none from⟨g6.os,g6.tape,g6.output,g6.size,g6.block⟩) g7) (aB g8 g9);have GW:=aB gW (aB GR G);obtain⟨e1,e2⟩:=xR hc hg Ed;refine⟨by rw[aN];exact(aA b9 j).trans q2,fun z W'=>W'=w9/\z=(if c.k=4/\j=2 then 30 else(gZ[j]'Ed).2),⟨_,aA (aC Ev G) 0,fun h4=>⟨⟨by omega,by omega⟩,fun h=>⟨rfl,by rw[if_pos ⟨h4,by omega⟩]⟩,fun h=>⟨rfl,by rw[if_neg (fun q=>h (by omega))]⟩⟩,fun h4=>⟨rfl,by rw[if_neg (fun q=>h4 q.1)]⟩⟩,?_⟩;rintro z W' ⟨rfl,rfl⟩;refine⟨fun z U=>U=W'/\z=(if j=4 then 2 else 1),⟨⟨by omega,by omega⟩,fun h=>⟨rfl,by rw[if_pos (by omega)]⟩,fun h=>⟨rfl,by rw[if_neg (by omega)]⟩⟩,?_⟩;rintro z U ⟨rfl,rfl⟩;refine⟨fun _=>⟨_,aA (aC p8 g9) 0,?_,GW⟩,fun e=>absurd e1 e⟩;rw[e2,decide_eq_true rfl]
end Go.Proofs.YtdlomlmijdifbaaGreatDoor
