/- Own texts, packed: U8, U9, U10. -/
import Derived.Test.YtlieaecnllkefaaGreatGOg
import Derived.Test.YtlieaecnllkefaaGreatGPg
import Derived.Test.YtlieaecnllkefaaGreatGQg
import Derived.Test.YtlieaecnllkefaaGreatGYg
set_option linter.unusedVariables false
set_option linter.unusedSimpArgs false
set_option maxHeartbeats 4000000
set_option maxRecDepth 100000
namespace Go.Proofs.YtlieaecnllkefaaGreat
open Go Go.V Go.RowKit
theorem gK.put{L:List (Edge×Bool)}{now:List Edge}{e:Edge}(h:gK L now):gK (io L e true) (now++[e]):=by
 intro a;rw[rJ];by_cases ha:e=a
 ·rw[if_pos ha];simp[ha]
 ·rw[if_neg ha,h a];refine decide_eq_decide.2 ?_;simp only[List.mem_append,List.mem_singleton];exact⟨.inl,fun h=>h.resolve_right fun e'=>ha e'.symm⟩
theorem yw {w:World} {A B:OA} {n c m d:Nat} {key:List Edge} {l:List aU} (hA:bB w A (edges key)) (hn:n=key.length) (hB:bB w B (cw l)) (hm:m=l.length) (Ih:n<=2^30) (M6:m<=2^30) (hk:eW key) (hl:lT l) (Et:fp key) :
    Calls P 68 #[.slice A n c,.slice B m d] w fun ev w'=>ev=.returned (.bool (nT key l))/\w.grownBy w' none:=by
  apply vc68;dsimp only[VC68,rb,Wt,Br,Bb,Rd,Ix,Eg,Ws,nb,ad,al,iq]
  try simp only[aG]
  have hM:tg (w.alloc (.map #[] 0)) w.heap.size []:=dh.made w;have g1:=World.grownBy_alloc w (.map #[] 0) none;obtain⟨w1,Ez⟩:∃ w1,w1=w.alloc (.map #[] 0):=⟨_,rfl⟩;rw[← Ez]at hM g1 ⊢;refine⟨fun mm i w'=>∃ (p:Nat) (L:List (Edge×Bool)),i=(p:Int)/\p<=key.length/\mm=key.length-p/\tg w' w.heap.size L/\gK L (key.take p)/\w.grownBy w' none,
    ⟨_,0,[],rfl,by omega,rfl,hM,fun a=>by simp[dy],g1⟩,?_⟩
  rintro mm i w2 ⟨p,L,rfl,hp,rfl,Mj,FW,hg⟩;have tp:(p:Int).toNat=p:=by omega
  rw[tp];refine⟨fun DF=>?_,fun DK=>?_⟩
  · have lp:p<key.length:=by omega
    have IY:=hk _ (List.getElem_mem lp);obtain⟨a,e1,e2,e3⟩:=fz (hA.kept_none hg) lp;obtain⟨w3,hE,pE0,qE0,pE1,qE1,bE,gE⟩:=wg w2 45 (.int .u32 0) (.int .u32 0) (.int .u32 key[p].1) (.int .u32 key[p].2);refine⟨a,e1,by omega,by omega,_,e2,_,e3,pE0,qE0,pE1,qE1,?_⟩;rw[← hE];have okk:mY (key[p].1,key[p].2):=⟨IY.1,IY.2⟩;obtain⟨W2,k1,k2,k3⟩:=dh.update Ai Tryz.underlying114 (Mj.kept gE) okk true;refine⟨_,aA bE 0,_,aA bE 1,W2,k1,⟨by omega,by omega⟩,key.length-(p+1),by omega,p+1,io L key[p] true,by omega,by omega,rfl,k2,?_,aP (aB hg gE) k3 (fun k hk=>by cases hk;omega)⟩;rw[List.take_succ_eq_append_getElem lp];exact FW.put
  · have GG:p=key.length:=by omega
    subst GG;rw[List.take_length]at FW;refine⟨fun mm i w'=>∃ (p:Nat) (L:List (Edge×Bool)) (now:List Edge),i=(p:Int)/\p<=l.length/\mm=l.length-p/\tg w' w.heap.size L/\gK L now/\fp now/\w.grownBy w' none/\nT key l=nT now (l.drop p),
      ⟨_,0,L,key,rfl,by omega,rfl,Mj,FW,Et,hg,rfl⟩,?_⟩
    rintro mm i w4 ⟨p,L,now,rfl,hp,rfl,Ob,FW,Et,hg,E8⟩;have tp:(p:Int).toNat=p:=by omega
    rw[tp];refine⟨fun DF=>?_,fun DK=>?_⟩
    · have lp:p<l.length:=by omega
      rw[List.drop_eq_getElem_cons lp,nT]at E8;have Hs:=hl _ (List.getElem_mem lp);obtain⟨a,e1,e2,e3,e4,e5⟩:=eS (hB.kept_none hg) lp;obtain⟨w5,hE,pE0,qE0,pE1,qE1,pE2,qE2,pE3,qE3,bE,gE⟩:=ud w4 62 (.int .i64 0) (.int .u32 0) (.int .u32 0) (.bool false) (.int .i64 l[p].t) (.int .u32 l[p].u) (.int .u32 l[p].v) (.bool l[p].add);refine⟨a,e1,by omega,by omega,_,e2,_,e3,_,e4,_,e5,pE0,qE0,pE1,qE1,pE2,qE2,pE3,qE3,?_⟩;rw[← hE];have gd:=aI (aD w5 none);have bEW:=aE bE gd;have LA:=(Ob.kept gE).kept gd;have GL:=aB (aB hg gE) gd;have okk:mY (l[p].u,l[p].v):=⟨Hs.1.1,Hs.1.2⟩;refine⟨_,aA bEW 1,_,aA bEW 2,_,C8 LA okk,_,aA bEW 3,_,fun w=>qw _ _ _ _ w,fun h5=>?_,fun h5=>?_⟩
      · have:=(FW.turn (e:=l[p]) Et).2 (of_decide_eq_true h5);rw[E8,this];exact⟨rfl,GL⟩
      · have DJ:bX now l[p]≠none:=fun h=>of_decide_eq_false h5 ((FW.turn (e:=l[p]) Et).1 h);obtain⟨x,hx⟩:∃ x,bX now l[p]=some x:=by
          cases hq:bX now l[p]with
          | none=>exact absurd hq DJ
          | some x=>exact⟨x,rfl⟩
        obtain⟨W2,k1,k2,k3⟩:=dh.update Ai Tryz.underlying114 LA okk l[p].add;refine⟨_,aA bEW 1,_,aA bEW 2,_,aA bEW 3,W2,k1,⟨by omega,by omega⟩,l.length-(p+1),by omega,p+1,io L (l[p].u,l[p].v) l[p].add,x,by omega,by omega,rfl,k2,FW.upd hx,(gM hx).1,aP GL k3 (fun k hk=>by cases hk;omega),?_⟩;rw[E8,hx]
    · have GG:p=l.length:=by omega
      subst GG;rw[List.drop_length]at E8;rw[E8];exact⟨rfl,hg⟩
theorem add0(a:Addr):a.add 0=a:=by cases a;unfold Addr.add;split <;>simp_all
theorem su{w:World}{A B:OA}{n c m d:Nat}{key:List Edge}{l:List aU}(hA:bB w A (edges key))(hn:n=key.length)(hB:bB w B (cw l))(hm:m=l.length)(Ih:n<=2^20)(M6:m<=2^19)(hk:eW key)(hl:lT l)
    (ha:lR key=true->(kJ key).length<=2^20) (hd:jY (mR l) none l=true->(ez (mR l) l).length<=2^20) :
    Calls P 36 #[.slice A n c,.slice B m d] w fun ev w'=>∃(A':OA)(n' c':Nat),ev=.returned (.tuple #[.slice A' n' c',.int .i64 (fE key l)])/\aH w' w.heap.size 5 1 A' n' c' (cz (if fE key l=0 then ic (mR l) key l else []))/\w.grownBy w' none:=by
  apply vc36;dsimp only[VC36,rt,Br,Rd,Ix,Ap,cB,cS,cT,nb,iq]
  try simp only[aG]
  have bad:∀(e:Int)(w':World),fE key l=e->e≠0->w.grownBy w' none->∃(A':OA)(n' c':Nat),Ending.returned (.tuple #[.slice none 0 0,.int .i64 e])=.returned (.tuple #[.slice A' n' c',.int .i64 (fE key l)])/\aH w' w.heap.size 5 1 A' n' c' (cz (if fE key l=0 then ic (mR l) key l else []))/\w.grownBy w' none:=by
    intro e w' he h0 g;rw[he,if_neg h0];exact⟨_,_,_,rfl,aH.nil _ _ _ _,g⟩
  refine(sC hA hn Ih hk).mono fun ev w1 hh=>?_;obtain⟨A1,n1,c1,rfl,o1,g1⟩:=hh;refine⟨_,_,_,_,rfl,fun h=>?_,fun h=>?_⟩
  · have EQ:¬ lR key=true:=fun e=>h (if_pos e);exact bad 23 _ (by unfold fE;rw[if_pos (.inl (by simpa using EQ))]) (by omega) g1
  have EQ:lR key=true:=by
    by_cases e:lR key=true
    · exact e
    · rw[if_neg e]at h;omega
  rw[if_pos EQ]at o1;refine⟨fun h0=>?_,fun h0=>?_⟩
  · have:l=[]:=List.eq_nil_of_length_eq_zero (by omega);exact bad 23 _ (by unfold fE;rw[if_pos (.inr this)]) (by omega) g1
  have l0:0<l.length:=by omega
  have DJ:l≠[]:=fun e=>by subst e;simp at l0
  obtain⟨a,e1,e2,_⟩:=eS (hB.kept_none g1) l0;rw[Nat.zero_mul,add0]at e2;have LX:l[0].t=mR l:=by cases l with | nil=>exact absurd rfl DJ | cons e l=>rfl
  rw[LX]at e2;refine⟨a,e1,by omega,by omega,_,e2,(si (t0:=mR l) (hB.kept_none g1) hm (by omega) hl).mono fun ev w2 hh=>?_⟩;obtain⟨A2,n2,c2,rfl,o2,g2⟩:=hh;have Fe:=aB g1 g2;refine⟨_,_,_,_,rfl,fun h=>?_,fun h=>?_⟩
  · have ED:¬ jY (mR l) none l=true:=fun e=>h (if_pos e);rw[if_neg ED];exact bad 23 _ (by unfold fE;rw[if_neg (by rw[EQ];simp[DJ]),if_pos (by simpa using ED)]) (by omega) Fe
  have ED:jY (mR l) none l=true:=by
    by_cases e:jY (mR l) none l=true
    · exact e
    · rw[if_neg e]at h;omega
  rw[if_pos ED]at o2;have R0:=(nZ hk (by omega)).1 EQ;refine(yw (hA.kept_none Fe) hn (hB.kept_none Fe) hm (by omega) (by omega) hk hl R0.rise).mono fun ev w3 hh=>?_;obtain⟨rfl,g3⟩:=hh;have DP:=aB Fe g3;refine⟨_,rfl,fun h=>?_,fun h=>?_⟩
  · exact bad 25 _ (by unfold fE;rw[if_neg (by rw[EQ];simp[DJ]),if_neg (by rw[ED];simp),if_pos h]) (by omega) DP
  have hok:fE key l=0:=by unfold fE;rw[if_neg (by rw[EQ];simp[DJ]),if_neg (by rw[ED];simp),if_neg h]
  rw[hok,if_pos rfl];have la:=ha EQ;have ld:=hd ED;have o1':=(o1.kept g2).kept g3;have pa:=iQ (dY key) (by omega);have pd:=iQ (dq (mR l) l) (by omega);refine(nd o1'.row (dj o1) (dY key) (by rw[dj o1];omega)).mono fun ev w4 hh=>?_;obtain⟨A4,n4,c4,rfl,o4,g4⟩:=hh;have n4l:=dj o4;refine⟨_,_,_,rfl,by omega,?_⟩;have ga:=World.grownBy_alloc w4 (.cells #[.int .u64 (n4:Int)] 22) none;have IL:bB (w4.alloc (.cells #[.int .u64 (n4:Int)] 22)) (some ⟨w4.heap.size,0,none⟩) (xJ [n4]):=dQ w4 _ 22;refine(gL (l:=[n4]) IL rfl (by simp;omega) (by simp)).mono fun ev w5 hh=>?_;obtain⟨A5,n5,c5,rfl,o5,g5⟩:=hh;rw[jN]at o5;have GB:=aB ga g5;replace o5:=o5.mono (base':=w4.heap.size) ga.size;have n5l:=dj o5;have p5:=dk (v:=n4) (by omega);obtain⟨A6,n6,c6,w6,f1,o6,f3,_⟩:=bD o5 (o4.kept GB).row n4l (dw o4) (by omega) GB.size;have P1:=aP GB f3 o5.block_ge;have n6l:=dj o6;refine⟨_,_,_,rfl,_,_,_,w6,f1,?_⟩;have o2':=((o2.kept g3).kept g4).kept P1;refine(nd o2'.row (dj o2) (dq _ _) (by rw[dj o2];omega)).mono fun ev w7 hh=>?_;obtain⟨A7,n7,c7,rfl,o7,g7⟩:=hh;have n7l:=dj o7;have IA:=aB P1 g7;rw[List.length_append]at n6l;obtain⟨A8,n8,c8,w8,q1,o8,q3,_⟩:=bD (o6.kept g7) o7.row n7l (dw o7) (by omega) IA.size;have SJ:=aP IA q3 o6.block_ge;refine⟨_,_,_,rfl,_,_,_,w8,q1,_,_,_,rfl,?_,aB (aB DP g4) SJ⟩;have:=o8.mono (base':=w.heap.size) (Nat.le_trans DP.size g4.size);rw[n4l,List.append_assoc]at this;exact this
theorem vT {w:World} {A:OA} {n c:Nat} {x:List Int} (hr:bB w A (cz x)) (hn:n=x.length) (hc:n<=c) (hb:aR x) (hl:x.length<=2^16) :
    Calls P 86 #[.slice A n c] w fun ev w'=>∃(A1:OA)(n1 c1:Nat)(A2:OA)(n2 c2:Nat)(ok:Bool),ev=.returned (.tuple #[.slice A1 n1 c1,.slice A2 n2 c2,.bool ok])/\w.grownBy w' none ∧
      (ok=true->∃ a d:List Int,bB w' A1 (cz a)/\n1=a.length/\n1<=c1/\aR a/\a.length<=8*x.length/\bB w' A2 (cz d)/\n2=d.length/\n2<=c2/\aR d/\d.length<=8*x.length/\∀ a0 d0,aR a0->aR d0->x=cy (cW a0).length++(cW a0++cW d0)->a=a0/\d=d0) ∧
      (ok=false->∀ a0 d0,aR a0->aR d0->x=cy (cW a0).length++(cW a0++cW d0)->False):=by
  apply vc86;dsimp only[VC86,rt,Br,cT,iq]
  try simp only[aG]
  refine(kR (most:=9223372036854775807) hr hn hb (by omega)).mono fun ev w1 hh=>?_;obtain⟨rfl,g1⟩:=hh;have ht:=iW (most:=9223372036854775807) (b:=x) (fun y hy=>(hb y hy).1);have canon:∀ a0 d0,aR a0->aR d0->x=cy (cW a0).length++(cW a0++cW d0)->cN 9223372036854775807 x=(((cW a0).length:Int),(cy (cW a0).length).length,0):=by
    intro a0 d0 h1 h2 hx;have hs:(cW a0).length<=x.length:=by rw[hx];simp only[List.length_append];omega
    rw[hx];exact eZ (by omega) (by omega) _
  obtain⟨v,k,e,hv⟩:∃ v k e,cN 9223372036854775807 x=(v,k,e):=⟨_,_,_,rfl⟩;rw[hv]at ht canon ⊢;simp only at ht;refine⟨v,(k:Int),e,rfl,⟨by omega,by omega⟩,fun he=>?_,fun he=>?_⟩
  · refine⟨_,_,_,_,_,_,_,rfl,g1,fun h=>(by cases h),fun _ a0 d0 h1 h2 hx=>?_⟩;have:=canon a0 d0 h1 h2 hx;simp only[Prod.mk.injEq]at this;exact he this.2.2
  have tk:(k:Int).toNat=k:=by omega
  rw[tk];refine⟨by omega,fun ET=>?_,fun DQ=>?_⟩
  · refine⟨_,_,_,_,_,_,_,rfl,g1,fun h=>(by cases h),fun _ a0 d0 h1 h2 hx=>?_⟩;have:=canon a0 d0 h1 h2 hx;simp only[Prod.mk.injEq]at this;have OG:=congrArg List.length hx;simp only[List.length_append]at OG;omega
  obtain⟨q,rfl⟩:∃ q:Nat,v=(q:Int):=⟨v.toNat,by omega⟩;have tq:(q:Int).toNat=q:=by omega
  rw[tq];have Ma:k<=n:=by omega
  have r1:bB w1 (bN A c k 1) (cz (x.drop k)):=pk (hr.kept_none g1) (by omega);have r1':bB w1 (bN A c k 1) (cz ((x.drop k).take q)):=by
    intro j u hj;rw[show cz ((x.drop k).take q)=(cz (x.drop k)).take q by rw[cz,List.map_take],List.getElem?_take]at hj;split at hj
    · exact r1 j u hj
    · cases hj
  have ldk:(x.drop k).length=x.length-k:=List.length_drop;have En:aR (x.drop k):=fun y hy=>hb y (List.mem_of_mem_drop hy);refine⟨⟨by omega,by omega⟩,(lE r1' (by rw[List.length_take];omega) (by omega) (fun y hy=>En y (List.mem_of_mem_take hy)) (by rw[List.length_take];omega)).mono fun ev w2 hh=>?_⟩;obtain⟨g2,GF⟩:=hh;have r2:bB w2 (bN (bN A c k 1) (c-k) q 1) (cz ((x.drop k).drop q)):=pk (r1.kept_none g2) (by omega)
  -- what the parts are, if there are any
  have parts:∀ a0 d0,aR a0->aR d0->x=cy (cW a0).length++(cW a0++cW d0)->(x.drop k).take q=cW a0/\(x.drop k).drop q=cW d0/\a0.length<2^62/\d0.length<2^62:=by
    intro a0 d0 h1 h2 hx;have:=canon a0 d0 h1 h2 hx;simp only[Prod.mk.injEq]at this;have hs:=BX h1 h2 hx;have hq:q=(cW a0).length:=by omega
    have RL:x.drop k=cW a0++cW d0:=by rw[this.2.1,hx];exact List.drop_left' rfl
    rw[RL,hq];exact⟨List.take_left' rfl,List.drop_left' rfl,by omega,by omega⟩
  have go:∀ (A1:OA) (n1 c1:Nat) (e1:Int) (Pk:xu ((x.drop k).take q) (.returned (.tuple #[.slice A1 n1 c1,.int .i64 e1])) w2),∃(x32A:OA)(x32n x32c:Nat)(x32:Int),Ending.returned (.tuple #[.slice A1 n1 c1,.int .i64 e1])=.returned (.tuple #[.slice x32A x32n x32c,.int .i64 x32])/\True:=fun A1 n1 c1 e1 _=>⟨_,_,_,_,rfl,trivial⟩;have gd2:=aB g1 g2;rcases GF with⟨A3,n3,c3,o,rfl,ro,FP,HM,E7,Hz⟩ | ⟨rfl,FI⟩
  · have Fj:=md HM Hz;rw[List.length_take]at Fj;refine⟨_,_,_,_,rfl,⟨by omega,by omega⟩,(lE r2 (by rw[List.length_drop];omega) (by omega) (fun y hy=>En y (List.mem_of_mem_drop hy)) (by rw[List.length_drop];omega)).mono fun ev w3 hh=>?_⟩;obtain⟨g3,Hn⟩:=hh;have DP:=aB gd2 g3;rcases Hn with⟨A4,n4,c4,o',rfl,ro',IR,Jc,Q3,Ie⟩ | ⟨rfl,Lm⟩
    · have MG:=md Jc Ie;rw[List.length_drop]at MG;refine⟨_,_,_,_,rfl,fun _=>⟨_,_,_,_,_,_,_,rfl,DP,fun _=>⟨o,o',ro.kept_none g3,FP.1,FP.2,HM,by omega,ro',IR.1,IR.2,Jc,by omega,fun a0 d0 h1 h2 hx=>?_⟩,fun h=>?_⟩,fun h=>absurd rfl h⟩
      · obtain⟨p1,p2,p3,p4⟩:=parts a0 d0 h1 h2 hx;exact⟨vP HM h1 (by omega) (by omega) (by rw[Hz,p1]),vP Jc h2 (by omega) (by omega) (by rw[Ie,p2])⟩
      · simp at h
    · refine⟨_,_,_,_,rfl,fun _=>⟨_,_,_,_,_,_,_,rfl,DP,fun h=>(by simp at h),fun _ a0 d0 h1 h2 hx=>?_⟩,fun h=>absurd rfl h⟩;obtain⟨p1,p2,p3,p4⟩:=parts a0 d0 h1 h2 hx;exact Lm d0 h2 p4 p2.symm
  · refine⟨_,_,_,_,rfl,⟨by omega,by omega⟩,(lE r2 (by rw[List.length_drop];omega) (by omega) (fun y hy=>En y (List.mem_of_mem_drop hy)) (by rw[List.length_drop];omega)).mono fun ev w3 hh=>?_⟩;obtain⟨g3,Hn⟩:=hh;have DP:=aB gd2 g3;have fin:∀(A4:OA)(n4 c4:Nat),∃(A1:OA)(n1 c1:Nat)(A2:OA)(n2 c2:Nat)(ok:Bool),Ending.returned (.tuple #[.slice none 0 0,.slice A4 n4 c4,.bool false])=.returned (.tuple #[.slice A1 n1 c1,.slice A2 n2 c2,.bool ok])/\w.grownBy w3 none ∧
      (ok=true->∃ a d:List Int,bB w3 A1 (cz a)/\n1=a.length/\n1<=c1/\aR a/\a.length<=8*x.length/\bB w3 A2 (cz d)/\n2=d.length/\n2<=c2/\aR d/\d.length<=8*x.length/\∀ a0 d0,aR a0->aR d0->x=cy (cW a0).length++(cW a0++cW d0)->a=a0/\d=d0) ∧
      (ok=false->∀ a0 d0,aR a0->aR d0->x=cy (cW a0).length++(cW a0++cW d0)->False):=by
      intro A4 n4 c4;refine⟨_,_,_,_,_,_,_,rfl,DP,fun h=>(by cases h),fun _ a0 d0 h1 h2 hx=>?_⟩;obtain⟨p1,p2,p3,p4⟩:=parts a0 d0 h1 h2 hx;exact FI a0 h1 p3 p1.symm
    rcases Hn with⟨A4,n4,c4,o',rfl,_⟩ | ⟨rfl,_⟩
    · exact⟨_,_,_,_,rfl,fun h=>absurd h (by omega),fun _=>fin _ _ _⟩
    · exact⟨_,_,_,_,rfl,fun h=>absurd h (by omega),fun _=>fin _ _ _⟩
abbrev Dy:Value:=.tuple #[.slice none 0 0,.slice none 0 0,.int .i64 21]
def C6(x:List Int)(n t0 count:Int)(ev:Ending)(w':World):Prop :=
 (∃(A1:OA)(n1 c1:Nat)(A2:OA)(n2 c2:Nat)(key:List Edge)(l:List aU),ev=.returned (.tuple #[.slice A1 n1 c1,.slice A2 n2 c2,.int .i64 0])/\(bB w' A1 (edges key)/\n1=key.length/\n1<=c1/\(A1=none->c1=0))/\(bB w' A2 (cw l)/\n2=l.length/\n2<=c2/\(A2=none->c2=0))/\l.length<=2^20/\qf x n t0 count key l) ∨
 (ev=.returned Dy/\∀ key l,¬ qf x n t0 count key l)
theorem xe {w:World} {A:OA} {k c:Nat} {x:List Int} {n t0 count:Int} (hr:bB w A (cz x)) (hk:k=x.length) (hc:k<=c) (hb:aR x) (hl:x.length<2^13) (EU:count<=9223372036854775807) :
    Calls P 49 #[.slice A k c,.int .u64 n,.int .i64 t0,.int .i64 count] w fun ev w'=>w.grownBy w' none/\C6 x n t0 count ev w':=by
  apply vc49;dsimp only[VC49,rt,Br,cB,cT,iq]
  try simp only[aG]
  refine(vT hr hk hc hb (by omega)).mono fun ev w1 hh=>?_;obtain⟨A1,n1,c1,A2,n2,c2,ok,rfl,g1,Gj,FI⟩:=hh;refine⟨_,_,_,_,_,_,_,rfl,fun h=>⟨g1,.inr ⟨rfl,fun key l hk=>?_⟩⟩,fun h=>⟨fun HL=>⟨g1,.inr ⟨rfl,fun key l hk=>?_⟩⟩,fun HL=>?_⟩⟩
  · exact FI h _ _ (dY key) (dq t0 l) hk.eq
  · have h1:=hk.len;have h2:=hk.ok.ne;have:l.length≠0:=fun e=>h2 (List.eq_nil_of_length_eq_zero e);omega
  obtain⟨a,d,ra,ha,R5,RX,TA,rd,hd,Lh,En,JM,GO⟩:=Gj (by simpa using h);refine(xo (n:=n) ra ha R5 RX (by omega)).mono fun ev w2 hh=>?_;obtain⟨g2,GF⟩:=hh;have Fe:=aB g1 g2;rcases GF with⟨A3,n3,c3,key,rfl,rk,Gs,Ll,Oo,Ni⟩ | ⟨rfl,FP⟩
  · refine⟨_,_,_,_,rfl,(pW (t0:=t0) (count:=count) (n:=n) (rd.kept_none g2) hd Lh En (by omega) EU).mono fun ev w3 hh=>?_⟩;obtain⟨g3,Hn⟩:=hh;have DP:=aB Fe g3;rcases Hn with⟨A4,n4,c4,l,rfl,rl,GJ,Iu,SB,Nd⟩ | ⟨rfl,FP⟩
    · refine⟨_,_,_,_,rfl,fun h=>absurd rfl h,fun _=>⟨fun h=>absurd rfl h,fun _=>?_⟩⟩;obtain⟨k1,k2,k3⟩:=Ni;obtain⟨l1,l2,l3,l4⟩:=Nd;have Mb:=C0 key;have Rg:=(jb l1).2;rw[← k3]at Mb;rw[← l4]at Rg;have DJ:l≠[]:=fun e=>by rw[e]at l2;simp at l2;omega
      have ht:=l1.t0 DJ;refine(su (rk.kept_none g3) Gs rl GJ (by omega) (by omega) k1.edgesB l1.evtsB (fun _=>by rw[← k3];omega) (fun _=>by rw[ht,← l4];omega)).mono fun ev w4 hh=>?_;obtain⟨A5,n5,c5,rfl,o5,g4⟩:=hh;have Hj:=aB DP g4;have hB:=uo k1.edgesB k1.len l1.evtsB;rw[ht]at hB o5;have same:∀ key' l',qf x n t0 count key' l'->key'=key/\l'=l:=by
        intro key' l' D8;obtain⟨e1,e2⟩:=GO _ _ (dY key') (dq t0 l') D8.eq;exact⟨xt D8.ok.adj k1 (by rw[← e1,k3]),nr D8.ok.del l1 (by rw[← e2,l4])⟩
      refine⟨_,_,_,_,rfl,fun h=>⟨Hj,.inr ⟨rfl,fun key' l' D8=>?_⟩⟩,fun h=>?_⟩
      · obtain⟨rfl,rfl⟩:=same _ _ D8;exact h (hB.2 D8.ok)
      have hz:fE key l=0:=by simpa using h
      have hok:=hB.1 hz;rw[if_pos hz]at o5;refine(iB o5.row (dj o5) (hr.kept_none Hj) hk (kG _ _ _) hb).mono fun ev w5 hh=>?_;obtain⟨rfl,rfl⟩:=hh;refine⟨_,rfl,fun h=>⟨Hj,.inr ⟨rfl,fun key' l' D8=>?_⟩⟩,fun h=>⟨Hj,.inl ⟨_,_,_,_,_,_,key,l,rfl,⟨(rk.kept_none g3).kept_none g4,Gs,Ll,Oo⟩,⟨rl.kept_none g4,GJ,Iu,SB⟩,by omega,hok,k2,l3,l2,?_⟩⟩⟩
      · obtain⟨rfl,rfl⟩:=same _ _ D8;exact of_decide_eq_false h D8.eq.symm
      · have:decide (ic t0 key l=x)=true:=by simpa using h
        exact(of_decide_eq_true this).symm
    · refine⟨_,_,_,_,rfl,fun h=>absurd rfl h,fun _=>⟨fun _=>⟨DP,.inr ⟨rfl,fun key' l' D8=>?_⟩⟩,fun h=>absurd (by omega) h⟩⟩;obtain⟨e1,e2⟩:=GO _ _ (dY key') (dq t0 l') D8.eq;exact FP l' ⟨D8.ok.del,D8.len,D8.evtV,e2⟩
  · have fin:∀ key' l',¬ qf x n t0 count key' l':=fun key' l' D8=>by
      obtain⟨e1,e2⟩:=GO _ _ (dY key') (dq t0 l') D8.eq;exact FP key' ⟨D8.ok.adj,D8.keyV,e1⟩
    refine⟨_,_,_,_,rfl,(pW (t0:=t0) (count:=count) (n:=n) (rd.kept_none g2) hd Lh En (by omega) EU).mono fun ev w3 hh=>?_⟩;obtain⟨g3,Hn⟩:=hh;have DP:=aB Fe g3;rcases Hn with⟨A4,n4,c4,l,rfl,_⟩ | ⟨rfl,_⟩
    · exact⟨_,_,_,_,rfl,fun _=>⟨DP,.inr ⟨rfl,fin⟩⟩,fun h=>absurd (by omega) h⟩
    · exact⟨_,_,_,_,rfl,fun _=>⟨DP,.inr ⟨rfl,fin⟩⟩,fun h=>absurd (by omega) h⟩
end Go.Proofs.YtlieaecnllkefaaGreat
