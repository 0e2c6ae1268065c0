/- Own texts, packed: U8, U9, U10, U11, U12, U13, U14, U15. -/
import Derived.Test.YtlieaecnllkefaaGreatGOg
import Derived.Test.YtlieaecnllkefaaGreatGPg
import Derived.Test.YtlieaecnllkefaaGreatGQg
import Derived.Test.YtlieaecnllkefaaGreatGYg
import Derived.Test.YtlieaecnllkefaaGreatGNg
set_option linter.unusedVariables false
set_option linter.unusedSimpArgs false
set_option maxHeartbeats 4000000
set_option maxRecDepth 100000
namespace Go.Proofs.YtlieaecnllkefaaGreat
open Go Go.V Go.RowKit
theorem iN.put{L:List (Edge×Bool)}{now:List Edge}{e:Edge}(h:iN L now):iN (jc L e true) (now++[e]):=by
 intro a;rw[uu];by_cases ha:e=a
 ·rw[if_pos ha];simp[ha]
 ·rw[if_neg ha,h a];refine decide_eq_decide.2 ?_;simp only[List.mem_append,List.mem_singleton];exact⟨.inl,fun h=>h.resolve_right fun e'=>ha e'.symm⟩
theorem Aj {w:World} {A B:OA} {n c m d:Nat} {key:List Edge} {l:List aW} (hA:aZ w A (edges key)) (hn:n=key.length) (hB:aZ w B (cE l)) (hm:m=l.length) (IM:n<=2^30) (PI:m<=2^30) (hk:fJ key) (hl:ny l) (GI:fW key) :
    Calls P 68 #[.slice A n c,.slice B m d] w fun ev w'=>ev=.returned (.bool (fq key l))/\w.grownBy w' none:=by
  apply vc68;dsimp only[VC68,rb,Wt,Br,Bb,Rd,Ix,Eg,Ws,nb,ad,al,iq]
  try simp only[aF]
  have hM:vx (w.alloc (.map #[] 0)) w.heap.size []:=dN.made w;have g1:=World.grownBy_alloc w (.map #[] 0) none;obtain⟨w1,GB⟩:∃ w1,w1=w.alloc (.map #[] 0):=⟨_,rfl⟩;rw[← GB]at hM g1 ⊢;refine⟨fun mm i w'=>∃ (p:Nat) (L:List (Edge×Bool)),i=(p:Int)/\p<=key.length/\mm=key.length-p/\vx w' w.heap.size L/\iN L (key.take p)/\w.grownBy w' none,
    ⟨_,0,[],rfl,by omega,rfl,hM,fun a=>by simp[d8],g1⟩,?_⟩
  rintro mm i w2 ⟨p,L,rfl,hp,rfl,PR,IU,hg⟩;have tp:(p:Int).toNat=p:=by omega
  rw[tp];refine⟨fun FE=>?_,fun FJ=>?_⟩
  · have lp:p<key.length:=by omega
    have L7:=hk _ (List.getElem_mem lp);obtain⟨a,e1,e2,e3⟩:=ez (hA.kept_none hg) lp;obtain⟨w3,hE,pE0,qE0,pE1,qE1,bE,gE⟩:=yq w2 45 (.int .u32 0) (.int .u32 0) (.int .u32 key[p].1) (.int .u32 key[p].2);refine⟨a,e1,by omega,by omega,_,e2,_,e3,pE0,qE0,pE1,qE1,?_⟩;rw[← hE];have okk:oS (key[p].1,key[p].2):=⟨L7.1,L7.2⟩;obtain⟨W2,k1,k2,k3⟩:=dN.update Cf Tryz.underlying114 (PR.kept gE) okk true;refine⟨_,aB bE 0,_,aB bE 1,W2,k1,⟨by omega,by omega⟩,key.length-(p+1),by omega,p+1,jc L key[p] true,by omega,by omega,rfl,k2,?_,aN (aA hg gE) k3 (fun k hk=>by cases hk;omega)⟩;rw[List.take_succ_eq_append_getElem lp];exact IU.put
  · have Ih:p=key.length:=by omega
    subst Ih;rw[List.take_length]at IU;refine⟨fun mm i w'=>∃ (p:Nat) (L:List (Edge×Bool)) (now:List Edge),i=(p:Int)/\p<=l.length/\mm=l.length-p/\vx w' w.heap.size L/\iN L now/\fW now/\w.grownBy w' none/\fq key l=fq now (l.drop p),
      ⟨_,0,L,key,rfl,by omega,rfl,PR,IU,GI,hg,rfl⟩,?_⟩
    rintro mm i w4 ⟨p,L,now,rfl,hp,rfl,RI,IU,GI,hg,Hq⟩;have tp:(p:Int).toNat=p:=by omega
    rw[tp];refine⟨fun FE=>?_,fun FJ=>?_⟩
    · have lp:p<l.length:=by omega
      rw[List.drop_eq_getElem_cons lp,fq]at Hq;have Jd:=hl _ (List.getElem_mem lp);obtain⟨a,e1,e2,e3,e4,e5⟩:=eE (hB.kept_none hg) lp;obtain⟨w5,hE,pE0,qE0,pE1,qE1,pE2,qE2,pE3,qE3,bE,gE⟩:=nY w4 62 (.int .i64 0) (.int .u32 0) (.int .u32 0) (.bool false) (.int .i64 l[p].t) (.int .u32 l[p].u) (.int .u32 l[p].v) (.bool l[p].add);refine⟨a,e1,by omega,by omega,_,e2,_,e3,_,e4,_,e5,pE0,qE0,pE1,qE1,pE2,qE2,pE3,qE3,?_⟩;rw[← hE];have gd:=aH (aC w5 none);have bEW:=aI bE gd;have Pe:=(RI.kept gE).kept gd;have JE:=aA (aA hg gE) gd;have okk:oS (l[p].u,l[p].v):=⟨Jd.1.1,Jd.1.2⟩;refine⟨_,aB bEW 1,_,aB bEW 2,_,E8 Pe okk,_,aB bEW 3,_,fun w=>Ba _ _ _ _ w,fun h5=>?_,fun h5=>?_⟩
      · have:=(IU.turn (e:=l[p]) GI).2 (of_decide_eq_true h5);rw[Hq,this];exact⟨rfl,JE⟩
      · have FG:cu now l[p]≠none:=fun h=>of_decide_eq_false h5 ((IU.turn (e:=l[p]) GI).1 h);obtain⟨x,hx⟩:∃ x,cu now l[p]=some x:=by
          cases hq:cu now l[p]with
          | none=>exact absurd hq FG
          | some x=>exact⟨x,rfl⟩
        obtain⟨W2,k1,k2,k3⟩:=dN.update Cf Tryz.underlying114 Pe okk l[p].add;refine⟨_,aB bEW 1,_,aB bEW 2,_,aB bEW 3,W2,k1,⟨by omega,by omega⟩,l.length-(p+1),by omega,p+1,jc L (l[p].u,l[p].v) l[p].add,x,by omega,by omega,rfl,k2,IU.upd hx,(iP hx).1,aN JE k3 (fun k hk=>by cases hk;omega),?_⟩;rw[Hq,hx]
    · have Ih:p=l.length:=by omega
      subst Ih;rw[List.drop_length]at Hq;rw[Hq];exact⟨rfl,hg⟩
theorem add0(a:Addr):a.add 0=a:=by cases a;unfold Addr.add;split <;>simp_all
theorem uM{w:World}{A B:OA}{n c m d:Nat}{key:List Edge}{l:List aW}(hA:aZ w A (edges key))(hn:n=key.length)(hB:aZ w B (cE l))(hm:m=l.length)(IM:n<=2^20)(PI:m<=2^19)(hk:fJ key)(hl:ny l)
    (ha:nv key=true->(fF key).length<=2^20) (hd:kl (qo l) none l=true->(db (qo l) l).length<=2^20) :
    Calls P 36 #[.slice A n c,.slice B m d] w fun ev w'=>∃(A':OA)(n' c':Nat),ev=.returned (.tuple #[.slice A' n' c',.int .i64 (gu key l)])/\aE w' w.heap.size 5 1 A' n' c' (bV (if gu key l=0 then dY (qo l) key l else []))/\w.grownBy w' none:=by
  apply vc36;dsimp only[VC36,rt,Br,Rd,Ix,Ap,cB,cS,cT,nb,iq]
  try simp only[aF]
  have bad:∀(e:Int)(w':World),gu key l=e->e≠0->w.grownBy w' none->∃(A':OA)(n' c':Nat),Ending.returned (.tuple #[.slice none 0 0,.int .i64 e])=.returned (.tuple #[.slice A' n' c',.int .i64 (gu key l)])/\aE w' w.heap.size 5 1 A' n' c' (bV (if gu key l=0 then dY (qo l) key l else []))/\w.grownBy w' none:=by
    intro e w' he h0 g;rw[he,if_neg h0];exact⟨_,_,_,rfl,aE.nil _ _ _ _,g⟩
  refine(uP hA hn IM hk).mono fun ev w1 hh=>?_;obtain⟨A1,n1,c1,rfl,o1,g1⟩:=hh;refine⟨_,_,_,_,rfl,fun h=>?_,fun h=>?_⟩
  · have G9:¬ nv key=true:=fun e=>h (if_pos e);exact bad 23 _ (by unfold gu;rw[if_pos (.inl (by simpa using G9))]) (by omega) g1
  have G9:nv key=true:=by
    by_cases e:nv key=true
    · exact e
    · rw[if_neg e]at h;omega
  rw[if_pos G9]at o1;refine⟨fun h0=>?_,fun h0=>?_⟩
  · have:l=[]:=List.eq_nil_of_length_eq_zero (by omega);exact bad 23 _ (by unfold gu;rw[if_pos (.inr this)]) (by omega) g1
  have l0:0<l.length:=by omega
  have FG:l≠[]:=fun e=>by subst e;simp at l0
  obtain⟨a,e1,e2,_⟩:=eE (hB.kept_none g1) l0;rw[Nat.zero_mul,add0]at e2;have LK:l[0].t=qo l:=by cases l with | nil=>exact absurd rfl FG | cons e l=>rfl
  rw[LK]at e2;refine⟨a,e1,by omega,by omega,_,e2,(uF (t0:=qo l) (hB.kept_none g1) hm (by omega) hl).mono fun ev w2 hh=>?_⟩;obtain⟨A2,n2,c2,rfl,o2,g2⟩:=hh;have GQ:=aA g1 g2;refine⟨_,_,_,_,rfl,fun h=>?_,fun h=>?_⟩
  · have GW:¬ kl (qo l) none l=true:=fun e=>h (if_pos e);rw[if_neg GW];exact bad 23 _ (by unfold gu;rw[if_neg (by rw[G9];simp[FG]),if_pos (by simpa using GW)]) (by omega) GQ
  have GW:kl (qo l) none l=true:=by
    by_cases e:kl (qo l) none l=true
    · exact e
    · rw[if_neg e]at h;omega
  rw[if_pos GW]at o2;have Wa:=(qf hk (by omega)).1 G9;refine(Aj (hA.kept_none GQ) hn (hB.kept_none GQ) hm (by omega) (by omega) hk hl Wa.rise).mono fun ev w3 hh=>?_;obtain⟨rfl,g3⟩:=hh;have FY:=aA GQ g3;refine⟨_,rfl,fun h=>?_,fun h=>?_⟩
  · exact bad 25 _ (by unfold gu;rw[if_neg (by rw[G9];simp[FG]),if_neg (by rw[GW];simp),if_pos h]) (by omega) FY
  have hok:gu key l=0:=by unfold gu;rw[if_neg (by rw[G9];simp[FG]),if_neg (by rw[GW];simp),if_neg h]
  rw[hok,if_pos rfl];have la:=ha G9;have ld:=hd GW;have o1':=(o1.kept g2).kept g3;have pa:=fv (dx key) (by omega);have pd:=fv (cA (qo l) l) (by omega);refine(pj o1'.row (cC o1) (dx key) (by rw[cC o1];omega)).mono fun ev w4 hh=>?_;obtain⟨A4,n4,c4,rfl,o4,g4⟩:=hh;have n4l:=cC o4;refine⟨_,_,_,rfl,by omega,?_⟩;have ga:=World.grownBy_alloc w4 (.cells #[.int .u64 (n4:Int)] 22) none;have IV:aZ (w4.alloc (.cells #[.int .u64 (n4:Int)] 22)) (some ⟨w4.heap.size,0,none⟩) (kr [n4]):=de w4 _ 22;refine(iO (l:=[n4]) IV rfl (by simp;omega) (by simp)).mono fun ev w5 hh=>?_;obtain⟨A5,n5,c5,rfl,o5,g5⟩:=hh;rw[iS]at o5;have Jg:=aA ga g5;replace o5:=o5.mono (base':=w4.heap.size) ga.size;have n5l:=cC o5;have p5:=cK (v:=n4) (by omega);obtain⟨A6,n6,c6,w6,f1,o6,f3,_⟩:=aV o5 (o4.kept Jg).row n4l (df o4) (by omega) Jg.size;have Kt:=aN Jg f3 o5.block_ge;have n6l:=cC o6;refine⟨_,_,_,rfl,_,_,_,w6,f1,?_⟩;have o2':=((o2.kept g3).kept g4).kept Kt;refine(pj o2'.row (cC o2) (cA _ _) (by rw[cC o2];omega)).mono fun ev w7 hh=>?_;obtain⟨A7,n7,c7,rfl,o7,g7⟩:=hh;have n7l:=cC o7;have Kf:=aA Kt g7;rw[List.length_append]at n6l;obtain⟨A8,n8,c8,w8,q1,o8,q3,_⟩:=aV (o6.kept g7) o7.row n7l (df o7) (by omega) Kf.size;have WS:=aN Kf q3 o6.block_ge;refine⟨_,_,_,rfl,_,_,_,w8,q1,_,_,_,rfl,?_,aA (aA FY g4) WS⟩;have:=o8.mono (base':=w.heap.size) (Nat.le_trans FY.size g4.size);rw[n4l,List.append_assoc]at this;exact this
theorem yb {w:World} {A:OA} {n c:Nat} {x:List Int} (hr:aZ w A (bV x)) (hn:n=x.length) (hc:n<=c) (hb:aQ x) (hl:x.length<=2^16) :
    Calls P 86 #[.slice A n c] w fun ev w'=>∃(A1:OA)(n1 c1:Nat)(A2:OA)(n2 c2:Nat)(ok:Bool),ev=.returned (.tuple #[.slice A1 n1 c1,.slice A2 n2 c2,.bool ok])/\w.grownBy w' none ∧
      (ok=true->∃ a d:List Int,aZ w' A1 (bV a)/\n1=a.length/\n1<=c1/\aQ a/\a.length<=8*x.length/\aZ w' A2 (bV d)/\n2=d.length/\n2<=c2/\aQ d/\d.length<=8*x.length/\∀ a0 d0,aQ a0->aQ d0->x=bX (cy a0).length++(cy a0++cy d0)->a=a0/\d=d0) ∧
      (ok=false->∀ a0 d0,aQ a0->aQ d0->x=bX (cy a0).length++(cy a0++cy d0)->False):=by
  apply vc86;dsimp only[VC86,rt,Br,cT,iq]
  try simp only[aF]
  refine(mB (most:=9223372036854775807) hr hn hb (by omega)).mono fun ev w1 hh=>?_;obtain⟨rfl,g1⟩:=hh;have ht:=fy (most:=9223372036854775807) (b:=x) (fun y hy=>(hb y hy).1);have canon:∀ a0 d0,aQ a0->aQ d0->x=bX (cy a0).length++(cy a0++cy d0)->cY 9223372036854775807 x=(((cy a0).length:Int),(bX (cy a0).length).length,0):=by
    intro a0 d0 h1 h2 hx;have hs:(cy a0).length<=x.length:=by rw[hx];simp only[List.length_append];omega
    rw[hx];exact dW (by omega) (by omega) _
  obtain⟨v,k,e,hv⟩:∃ v k e,cY 9223372036854775807 x=(v,k,e):=⟨_,_,_,rfl⟩;rw[hv]at ht canon ⊢;simp only at ht;refine⟨v,(k:Int),e,rfl,⟨by omega,by omega⟩,fun he=>?_,fun he=>?_⟩
  · refine⟨_,_,_,_,_,_,_,rfl,g1,fun h=>(by cases h),fun _ a0 d0 h1 h2 hx=>?_⟩;have:=canon a0 d0 h1 h2 hx;simp only[Prod.mk.injEq]at this;exact he this.2.2
  have tk:(k:Int).toNat=k:=by omega
  rw[tk];refine⟨by omega,fun GM=>?_,fun FW=>?_⟩
  · refine⟨_,_,_,_,_,_,_,rfl,g1,fun h=>(by cases h),fun _ a0 d0 h1 h2 hx=>?_⟩;have:=canon a0 d0 h1 h2 hx;simp only[Prod.mk.injEq]at this;have Nv:=congrArg List.length hx;simp only[List.length_append]at Nv;omega
  obtain⟨q,rfl⟩:∃ q:Nat,v=(q:Int):=⟨v.toNat,by omega⟩;have tq:(q:Int).toNat=q:=by omega
  rw[tq];have KG:k<=n:=by omega
  have r1:aZ w1 (bB A c k 1) (bV (x.drop k)):=kV (hr.kept_none g1) (by omega);have r1':aZ w1 (bB A c k 1) (bV ((x.drop k).take q)):=by
    intro j u hj;rw[show bV ((x.drop k).take q)=(bV (x.drop k)).take q by rw[bV,List.map_take],List.getElem?_take]at hj;split at hj
    · exact r1 j u hj
    · cases hj
  have ldk:(x.drop k).length=x.length-k:=List.length_drop;have Ge:aQ (x.drop k):=fun y hy=>hb y (List.mem_of_mem_drop hy);refine⟨⟨by omega,by omega⟩,(m7 r1' (by rw[List.length_take];omega) (by omega) (fun y hy=>Ge y (List.mem_of_mem_take hy)) (by rw[List.length_take];omega)).mono fun ev w2 hh=>?_⟩;obtain⟨g2,HF⟩:=hh;have r2:aZ w2 (bB (bB A c k 1) (c-k) q 1) (bV ((x.drop k).drop q)):=kV (r1.kept_none g2) (by omega)
  -- what the parts are, if there are any
  have parts:∀ a0 d0,aQ a0->aQ d0->x=bX (cy a0).length++(cy a0++cy d0)->(x.drop k).take q=cy a0/\(x.drop k).drop q=cy d0/\a0.length<2^62/\d0.length<2^62:=by
    intro a0 d0 h1 h2 hx;have:=canon a0 d0 h1 h2 hx;simp only[Prod.mk.injEq]at this;have hs:=DK h1 h2 hx;have hq:q=(cy a0).length:=by omega
    have Q8:x.drop k=cy a0++cy d0:=by rw[this.2.1,hx];exact List.drop_left' rfl
    rw[Q8,hq];exact⟨List.take_left' rfl,List.drop_left' rfl,by omega,by omega⟩
  have go:∀ (A1:OA) (n1 c1:Nat) (e1:Int) (SR:sp ((x.drop k).take q) (.returned (.tuple #[.slice A1 n1 c1,.int .i64 e1])) w2),∃(x32A:OA)(x32n x32c:Nat)(x32:Int),Ending.returned (.tuple #[.slice A1 n1 c1,.int .i64 e1])=.returned (.tuple #[.slice x32A x32n x32c,.int .i64 x32])/\True:=fun A1 n1 c1 e1 _=>⟨_,_,_,_,rfl,trivial⟩;have gd2:=aA g1 g2;rcases HF with⟨A3,n3,c3,o,rfl,ro,GK,I4,G0,Jj⟩ | ⟨rfl,HB⟩
  · have Hg:=kH I4 Jj;rw[List.length_take]at Hg;refine⟨_,_,_,_,rfl,⟨by omega,by omega⟩,(m7 r2 (by rw[List.length_drop];omega) (by omega) (fun y hy=>Ge y (List.mem_of_mem_drop hy)) (by rw[List.length_drop];omega)).mono fun ev w3 hh=>?_⟩;obtain⟨g3,Kl⟩:=hh;have FY:=aA gd2 g3;rcases Kl with⟨A4,n4,c4,o',rfl,ro',LX,Ml,UT,Lh⟩ | ⟨rfl,OV⟩
    · have Qd:=kH Ml Lh;rw[List.length_drop]at Qd;refine⟨_,_,_,_,rfl,fun _=>⟨_,_,_,_,_,_,_,rfl,FY,fun _=>⟨o,o',ro.kept_none g3,GK.1,GK.2,I4,by omega,ro',LX.1,LX.2,Ml,by omega,fun a0 d0 h1 h2 hx=>?_⟩,fun h=>?_⟩,fun h=>absurd rfl h⟩
      · obtain⟨p1,p2,p3,p4⟩:=parts a0 d0 h1 h2 hx;exact⟨pM I4 h1 (by omega) (by omega) (by rw[Jj,p1]),pM Ml h2 (by omega) (by omega) (by rw[Lh,p2])⟩
      · simp at h
    · refine⟨_,_,_,_,rfl,fun _=>⟨_,_,_,_,_,_,_,rfl,FY,fun h=>(by simp at h),fun _ a0 d0 h1 h2 hx=>?_⟩,fun h=>absurd rfl h⟩;obtain⟨p1,p2,p3,p4⟩:=parts a0 d0 h1 h2 hx;exact OV d0 h2 p4 p2.symm
  · refine⟨_,_,_,_,rfl,⟨by omega,by omega⟩,(m7 r2 (by rw[List.length_drop];omega) (by omega) (fun y hy=>Ge y (List.mem_of_mem_drop hy)) (by rw[List.length_drop];omega)).mono fun ev w3 hh=>?_⟩;obtain⟨g3,Kl⟩:=hh;have FY:=aA gd2 g3;have fin:∀(A4:OA)(n4 c4:Nat),∃(A1:OA)(n1 c1:Nat)(A2:OA)(n2 c2:Nat)(ok:Bool),Ending.returned (.tuple #[.slice none 0 0,.slice A4 n4 c4,.bool false])=.returned (.tuple #[.slice A1 n1 c1,.slice A2 n2 c2,.bool ok])/\w.grownBy w3 none ∧
      (ok=true->∃ a d:List Int,aZ w3 A1 (bV a)/\n1=a.length/\n1<=c1/\aQ a/\a.length<=8*x.length/\aZ w3 A2 (bV d)/\n2=d.length/\n2<=c2/\aQ d/\d.length<=8*x.length/\∀ a0 d0,aQ a0->aQ d0->x=bX (cy a0).length++(cy a0++cy d0)->a=a0/\d=d0) ∧
      (ok=false->∀ a0 d0,aQ a0->aQ d0->x=bX (cy a0).length++(cy a0++cy d0)->False):=by
      intro A4 n4 c4;refine⟨_,_,_,_,_,_,_,rfl,FY,fun h=>(by cases h),fun _ a0 d0 h1 h2 hx=>?_⟩;obtain⟨p1,p2,p3,p4⟩:=parts a0 d0 h1 h2 hx;exact HB a0 h1 p3 p1.symm
    rcases Kl with⟨A4,n4,c4,o',rfl,_⟩ | ⟨rfl,_⟩
    · exact⟨_,_,_,_,rfl,fun h=>absurd h (by omega),fun _=>fin _ _ _⟩
    · exact⟨_,_,_,_,rfl,fun h=>absurd h (by omega),fun _=>fin _ _ _⟩
abbrev Fx:Value:=.tuple #[.slice none 0 0,.slice none 0 0,.int .i64 21]
def E5(x:List Int)(n t0 count:Int)(ev:Ending)(w':World):Prop :=
 (∃(A1:OA)(n1 c1:Nat)(A2:OA)(n2 c2:Nat)(key:List Edge)(l:List aW),ev=.returned (.tuple #[.slice A1 n1 c1,.slice A2 n2 c2,.int .i64 0])/\(aZ w' A1 (edges key)/\n1=key.length/\n1<=c1/\(A1=none->c1=0))/\(aZ w' A2 (cE l)/\n2=l.length/\n2<=c2/\(A2=none->c2=0))/\l.length<=2^20/\sw x n t0 count key l) ∨
 (ev=.returned Fx/\∀ key l,¬ sw x n t0 count key l)
theorem y8 {w:World} {A:OA} {k c:Nat} {x:List Int} {n t0 count:Int} (hr:aZ w A (bV x)) (hk:k=x.length) (hc:k<=c) (hb:aQ x) (hl:x.length<2^13) (GN:count<=9223372036854775807) :
    Calls P 49 #[.slice A k c,.int .u64 n,.int .i64 t0,.int .i64 count] w fun ev w'=>w.grownBy w' none/\E5 x n t0 count ev w':=by
  apply vc49;dsimp only[VC49,rt,Br,cB,cT,iq]
  try simp only[aF]
  refine(yb hr hk hc hb (by omega)).mono fun ev w1 hh=>?_;obtain⟨A1,n1,c1,A2,n2,c2,ok,rfl,g1,HO,HB⟩:=hh;refine⟨_,_,_,_,_,_,_,rfl,fun h=>⟨g1,.inr ⟨rfl,fun key l hk=>?_⟩⟩,fun h=>⟨fun IS=>⟨g1,.inr ⟨rfl,fun key l hk=>?_⟩⟩,fun IS=>?_⟩⟩
  · exact HB h _ _ (dx key) (cA t0 l) hk.eq
  · have h1:=hk.len;have h2:=hk.ok.ne;have:l.length≠0:=fun e=>h2 (List.eq_nil_of_length_eq_zero e);omega
  obtain⟨a,d,ra,ha,Wd,VZ,Ry,rd,hd,Lr,Ge,I2,JH⟩:=HO (by simpa using h);refine(ze (n:=n) ra ha Wd VZ (by omega)).mono fun ev w2 hh=>?_;obtain⟨g2,HF⟩:=hh;have GQ:=aA g1 g2;rcases HF with⟨A3,n3,c3,key,rfl,rk,Jn,Kq,RV,QM⟩ | ⟨rfl,GK⟩
  · refine⟨_,_,_,_,rfl,(sc (t0:=t0) (count:=count) (n:=n) (rd.kept_none g2) hd Lr Ge (by omega) GN).mono fun ev w3 hh=>?_⟩;obtain⟨g3,Kl⟩:=hh;have FY:=aA GQ g3;rcases Kl with⟨A4,n4,c4,l,rfl,rl,IP,Js,RU,QG⟩ | ⟨rfl,GK⟩
    · refine⟨_,_,_,_,rfl,fun h=>absurd rfl h,fun _=>⟨fun h=>absurd rfl h,fun _=>?_⟩⟩;obtain⟨k1,k2,k3⟩:=QM;obtain⟨l1,l2,l3,l4⟩:=QG;have M0:=ES key;have SG:=(fE l1).2;rw[← k3]at M0;rw[← l4]at SG;have FG:l≠[]:=fun e=>by rw[e]at l2;simp at l2;omega
      have ht:=l1.t0 FG;refine(uM (rk.kept_none g3) Jn rl IP (by omega) (by omega) k1.edgesB l1.evtsB (fun _=>by rw[← k3];omega) (fun _=>by rw[ht,← l4];omega)).mono fun ev w4 hh=>?_;obtain⟨A5,n5,c5,rfl,o5,g4⟩:=hh;have Ij:=aA FY g4;have hB:=wl k1.edgesB k1.len l1.evtsB;rw[ht]at hB o5;have same:∀ key' l',sw x n t0 count key' l'->key'=key/\l'=l:=by
        intro key' l' Gc;obtain⟨e1,e2⟩:=JH _ _ (dx key') (cA t0 l') Gc.eq;exact⟨zi Gc.ok.adj k1 (by rw[← e1,k3]),uG Gc.ok.del l1 (by rw[← e2,l4])⟩
      refine⟨_,_,_,_,rfl,fun h=>⟨Ij,.inr ⟨rfl,fun key' l' Gc=>?_⟩⟩,fun h=>?_⟩
      · obtain⟨rfl,rfl⟩:=same _ _ Gc;exact h (hB.2 Gc.ok)
      have hz:gu key l=0:=by simpa using h
      have hok:=hB.1 hz;rw[if_pos hz]at o5;refine(jk o5.row (cC o5) (hr.kept_none Ij) hk (jy _ _ _) hb).mono fun ev w5 hh=>?_;obtain⟨rfl,rfl⟩:=hh;refine⟨_,rfl,fun h=>⟨Ij,.inr ⟨rfl,fun key' l' Gc=>?_⟩⟩,fun h=>⟨Ij,.inl ⟨_,_,_,_,_,_,key,l,rfl,⟨(rk.kept_none g3).kept_none g4,Jn,Kq,RV⟩,⟨rl.kept_none g4,IP,Js,RU⟩,by omega,hok,k2,l3,l2,?_⟩⟩⟩
      · obtain⟨rfl,rfl⟩:=same _ _ Gc;exact of_decide_eq_false h Gc.eq.symm
      · have:decide (dY t0 key l=x)=true:=by simpa using h
        exact(of_decide_eq_true this).symm
    · refine⟨_,_,_,_,rfl,fun h=>absurd rfl h,fun _=>⟨fun _=>⟨FY,.inr ⟨rfl,fun key' l' Gc=>?_⟩⟩,fun h=>absurd (by omega) h⟩⟩;obtain⟨e1,e2⟩:=JH _ _ (dx key') (cA t0 l') Gc.eq;exact GK l' ⟨Gc.ok.del,Gc.len,Gc.evtV,e2⟩
  · have fin:∀ key' l',¬ sw x n t0 count key' l':=fun key' l' Gc=>by
      obtain⟨e1,e2⟩:=JH _ _ (dx key') (cA t0 l') Gc.eq;exact GK key' ⟨Gc.ok.adj,Gc.keyV,e1⟩
    refine⟨_,_,_,_,rfl,(sc (t0:=t0) (count:=count) (n:=n) (rd.kept_none g2) hd Lr Ge (by omega) GN).mono fun ev w3 hh=>?_⟩;obtain⟨g3,Kl⟩:=hh;have FY:=aA GQ g3;rcases Kl with⟨A4,n4,c4,l,rfl,_⟩ | ⟨rfl,_⟩
    · exact⟨_,_,_,_,rfl,fun _=>⟨FY,.inr ⟨rfl,fin⟩⟩,fun h=>absurd (by omega) h⟩
    · exact⟨_,_,_,_,rfl,fun _=>⟨FY,.inr ⟨rfl,fin⟩⟩,fun h=>absurd (by omega) h⟩
end Go.Proofs.YtlieaecnllkefaaGreat
