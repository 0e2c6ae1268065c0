/- Own texts, packed: U8, U9, U10, U11, U12, U13, U14, U15. -/
import Derived.Test.YtlieaecnllkefaaGreatGOg
import Derived.Test.YtlieaecnllkefaaGreatGPg
import Derived.Test.YtlieaecnllkefaaGreatGQg
import Derived.Test.YtlieaecnllkefaaGreatGYg
import Derived.Test.YtlieaecnllkefaaGreatGNg
set_option linter.unusedVariables false
set_option linter.unusedSimpArgs false
set_option maxHeartbeats 4000000
set_option maxRecDepth 100000
namespace Go.Proofs.YtlieaecnllkefaaGreat
open Go Go.V Go.RowKit
theorem iM.put{L:List (Edge×Bool)}{now:List Edge}{e:Edge}(h:iM L now):iM (jb L e true) (now++[e]):=by
 intro a;rw[uE];by_cases ha:e=a
 ·rw[if_pos ha];simp[ha]
 ·rw[if_neg ha,h a];refine decide_eq_decide.2 ?_;simp only[List.mem_append,List.mem_singleton];exact⟨.inl,fun h=>h.resolve_right fun e'=>ha e'.symm⟩
theorem AO {w:World} {A B:OA} {n c m d:Nat} {key:List Edge} {l:List aR} (hA:aY w A (edges key)) (hn:n=key.length) (hB:aY w B (bB l)) (hm:m=l.length) (I4:n<=2^30) (Qg:m<=2^30) (hk:fE key) (hl:nC l) (Hf:fV key) :
    Calls P 68 #[.slice A n c,.slice B m d] w fun ev w'=>ev=.returned (.bool (fi key l))/\w.grownBy w' none:=by
  apply vc68;dsimp only[VC68,rb,Wt,Br,Bb,Rd,Ix,Eg,Ws,nb,ad,al,iq]
  try simp only[aG]
  have hM:vG (w.alloc (.map #[] 0)) w.heap.size []:=dK.made w;have g1:=World.grownBy_alloc w (.map #[] 0) none;obtain⟨w1,G8⟩:∃ w1,w1=w.alloc (.map #[] 0):=⟨_,rfl⟩;rw[← G8]at hM g1 ⊢;refine⟨fun mm i w'=>∃ (p:Nat) (L:List (Edge×Bool)),i=(p:Int)/\p<=key.length/\mm=key.length-p/\vG w' w.heap.size L/\iM L (key.take p)/\w.grownBy w' none,
    ⟨_,0,[],rfl,by omega,rfl,hM,fun a=>by simp[ef],g1⟩,?_⟩
  rintro mm i w2 ⟨p,L,rfl,hp,rfl,Qr,I9,hg⟩;have tp:(p:Int).toNat=p:=by omega
  rw[tp];refine⟨fun Ge=>?_,fun Gj=>?_⟩
  · have lp:p<key.length:=by omega
    have Mw:=hk _ (List.getElem_mem lp);obtain⟨a,e1,e2,e3⟩:=eE (hA.kept_none hg) lp;obtain⟨w3,hE,pE0,qE0,pE1,qE1,bE,gE⟩:=se w2 45 (.int .u32 0) (.int .u32 0) (.int .u32 key[p].1) (.int .u32 key[p].2);refine⟨a,e1,by omega,by omega,_,e2,_,e3,pE0,qE0,pE1,qE1,?_⟩;rw[← hE];have okk:oL (key[p].1,key[p].2):=⟨Mw.1,Mw.2⟩;obtain⟨W2,k1,k2,k3⟩:=dK.update CG Tryz.underlying114 (Qr.kept gE) okk true;refine⟨_,aB bE 0,_,aB bE 1,W2,k1,⟨by omega,by omega⟩,key.length-(p+1),by omega,p+1,jb L key[p] true,by omega,by omega,rfl,k2,?_,aN (aA hg gE) k3 (fun k hk=>by cases hk;omega)⟩;rw[List.take_succ_eq_append_getElem lp];exact I9.put
  · have Ig:p=key.length:=by omega
    subst Ig;rw[List.take_length]at I9;refine⟨fun mm i w'=>∃ (p:Nat) (L:List (Edge×Bool)) (now:List Edge),i=(p:Int)/\p<=l.length/\mm=l.length-p/\vG w' w.heap.size L/\iM L now/\fV now/\w.grownBy w' none/\fi key l=fi now (l.drop p),
      ⟨_,0,L,key,rfl,by omega,rfl,Qr,I9,Hf,hg,rfl⟩,?_⟩
    rintro mm i w4 ⟨p,L,now,rfl,hp,rfl,Sl,I9,Hf,hg,HS⟩;have tp:(p:Int).toNat=p:=by omega
    rw[tp];refine⟨fun Ge=>?_,fun Gj=>?_⟩
    · have lp:p<l.length:=by omega
      rw[List.drop_eq_getElem_cons lp,fi]at HS;have Jz:=hl _ (List.getElem_mem lp);obtain⟨a,e1,e2,e3,e4,e5⟩:=dz (hB.kept_none hg) lp;obtain⟨w5,hE,pE0,qE0,pE1,qE1,pE2,qE2,pE3,qE3,bE,gE⟩:=sc w4 62 (.int .i64 0) (.int .u32 0) (.int .u32 0) (.bool false) (.int .i64 l[p].t) (.int .u32 l[p].u) (.int .u32 l[p].v) (.bool l[p].add);refine⟨a,e1,by omega,by omega,_,e2,_,e3,_,e4,_,e5,pE0,qE0,pE1,qE1,pE2,qE2,pE3,qE3,?_⟩;rw[← hE];have gd:=aH (aC w5 none);have bEW:=aF bE gd;have PH:=(Sl.kept gE).kept gd;have JV:=aA (aA hg gE) gd;have okk:oL (l[p].u,l[p].v):=⟨Jz.1.1,Jz.1.2⟩;refine⟨_,aB bEW 1,_,aB bEW 2,_,Fy PH okk,_,aB bEW 3,_,fun w=>BE _ _ _ _ w,fun h5=>?_,fun h5=>?_⟩
      · have:=(I9.turn (e:=l[p]) Hf).2 (of_decide_eq_true h5);rw[HS,this];exact⟨rfl,JV⟩
      · have Gh:cA now l[p]≠none:=fun h=>of_decide_eq_false h5 ((I9.turn (e:=l[p]) Hf).1 h);obtain⟨x,hx⟩:∃ x,cA now l[p]=some x:=by
          cases hq:cA now l[p]with
          | none=>exact absurd hq Gh
          | some x=>exact⟨x,rfl⟩
        obtain⟨W2,k1,k2,k3⟩:=dK.update CG Tryz.underlying114 PH okk l[p].add;refine⟨_,aB bEW 1,_,aB bEW 2,_,aB bEW 3,W2,k1,⟨by omega,by omega⟩,l.length-(p+1),by omega,p+1,jb L (l[p].u,l[p].v) l[p].add,x,by omega,by omega,rfl,k2,I9.upd hx,(iO hx).1,aN JV k3 (fun k hk=>by cases hk;omega),?_⟩;rw[HS,hx]
    · have Ig:p=l.length:=by omega
      subst Ig;rw[List.drop_length]at HS;rw[HS];exact⟨rfl,hg⟩
theorem F7(a:Addr):a.add 0=a:=by cases a;unfold Addr.add;split <;>simp_all
theorem uX{w:World}{A B:OA}{n c m d:Nat}{key:List Edge}{l:List aR}(hA:aY w A (edges key))(hn:n=key.length)(hB:aY w B (bB l))(hm:m=l.length)(I4:n<=2^20)(Qg:m<=2^19)(hk:fE key)(hl:nC l)
    (ha:ny key=true->(jt key).length<=2^20) (hd:kC (nQ l) none l=true->(eP (nQ l) l).length<=2^20) :
    Calls P 36 #[.slice A n c,.slice B m d] w fun ev w'=>∃(A':OA)(n' c':Nat),ev=.returned (.tuple #[.slice A' n' c',.int .i64 (gu key l)])/\aE w' w.heap.size 5 1 A' n' c' (cy (if gu key l=0 then fy (nQ l) key l else []))/\w.grownBy w' none:=by
  apply vc36;dsimp only[VC36,rt,Br,Rd,Ix,Ap,cB,cS,cT,nb,iq]
  try simp only[aG]
  have bad:∀(e:Int)(w':World),gu key l=e->e≠0->w.grownBy w' none->∃(A':OA)(n' c':Nat),Ending.returned (.tuple #[.slice none 0 0,.int .i64 e])=.returned (.tuple #[.slice A' n' c',.int .i64 (gu key l)])/\aE w' w.heap.size 5 1 A' n' c' (cy (if gu key l=0 then fy (nQ l) key l else []))/\w.grownBy w' none:=by
    intro e w' he h0 g;rw[he,if_neg h0];exact⟨_,_,_,rfl,aE.nil _ _ _ _,g⟩
  refine(u9 hA hn I4 hk).mono fun ev w1 hh=>?_;obtain⟨A1,n1,c1,rfl,o1,g1⟩:=hh;refine⟨_,_,_,_,rfl,fun h=>?_,fun h=>?_⟩
  · have Hz:¬ ny key=true:=fun e=>h (if_pos e);exact bad 23 _ (by unfold gu;rw[if_pos (.inl (by simpa using Hz))]) (by omega) g1
  have Hz:ny key=true:=by
    by_cases e:ny key=true
    · exact e
    · rw[if_neg e]at h;omega
  rw[if_pos Hz]at o1;refine⟨fun h0=>?_,fun h0=>?_⟩
  · have:l=[]:=List.eq_nil_of_length_eq_zero (by omega);exact bad 23 _ (by unfold gu;rw[if_pos (.inr this)]) (by omega) g1
  have l0:0<l.length:=by omega
  have Gh:l≠[]:=fun e=>by subst e;simp at l0
  obtain⟨a,e1,e2,_⟩:=dz (hB.kept_none g1) l0;rw[Nat.zero_mul,F7]at e2;have Ng:l[0].t=nQ l:=by cases l with | nil=>exact absurd rfl Gh | cons e l=>rfl
  rw[Ng]at e2;refine⟨a,e1,by omega,by omega,_,e2,(uP (t0:=nQ l) (hB.kept_none g1) hm (by omega) hl).mono fun ev w2 hh=>?_⟩;obtain⟨A2,n2,c2,rfl,o2,g2⟩:=hh;have GP:=aA g1 g2;refine⟨_,_,_,_,rfl,fun h=>?_,fun h=>?_⟩
  · have Hp:¬ kC (nQ l) none l=true:=fun e=>h (if_pos e);rw[if_neg Hp];exact bad 23 _ (by unfold gu;rw[if_neg (by rw[Hz];simp[Gh]),if_pos (by simpa using Hp)]) (by omega) GP
  have Hp:kC (nQ l) none l=true:=by
    by_cases e:kC (nQ l) none l=true
    · exact e
    · rw[if_neg e]at h;omega
  rw[if_pos Hp]at o2;have WD:=(qg hk (by omega)).1 Hz;refine(AO (hA.kept_none GP) hn (hB.kept_none GP) hm (by omega) (by omega) hk hl WD.rise).mono fun ev w3 hh=>?_;obtain⟨rfl,g3⟩:=hh;have Gw:=aA GP g3;refine⟨_,rfl,fun h=>?_,fun h=>?_⟩
  · exact bad 25 _ (by unfold gu;rw[if_neg (by rw[Hz];simp[Gh]),if_neg (by rw[Hp];simp),if_pos h]) (by omega) Gw
  have hok:gu key l=0:=by unfold gu;rw[if_neg (by rw[Hz];simp[Gh]),if_neg (by rw[Hp];simp),if_neg h]
  rw[hok,if_pos rfl];have la:=ha Hz;have ld:=hd Hp;have o1':=(o1.kept g2).kept g3;have pa:=gK (d8 key) (by omega);have pd:=gK (dv (nQ l) l) (by omega);refine(pe o1'.row (db o1) (d8 key) (by rw[db o1];omega)).mono fun ev w4 hh=>?_;obtain⟨A4,n4,c4,rfl,o4,g4⟩:=hh;have n4l:=db o4;refine⟨_,_,_,rfl,by omega,?_⟩;have ga:=World.grownBy_alloc w4 (.cells #[.int .u64 (n4:Int)] 22) none;have Ja:aY (w4.alloc (.cells #[.int .u64 (n4:Int)] 22)) (some ⟨w4.heap.size,0,none⟩) (pD [n4]):=di w4 _ 22;refine(iN (l:=[n4]) Ja rfl (by simp;omega) (by simp)).mono fun ev w5 hh=>?_;obtain⟨A5,n5,c5,rfl,o5,g5⟩:=hh;rw[iS]at o5;have JB:=aA ga g5;replace o5:=o5.mono (base':=w4.heap.size) ga.size;have n5l:=db o5;have p5:=cZ (v:=n4) (by omega);obtain⟨A6,n6,c6,w6,f1,o6,f3,_⟩:=aO o5 (o4.kept JB).row n4l (cW o4) (by omega) JB.size;have JO:=aN JB f3 o5.block_ge;have n6l:=db o6;refine⟨_,_,_,rfl,_,_,_,w6,f1,?_⟩;have o2':=((o2.kept g3).kept g4).kept JO;refine(pe o2'.row (db o2) (dv _ _) (by rw[db o2];omega)).mono fun ev w7 hh=>?_;obtain⟨A7,n7,c7,rfl,o7,g7⟩:=hh;have n7l:=db o7;have Jm:=aA JO g7;rw[List.length_append]at n6l;obtain⟨A8,n8,c8,w8,q1,o8,q3,_⟩:=aO (o6.kept g7) o7.row n7l (cW o7) (by omega) Jm.size;have Xy:=aN Jm q3 o6.block_ge;refine⟨_,_,_,rfl,_,_,_,w8,q1,_,_,_,rfl,?_,aA (aA Gw g4) Xy⟩;have:=o8.mono (base':=w.heap.size) (Nat.le_trans Gw.size g4.size);rw[n4l,List.append_assoc]at this;exact this
theorem yz {w:World} {A:OA} {n c:Nat} {x:List Int} (hr:aY w A (cy x)) (hn:n=x.length) (hc:n<=c) (hb:aW x) (hl:x.length<=2^16) :
    Calls P 86 #[.slice A n c] w fun ev w'=>∃(A1:OA)(n1 c1:Nat)(A2:OA)(n2 c2:Nat)(ok:Bool),ev=.returned (.tuple #[.slice A1 n1 c1,.slice A2 n2 c2,.bool ok])/\w.grownBy w' none ∧
      (ok=true->∃ a d:List Int,aY w' A1 (cy a)/\n1=a.length/\n1<=c1/\aW a/\a.length<=8*x.length/\aY w' A2 (cy d)/\n2=d.length/\n2<=c2/\aW d/\d.length<=8*x.length/\∀ a0 d0,aW a0->aW d0->x=cJ (dj a0).length++(dj a0++dj d0)->a=a0/\d=d0) ∧
      (ok=false->∀ a0 d0,aW a0->aW d0->x=cJ (dj a0).length++(dj a0++dj d0)->False):=by
  apply vc86;dsimp only[VC86,rt,Br,cT,iq]
  try simp only[aG]
  refine(mH (most:=9223372036854775807) hr hn hb (by omega)).mono fun ev w1 hh=>?_;obtain⟨rfl,g1⟩:=hh;have ht:=jP (most:=9223372036854775807) (b:=x) (fun y hy=>(hb y hy).1);have canon:∀ a0 d0,aW a0->aW d0->x=cJ (dj a0).length++(dj a0++dj d0)->dB 9223372036854775807 x=(((dj a0).length:Int),(cJ (dj a0).length).length,0):=by
    intro a0 d0 h1 h2 hx;have hs:(dj a0).length<=x.length:=by rw[hx];simp only[List.length_append];omega
    rw[hx];exact fF (by omega) (by omega) _
  obtain⟨v,k,e,hv⟩:∃ v k e,dB 9223372036854775807 x=(v,k,e):=⟨_,_,_,rfl⟩;rw[hv]at ht canon ⊢;simp only at ht;refine⟨v,(k:Int),e,rfl,⟨by omega,by omega⟩,fun he=>?_,fun he=>?_⟩
  · refine⟨_,_,_,_,_,_,_,rfl,g1,fun h=>(by cases h),fun _ a0 d0 h1 h2 hx=>?_⟩;have:=canon a0 d0 h1 h2 hx;simp only[Prod.mk.injEq]at this;exact he this.2.2
  have tk:(k:Int).toNat=k:=by omega
  rw[tk];refine⟨by omega,fun Hi=>?_,fun Gu=>?_⟩
  · refine⟨_,_,_,_,_,_,_,rfl,g1,fun h=>(by cases h),fun _ a0 d0 h1 h2 hx=>?_⟩;have:=canon a0 d0 h1 h2 hx;simp only[Prod.mk.injEq]at this;have SN:=congrArg List.length hx;simp only[List.length_append]at SN;omega
  obtain⟨q,rfl⟩:∃ q:Nat,v=(q:Int):=⟨v.toNat,by omega⟩;have tq:(q:Int).toNat=q:=by omega
  rw[tq];have KX:k<=n:=by omega
  have r1:aY w1 (bK A c k 1) (cy (x.drop k)):=qU (hr.kept_none g1) (by omega);have r1':aY w1 (bK A c k 1) (cy ((x.drop k).take q)):=by
    intro j u hj;rw[show cy ((x.drop k).take q)=(cy (x.drop k)).take q by rw[cy,List.map_take],List.getElem?_take]at hj;split at hj
    · exact r1 j u hj
    · cases hj
  have ldk:(x.drop k).length=x.length-k:=List.length_drop;have GW:aW (x.drop k):=fun y hy=>hb y (List.mem_of_mem_drop hy);refine⟨⟨by omega,by omega⟩,(m7 r1' (by rw[List.length_take];omega) (by omega) (fun y hy=>GW y (List.mem_of_mem_take hy)) (by rw[List.length_take];omega)).mono fun ev w2 hh=>?_⟩;obtain⟨g2,Jq⟩:=hh;have r2:aY w2 (bK (bK A c k 1) (c-k) q 1) (cy ((x.drop k).drop q)):=qU (r1.kept_none g2) (by omega)
  -- what the parts are, if there are any
  have parts:∀ a0 d0,aW a0->aW d0->x=cJ (dj a0).length++(dj a0++dj d0)->(x.drop k).take q=dj a0/\(x.drop k).drop q=dj d0/\a0.length<2^62/\d0.length<2^62:=by
    intro a0 d0 h1 h2 hx;have:=canon a0 d0 h1 h2 hx;simp only[Prod.mk.injEq]at this;have hs:=Eh h1 h2 hx;have hq:q=(dj a0).length:=by omega
    have Wk:x.drop k=dj a0++dj d0:=by rw[this.2.1,hx];exact List.drop_left' rfl
    rw[Wk,hq];exact⟨List.take_left' rfl,List.drop_left' rfl,by omega,by omega⟩
  have go:∀ (A1:OA) (n1 c1:Nat) (e1:Int) (Tv:zG ((x.drop k).take q) (.returned (.tuple #[.slice A1 n1 c1,.int .i64 e1])) w2),∃(x32A:OA)(x32n x32c:Nat)(x32:Int),Ending.returned (.tuple #[.slice A1 n1 c1,.int .i64 e1])=.returned (.tuple #[.slice x32A x32n x32c,.int .i64 x32])/\True:=fun A1 n1 c1 e1 _=>⟨_,_,_,_,rfl,trivial⟩;have gd2:=aA g1 g2;rcases Jq with⟨A3,n3,c3,o,rfl,ro,Ih,Ld,HB,JF⟩ | ⟨rfl,IK⟩
  · have HG:=nK Ld JF;rw[List.length_take]at HG;refine⟨_,_,_,_,rfl,⟨by omega,by omega⟩,(m7 r2 (by rw[List.length_drop];omega) (by omega) (fun y hy=>GW y (List.mem_of_mem_drop hy)) (by rw[List.length_drop];omega)).mono fun ev w3 hh=>?_⟩;obtain⟨g3,KF⟩:=hh;have Gw:=aA gd2 g3;rcases KF with⟨A4,n4,c4,o',rfl,ro',Mm,MH,Vo,LA⟩ | ⟨rfl,Pu⟩
    · have QM:=nK MH LA;rw[List.length_drop]at QM;refine⟨_,_,_,_,rfl,fun _=>⟨_,_,_,_,_,_,_,rfl,Gw,fun _=>⟨o,o',ro.kept_none g3,Ih.1,Ih.2,Ld,by omega,ro',Mm.1,Mm.2,MH,by omega,fun a0 d0 h1 h2 hx=>?_⟩,fun h=>?_⟩,fun h=>absurd rfl h⟩
      · obtain⟨p1,p2,p3,p4⟩:=parts a0 d0 h1 h2 hx;exact⟨yw Ld h1 (by omega) (by omega) (by rw[JF,p1]),yw MH h2 (by omega) (by omega) (by rw[LA,p2])⟩
      · simp at h
    · refine⟨_,_,_,_,rfl,fun _=>⟨_,_,_,_,_,_,_,rfl,Gw,fun h=>(by simp at h),fun _ a0 d0 h1 h2 hx=>?_⟩,fun h=>absurd rfl h⟩;obtain⟨p1,p2,p3,p4⟩:=parts a0 d0 h1 h2 hx;exact Pu d0 h2 p4 p2.symm
  · refine⟨_,_,_,_,rfl,⟨by omega,by omega⟩,(m7 r2 (by rw[List.length_drop];omega) (by omega) (fun y hy=>GW y (List.mem_of_mem_drop hy)) (by rw[List.length_drop];omega)).mono fun ev w3 hh=>?_⟩;obtain⟨g3,KF⟩:=hh;have Gw:=aA gd2 g3;have fin:∀(A4:OA)(n4 c4:Nat),∃(A1:OA)(n1 c1:Nat)(A2:OA)(n2 c2:Nat)(ok:Bool),Ending.returned (.tuple #[.slice none 0 0,.slice A4 n4 c4,.bool false])=.returned (.tuple #[.slice A1 n1 c1,.slice A2 n2 c2,.bool ok])/\w.grownBy w3 none ∧
      (ok=true->∃ a d:List Int,aY w3 A1 (cy a)/\n1=a.length/\n1<=c1/\aW a/\a.length<=8*x.length/\aY w3 A2 (cy d)/\n2=d.length/\n2<=c2/\aW d/\d.length<=8*x.length/\∀ a0 d0,aW a0->aW d0->x=cJ (dj a0).length++(dj a0++dj d0)->a=a0/\d=d0) ∧
      (ok=false->∀ a0 d0,aW a0->aW d0->x=cJ (dj a0).length++(dj a0++dj d0)->False):=by
      intro A4 n4 c4;refine⟨_,_,_,_,_,_,_,rfl,Gw,fun h=>(by cases h),fun _ a0 d0 h1 h2 hx=>?_⟩;obtain⟨p1,p2,p3,p4⟩:=parts a0 d0 h1 h2 hx;exact IK a0 h1 p3 p1.symm
    rcases KF with⟨A4,n4,c4,o',rfl,_⟩ | ⟨rfl,_⟩
    · exact⟨_,_,_,_,rfl,fun h=>absurd h (by omega),fun _=>fin _ _ _⟩
    · exact⟨_,_,_,_,rfl,fun h=>absurd h (by omega),fun _=>fin _ _ _⟩
abbrev FZ:Value:=.tuple #[.slice none 0 0,.slice none 0 0,.int .i64 21]
def Fv(x:List Int)(n t0 count:Int)(ev:Ending)(w':World):Prop :=
 (∃(A1:OA)(n1 c1:Nat)(A2:OA)(n2 c2:Nat)(key:List Edge)(l:List aR),ev=.returned (.tuple #[.slice A1 n1 c1,.slice A2 n2 c2,.int .i64 0])/\(aY w' A1 (edges key)/\n1=key.length/\n1<=c1/\(A1=none->c1=0))/\(aY w' A2 (bB l)/\n2=l.length/\n2<=c2/\(A2=none->c2=0))/\l.length<=2^20/\sI x n t0 count key l) ∨
 (ev=.returned FZ/\∀ key l,¬ sI x n t0 count key l)
theorem zu {w:World} {A:OA} {k c:Nat} {x:List Int} {n t0 count:Int} (hr:aY w A (cy x)) (hk:k=x.length) (hc:k<=c) (hb:aW x) (hl:x.length<2^13) (HC:count<=9223372036854775807) :
    Calls P 49 #[.slice A k c,.int .u64 n,.int .i64 t0,.int .i64 count] w fun ev w'=>w.grownBy w' none/\Fv x n t0 count ev w':=by
  apply vc49;dsimp only[VC49,rt,Br,cB,cT,iq]
  try simp only[aG]
  refine(yz hr hk hc hb (by omega)).mono fun ev w1 hh=>?_;obtain⟨A1,n1,c1,A2,n2,c2,ok,rfl,g1,Jv,IK⟩:=hh;refine⟨_,_,_,_,_,_,_,rfl,fun h=>⟨g1,.inr ⟨rfl,fun key l hk=>?_⟩⟩,fun h=>⟨fun Ko=>⟨g1,.inr ⟨rfl,fun key l hk=>?_⟩⟩,fun Ko=>?_⟩⟩
  · exact IK h _ _ (d8 key) (dv t0 l) hk.eq
  · have h1:=hk.len;have h2:=hk.ok.ne;have:l.length≠0:=fun e=>h2 (List.eq_nil_of_length_eq_zero e);omega
  obtain⟨a,d,ra,ha,WH,WA,WF,rd,hd,LP,GW,LO,J3⟩:=Jv (by simpa using h);refine(zB (n:=n) ra ha WH WA (by omega)).mono fun ev w2 hh=>?_;obtain⟨g2,Jq⟩:=hh;have GP:=aA g1 g2;rcases Jq with⟨A3,n3,c3,key,rfl,rk,I5,Ps,Sy,Rp⟩ | ⟨rfl,Ih⟩
  · refine⟨_,_,_,_,rfl,(sx (t0:=t0) (count:=count) (n:=n) (rd.kept_none g2) hd LP GW (by omega) HC).mono fun ev w3 hh=>?_⟩;obtain⟨g3,KF⟩:=hh;have Gw:=aA GP g3;rcases KF with⟨A4,n4,c4,l,rfl,rl,Ii,LQ,Xq,Rk⟩ | ⟨rfl,Ih⟩
    · refine⟨_,_,_,_,rfl,fun h=>absurd rfl h,fun _=>⟨fun h=>absurd rfl h,fun _=>?_⟩⟩;obtain⟨k1,k2,k3⟩:=Rp;obtain⟨l1,l2,l3,l4⟩:=Rk;have Nr:=Fm key;have Vx:=(iV l1).2;rw[← k3]at Nr;rw[← l4]at Vx;have Gh:l≠[]:=fun e=>by rw[e]at l2;simp at l2;omega
      have ht:=l1.t0 Gh;refine(uX (rk.kept_none g3) I5 rl Ii (by omega) (by omega) k1.edgesB l1.evtsB (fun _=>by rw[← k3];omega) (fun _=>by rw[ht,← l4];omega)).mono fun ev w4 hh=>?_;obtain⟨A5,n5,c5,rfl,o5,g4⟩:=hh;have IM:=aA Gw g4;have hB:=wE k1.edgesB k1.len l1.evtsB;rw[ht]at hB o5;have same:∀ key' l',sI x n t0 count key' l'->key'=key/\l'=l:=by
        intro key' l' GB;obtain⟨e1,e2⟩:=J3 _ _ (d8 key') (dv t0 l') GB.eq;exact⟨zF GB.ok.adj k1 (by rw[← e1,k3]),uQ GB.ok.del l1 (by rw[← e2,l4])⟩
      refine⟨_,_,_,_,rfl,fun h=>⟨IM,.inr ⟨rfl,fun key' l' GB=>?_⟩⟩,fun h=>?_⟩
      · obtain⟨rfl,rfl⟩:=same _ _ GB;exact h (hB.2 GB.ok)
      have hz:gu key l=0:=by simpa using h
      have hok:=hB.1 hz;rw[if_pos hz]at o5;refine(jm o5.row (db o5) (hr.kept_none IM) hk (mr _ _ _) hb).mono fun ev w5 hh=>?_;obtain⟨rfl,rfl⟩:=hh;refine⟨_,rfl,fun h=>⟨IM,.inr ⟨rfl,fun key' l' GB=>?_⟩⟩,fun h=>⟨IM,.inl ⟨_,_,_,_,_,_,key,l,rfl,⟨(rk.kept_none g3).kept_none g4,I5,Ps,Sy⟩,⟨rl.kept_none g4,Ii,LQ,Xq⟩,by omega,hok,k2,l3,l2,?_⟩⟩⟩
      · obtain⟨rfl,rfl⟩:=same _ _ GB;exact of_decide_eq_false h GB.eq.symm
      · have:decide (fy t0 key l=x)=true:=by simpa using h
        exact(of_decide_eq_true this).symm
    · refine⟨_,_,_,_,rfl,fun h=>absurd rfl h,fun _=>⟨fun _=>⟨Gw,.inr ⟨rfl,fun key' l' GB=>?_⟩⟩,fun h=>absurd (by omega) h⟩⟩;obtain⟨e1,e2⟩:=J3 _ _ (d8 key') (dv t0 l') GB.eq;exact Ih l' ⟨GB.ok.del,GB.len,GB.evtV,e2⟩
  · have fin:∀ key' l',¬ sI x n t0 count key' l':=fun key' l' GB=>by
      obtain⟨e1,e2⟩:=J3 _ _ (d8 key') (dv t0 l') GB.eq;exact Ih key' ⟨GB.ok.adj,GB.keyV,e1⟩
    refine⟨_,_,_,_,rfl,(sx (t0:=t0) (count:=count) (n:=n) (rd.kept_none g2) hd LP GW (by omega) HC).mono fun ev w3 hh=>?_⟩;obtain⟨g3,KF⟩:=hh;have Gw:=aA GP g3;rcases KF with⟨A4,n4,c4,l,rfl,_⟩ | ⟨rfl,_⟩
    · exact⟨_,_,_,_,rfl,fun _=>⟨Gw,.inr ⟨rfl,fin⟩⟩,fun h=>absurd (by omega) h⟩
    · exact⟨_,_,_,_,rfl,fun _=>⟨Gw,.inr ⟨rfl,fin⟩⟩,fun h=>absurd (by omega) h⟩
end Go.Proofs.YtlieaecnllkefaaGreat
