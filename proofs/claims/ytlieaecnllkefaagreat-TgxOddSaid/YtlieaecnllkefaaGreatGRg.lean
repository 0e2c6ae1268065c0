/- Own texts, packed: U8, U9, U10. -/
import Derived.Test.YtlieaecnllkefaaGreatGOg
import Derived.Test.YtlieaecnllkefaaGreatGPg
import Derived.Test.YtlieaecnllkefaaGreatGQg
import Derived.Test.YtlieaecnllkefaaGreatGYg
set_option linter.unusedVariables false
set_option linter.unusedSimpArgs false
set_option maxHeartbeats 4000000
set_option maxRecDepth 100000
namespace Go.Proofs.YtlieaecnllkefaaGreat
open Go Go.V Go.RowKit
theorem iV.put{L:List (Edge×Bool)}{now:List Edge}{e:Edge}(h:iV L now):iV (jj L e true) (now++[e]):=by
 intro a;rw[uN];by_cases ha:e=a
 ·rw[if_pos ha];simp[ha]
 ·rw[if_neg ha,h a];refine decide_eq_decide.2 ?_;simp only[List.mem_append,List.mem_singleton];exact⟨.inl,fun h=>h.resolve_right fun e'=>ha e'.symm⟩
theorem AG {w:World} {A B:OA} {n c m d:Nat} {key:List Edge} {l:List aS} (hA:aZ w A (edges key)) (hn:n=key.length) (hB:aZ w B (cE l)) (hm:m=l.length) (II:n<=2^30) (PP:m<=2^30) (hk:fJ key) (hl:nE l) (GR:fZ key) :
    Calls P 68 #[.slice A n c,.slice B m d] w fun ev w'=>ev=.returned (.bool (eQ key l))/\w.grownBy w' none:=by
  apply vc68;dsimp only[VC68,rb,Wt,Br,Bb,Rd,Ix,Eg,Ws,nb,ad,al,iq]
  try simp only[aG]
  have hM:vJ (w.alloc (.map #[] 0)) w.heap.size []:=dE.made w;have g1:=World.grownBy_alloc w (.map #[] 0) none;obtain⟨w1,GK⟩:∃ w1,w1=w.alloc (.map #[] 0):=⟨_,rfl⟩;rw[← GK]at hM g1 ⊢;refine⟨fun mm i w'=>∃ (p:Nat) (L:List (Edge×Bool)),i=(p:Int)/\p<=key.length/\mm=key.length-p/\vJ w' w.heap.size L/\iV L (key.take p)/\w.grownBy w' none,
    ⟨_,0,[],rfl,by omega,rfl,hM,fun a=>by simp[dY],g1⟩,?_⟩
  rintro mm i w2 ⟨p,L,rfl,hp,rfl,PY,IN,hg⟩;have tp:(p:Int).toNat=p:=by omega
  rw[tp];refine⟨fun FP=>?_,fun FU=>?_⟩
  · have lp:p<key.length:=by omega
    have L7:=hk _ (List.getElem_mem lp);obtain⟨a,e1,e2,e3⟩:=eT (hA.kept_none hg) lp;obtain⟨w3,hE,pE0,qE0,pE1,qE1,bE,gE⟩:=uD w2 45 (.int .u32 0) (.int .u32 0) (.int .u32 key[p].1) (.int .u32 key[p].2);refine⟨a,e1,by omega,by omega,_,e2,_,e3,pE0,qE0,pE1,qE1,?_⟩;rw[← hE];have okk:oU (key[p].1,key[p].2):=⟨L7.1,L7.2⟩;obtain⟨W2,k1,k2,k3⟩:=dE.update Cr Tryz.underlying114 (PY.kept gE) okk true;refine⟨_,aB bE 0,_,aB bE 1,W2,k1,⟨by omega,by omega⟩,key.length-(p+1),by omega,p+1,jj L key[p] true,by omega,by omega,rfl,k2,?_,aN (aA hg gE) k3 (fun k hk=>by cases hk;omega)⟩;rw[List.take_succ_eq_append_getElem lp];exact IN.put
  · have HO:p=key.length:=by omega
    subst HO;rw[List.take_length]at IN;refine⟨fun mm i w'=>∃ (p:Nat) (L:List (Edge×Bool)) (now:List Edge),i=(p:Int)/\p<=l.length/\mm=l.length-p/\vJ w' w.heap.size L/\iV L now/\fZ now/\w.grownBy w' none/\eQ key l=eQ now (l.drop p),
      ⟨_,0,L,key,rfl,by omega,rfl,PY,IN,GR,hg,rfl⟩,?_⟩
    rintro mm i w4 ⟨p,L,now,rfl,hp,rfl,RR,IN,GR,hg,Hw⟩;have tp:(p:Int).toNat=p:=by omega
    rw[tp];refine⟨fun FP=>?_,fun FU=>?_⟩
    · have lp:p<l.length:=by omega
      rw[List.drop_eq_getElem_cons lp,eQ]at Hw;have Jf:=hl _ (List.getElem_mem lp);obtain⟨a,e1,e2,e3,e4,e5⟩:=ey (hB.kept_none hg) lp;obtain⟨w5,hE,pE0,qE0,pE1,qE1,pE2,qE2,pE3,qE3,bE,gE⟩:=uC w4 62 (.int .i64 0) (.int .u32 0) (.int .u32 0) (.bool false) (.int .i64 l[p].t) (.int .u32 l[p].u) (.int .u32 l[p].v) (.bool l[p].add);refine⟨a,e1,by omega,by omega,_,e2,_,e3,_,e4,_,e5,pE0,qE0,pE1,qE1,pE2,qE2,pE3,qE3,?_⟩;rw[← hE];have gd:=aI (aC w5 none);have bEW:=aF bE gd;have Pi:=(RR.kept gE).kept gd;have JD:=aA (aA hg gE) gd;have okk:oU (l[p].u,l[p].v):=⟨Jf.1.1,Jf.1.2⟩;refine⟨_,aB bEW 1,_,aB bEW 2,_,Fh Pi okk,_,aB bEW 3,_,fun w=>Bp _ _ _ _ w,fun h5=>?_,fun h5=>?_⟩
      · have:=(IN.turn (e:=l[p]) GR).2 (of_decide_eq_true h5);rw[Hw,this];exact⟨rfl,JD⟩
      · have FS:ct now l[p]≠none:=fun h=>of_decide_eq_false h5 ((IN.turn (e:=l[p]) GR).1 h);obtain⟨x,hx⟩:∃ x,ct now l[p]=some x:=by
          cases hq:ct now l[p]with
          | none=>exact absurd hq FS
          | some x=>exact⟨x,rfl⟩
        obtain⟨W2,k1,k2,k3⟩:=dE.update Cr Tryz.underlying114 Pi okk l[p].add;refine⟨_,aB bEW 1,_,aB bEW 2,_,aB bEW 3,W2,k1,⟨by omega,by omega⟩,l.length-(p+1),by omega,p+1,jj L (l[p].u,l[p].v) l[p].add,x,by omega,by omega,rfl,k2,IN.upd hx,(fK hx).1,aN JD k3 (fun k hk=>by cases hk;omega),?_⟩;rw[Hw,hx]
    · have HO:p=l.length:=by omega
      subst HO;rw[List.drop_length]at Hw;rw[Hw];exact⟨rfl,hg⟩
theorem add0(a:Addr):a.add 0=a:=by cases a;unfold Addr.add;split <;>simp_all
theorem u7{w:World}{A B:OA}{n c m d:Nat}{key:List Edge}{l:List aS}(hA:aZ w A (edges key))(hn:n=key.length)(hB:aZ w B (cE l))(hm:m=l.length)(II:n<=2^20)(PP:m<=2^19)(hk:fJ key)(hl:nE l)
    (ha:nC key=true->(js key).length<=2^20) (hd:kG (kM l) none l=true->(eL (kM l) l).length<=2^20) :
    Calls P 36 #[.slice A n c,.slice B m d] w fun ev w'=>∃(A':OA)(n' c':Nat),ev=.returned (.tuple #[.slice A' n' c',.int .i64 (gz key l)])/\aE w' w.heap.size 5 1 A' n' c' (bY (if gz key l=0 then fk (kM l) key l else []))/\w.grownBy w' none:=by
  apply vc36;dsimp only[VC36,rt,Br,Rd,Ix,Ap,cB,cS,cT,nb,iq]
  try simp only[aG]
  have bad:∀(e:Int)(w':World),gz key l=e->e≠0->w.grownBy w' none->∃(A':OA)(n' c':Nat),Ending.returned (.tuple #[.slice none 0 0,.int .i64 e])=.returned (.tuple #[.slice A' n' c',.int .i64 (gz key l)])/\aE w' w.heap.size 5 1 A' n' c' (bY (if gz key l=0 then fk (kM l) key l else []))/\w.grownBy w' none:=by
    intro e w' he h0 g;rw[he,if_neg h0];exact⟨_,_,_,rfl,aE.nil _ _ _ _,g⟩
  refine(vd hA hn II hk).mono fun ev w1 hh=>?_;obtain⟨A1,n1,c1,rfl,o1,g1⟩:=hh;refine⟨_,_,_,_,rfl,fun h=>?_,fun h=>?_⟩
  · have Hf:¬ nC key=true:=fun e=>h (if_pos e);exact bad 23 _ (by unfold gz;rw[if_pos (.inl (by simpa using Hf))]) (by omega) g1
  have Hf:nC key=true:=by
    by_cases e:nC key=true
    · exact e
    · rw[if_neg e]at h;omega
  rw[if_pos Hf]at o1;refine⟨fun h0=>?_,fun h0=>?_⟩
  · have:l=[]:=List.eq_nil_of_length_eq_zero (by omega);exact bad 23 _ (by unfold gz;rw[if_pos (.inr this)]) (by omega) g1
  have l0:0<l.length:=by omega
  have FS:l≠[]:=fun e=>by subst e;simp at l0
  obtain⟨a,e1,e2,_⟩:=ey (hB.kept_none g1) l0;rw[Nat.zero_mul,add0]at e2;have MR:l[0].t=kM l:=by cases l with | nil=>exact absurd rfl FS | cons e l=>rfl
  rw[MR]at e2;refine⟨a,e1,by omega,by omega,_,e2,(uX (t0:=kM l) (hB.kept_none g1) hm (by omega) hl).mono fun ev w2 hh=>?_⟩;obtain⟨A2,n2,c2,rfl,o2,g2⟩:=hh;have GH:=aA g1 g2;refine⟨_,_,_,_,rfl,fun h=>?_,fun h=>?_⟩
  · have G4:¬ kG (kM l) none l=true:=fun e=>h (if_pos e);rw[if_neg G4];exact bad 23 _ (by unfold gz;rw[if_neg (by rw[Hf];simp[FS]),if_pos (by simpa using G4)]) (by omega) GH
  have G4:kG (kM l) none l=true:=by
    by_cases e:kG (kM l) none l=true
    · exact e
    · rw[if_neg e]at h;omega
  rw[if_pos G4]at o2;have VW:=(qs hk (by omega)).1 Hf;refine(AG (hA.kept_none GH) hn (hB.kept_none GH) hm (by omega) (by omega) hk hl VW.rise).mono fun ev w3 hh=>?_;obtain⟨rfl,g3⟩:=hh;have F9:=aA GH g3;refine⟨_,rfl,fun h=>?_,fun h=>?_⟩
  · exact bad 25 _ (by unfold gz;rw[if_neg (by rw[Hf];simp[FS]),if_neg (by rw[G4];simp),if_pos h]) (by omega) F9
  have hok:gz key l=0:=by unfold gz;rw[if_neg (by rw[Hf];simp[FS]),if_neg (by rw[G4];simp),if_neg h]
  rw[hok,if_pos rfl];have la:=ha Hf;have ld:=hd G4;have o1':=(o1.kept g2).kept g3;have pa:=hZ (dX key) (by omega);have pd:=hZ (dp (kM l) l) (by omega);refine(po o1'.row (cX o1) (dX key) (by rw[cX o1];omega)).mono fun ev w4 hh=>?_;obtain⟨A4,n4,c4,rfl,o4,g4⟩:=hh;have n4l:=cX o4;refine⟨_,_,_,rfl,by omega,?_⟩;have ga:=World.grownBy_alloc w4 (.cells #[.int .u64 (n4:Int)] 22) none;have IP:aZ (w4.alloc (.cells #[.int .u64 (n4:Int)] 22)) (some ⟨w4.heap.size,0,none⟩) (pN [n4]):=dg w4 _ 22;refine(iW (l:=[n4]) IP rfl (by simp;omega) (by simp)).mono fun ev w5 hh=>?_;obtain⟨A5,n5,c5,rfl,o5,g5⟩:=hh;rw[i4]at o5;have Jh:=aA ga g5;replace o5:=o5.mono (base':=w4.heap.size) ga.size;have n5l:=cX o5;have p5:=cR (v:=n4) (by omega);obtain⟨A6,n6,c6,w6,f1,o6,f3,_⟩:=aO o5 (o4.kept Jh).row n4l (cY o4) (by omega) Jh.size;have Jg:=aN Jh f3 o5.block_ge;have n6l:=cX o6;refine⟨_,_,_,rfl,_,_,_,w6,f1,?_⟩;have o2':=((o2.kept g3).kept g4).kept Jg;refine(po o2'.row (cX o2) (dp _ _) (by rw[cX o2];omega)).mono fun ev w7 hh=>?_;obtain⟨A7,n7,c7,rfl,o7,g7⟩:=hh;have n7l:=cX o7;have Ki:=aA Jg g7;rw[List.length_append]at n6l;obtain⟨A8,n8,c8,w8,q1,o8,q3,_⟩:=aO (o6.kept g7) o7.row n7l (cY o7) (by omega) Ki.size;have WQ:=aN Ki q3 o6.block_ge;refine⟨_,_,_,rfl,_,_,_,w8,q1,_,_,_,rfl,?_,aA (aA F9 g4) WQ⟩;have:=o8.mono (base':=w.heap.size) (Nat.le_trans F9.size g4.size);rw[n4l,List.append_assoc]at this;exact this
theorem yx {w:World} {A:OA} {n c:Nat} {x:List Int} (hr:aZ w A (bY x)) (hn:n=x.length) (hc:n<=c) (hb:aW x) (hl:x.length<=2^16) :
    Calls P 86 #[.slice A n c] w fun ev w'=>∃(A1:OA)(n1 c1:Nat)(A2:OA)(n2 c2:Nat)(ok:Bool),ev=.returned (.tuple #[.slice A1 n1 c1,.slice A2 n2 c2,.bool ok])/\w.grownBy w' none ∧
      (ok=true->∃ a d:List Int,aZ w' A1 (bY a)/\n1=a.length/\n1<=c1/\aW a/\a.length<=8*x.length/\aZ w' A2 (bY d)/\n2=d.length/\n2<=c2/\aW d/\d.length<=8*x.length/\∀ a0 d0,aW a0->aW d0->x=cF (de a0).length++(de a0++de d0)->a=a0/\d=d0) ∧
      (ok=false->∀ a0 d0,aW a0->aW d0->x=cF (de a0).length++(de a0++de d0)->False):=by
  apply vc86;dsimp only[VC86,rt,Br,cT,iq]
  try simp only[aG]
  refine(mK (most:=9223372036854775807) hr hn hb (by omega)).mono fun ev w1 hh=>?_;obtain⟨rfl,g1⟩:=hh;have ht:=jV (most:=9223372036854775807) (b:=x) (fun y hy=>(hb y hy).1);have canon:∀ a0 d0,aW a0->aW d0->x=cF (de a0).length++(de a0++de d0)->dt 9223372036854775807 x=(((de a0).length:Int),(cF (de a0).length).length,0):=by
    intro a0 d0 h1 h2 hx;have hs:(de a0).length<=x.length:=by rw[hx];simp only[List.length_append];omega
    rw[hx];exact fL (by omega) (by omega) _
  obtain⟨v,k,e,hv⟩:∃ v k e,dt 9223372036854775807 x=(v,k,e):=⟨_,_,_,rfl⟩;rw[hv]at ht canon ⊢;simp only at ht;refine⟨v,(k:Int),e,rfl,⟨by omega,by omega⟩,fun he=>?_,fun he=>?_⟩
  · refine⟨_,_,_,_,_,_,_,rfl,g1,fun h=>(by cases h),fun _ a0 d0 h1 h2 hx=>?_⟩;have:=canon a0 d0 h1 h2 hx;simp only[Prod.mk.injEq]at this;exact he this.2.2
  have tk:(k:Int).toNat=k:=by omega
  rw[tk];refine⟨by omega,fun GV=>?_,fun Ga=>?_⟩
  · refine⟨_,_,_,_,_,_,_,rfl,g1,fun h=>(by cases h),fun _ a0 d0 h1 h2 hx=>?_⟩;have:=canon a0 d0 h1 h2 hx;simp only[Prod.mk.injEq]at this;have Sj:=congrArg List.length hx;simp only[List.length_append]at Sj;omega
  obtain⟨q,rfl⟩:∃ q:Nat,v=(q:Int):=⟨v.toNat,by omega⟩;have tq:(q:Int).toNat=q:=by omega
  rw[tq];have KH:k<=n:=by omega
  have r1:aZ w1 (bK A c k 1) (bY (x.drop k)):=qg (hr.kept_none g1) (by omega);have r1':aZ w1 (bK A c k 1) (bY ((x.drop k).take q)):=by
    intro j u hj;rw[show bY ((x.drop k).take q)=(bY (x.drop k)).take q by rw[bY,List.map_take],List.getElem?_take]at hj;split at hj
    · exact r1 j u hj
    · cases hj
  have ldk:(x.drop k).length=x.length-k:=List.length_drop;have GA:aW (x.drop k):=fun y hy=>hb y (List.mem_of_mem_drop hy);refine⟨⟨by omega,by omega⟩,(m9 r1' (by rw[List.length_take];omega) (by omega) (fun y hy=>GA y (List.mem_of_mem_take hy)) (by rw[List.length_take];omega)).mono fun ev w2 hh=>?_⟩;obtain⟨g2,I8⟩:=hh;have r2:aZ w2 (bK (bK A c k 1) (c-k) q 1) (bY ((x.drop k).drop q)):=qg (r1.kept_none g2) (by omega)
  -- what the parts are, if there are any
  have parts:∀ a0 d0,aW a0->aW d0->x=cF (de a0).length++(de a0++de d0)->(x.drop k).take q=de a0/\(x.drop k).drop q=de d0/\a0.length<2^62/\d0.length<2^62:=by
    intro a0 d0 h1 h2 hx;have:=canon a0 d0 h1 h2 hx;simp only[Prod.mk.injEq]at this;have hs:=DQ h1 h2 hx;have hq:q=(de a0).length:=by omega
    have VI:x.drop k=de a0++de d0:=by rw[this.2.1,hx];exact List.drop_left' rfl
    rw[VI,hq];exact⟨List.take_left' rfl,List.drop_left' rfl,by omega,by omega⟩
  have go:∀ (A1:OA) (n1 c1:Nat) (e1:Int) (ST:zB ((x.drop k).take q) (.returned (.tuple #[.slice A1 n1 c1,.int .i64 e1])) w2),∃(x32A:OA)(x32n x32c:Nat)(x32:Int),Ending.returned (.tuple #[.slice A1 n1 c1,.int .i64 e1])=.returned (.tuple #[.slice x32A x32n x32c,.int .i64 x32])/\True:=fun A1 n1 c1 e1 _=>⟨_,_,_,_,rfl,trivial⟩;have gd2:=aA g1 g2;rcases I8 with⟨A3,n3,c3,o,rfl,ro,Hm,KP,Hh,Jl⟩ | ⟨rfl,Iq⟩
  · have Hl:=nP KP Jl;rw[List.length_take]at Hl;refine⟨_,_,_,_,rfl,⟨by omega,by omega⟩,(m9 r2 (by rw[List.length_drop];omega) (by omega) (fun y hy=>GA y (List.mem_of_mem_drop hy)) (by rw[List.length_drop];omega)).mono fun ev w3 hh=>?_⟩;obtain⟨g3,Ko⟩:=hh;have F9:=aA gd2 g3;rcases Ko with⟨A4,n4,c4,o',rfl,ro',L0,Mp,UO,Lp⟩ | ⟨rfl,OZ⟩
    · have Qo:=nP Mp Lp;rw[List.length_drop]at Qo;refine⟨_,_,_,_,rfl,fun _=>⟨_,_,_,_,_,_,_,rfl,F9,fun _=>⟨o,o',ro.kept_none g3,Hm.1,Hm.2,KP,by omega,ro',L0.1,L0.2,Mp,by omega,fun a0 d0 h1 h2 hx=>?_⟩,fun h=>?_⟩,fun h=>absurd rfl h⟩
      · obtain⟨p1,p2,p3,p4⟩:=parts a0 d0 h1 h2 hx;exact⟨yu KP h1 (by omega) (by omega) (by rw[Jl,p1]),yu Mp h2 (by omega) (by omega) (by rw[Lp,p2])⟩
      · simp at h
    · refine⟨_,_,_,_,rfl,fun _=>⟨_,_,_,_,_,_,_,rfl,F9,fun h=>(by simp at h),fun _ a0 d0 h1 h2 hx=>?_⟩,fun h=>absurd rfl h⟩;obtain⟨p1,p2,p3,p4⟩:=parts a0 d0 h1 h2 hx;exact OZ d0 h2 p4 p2.symm
  · refine⟨_,_,_,_,rfl,⟨by omega,by omega⟩,(m9 r2 (by rw[List.length_drop];omega) (by omega) (fun y hy=>GA y (List.mem_of_mem_drop hy)) (by rw[List.length_drop];omega)).mono fun ev w3 hh=>?_⟩;obtain⟨g3,Ko⟩:=hh;have F9:=aA gd2 g3;have fin:∀(A4:OA)(n4 c4:Nat),∃(A1:OA)(n1 c1:Nat)(A2:OA)(n2 c2:Nat)(ok:Bool),Ending.returned (.tuple #[.slice none 0 0,.slice A4 n4 c4,.bool false])=.returned (.tuple #[.slice A1 n1 c1,.slice A2 n2 c2,.bool ok])/\w.grownBy w3 none ∧
      (ok=true->∃ a d:List Int,aZ w3 A1 (bY a)/\n1=a.length/\n1<=c1/\aW a/\a.length<=8*x.length/\aZ w3 A2 (bY d)/\n2=d.length/\n2<=c2/\aW d/\d.length<=8*x.length/\∀ a0 d0,aW a0->aW d0->x=cF (de a0).length++(de a0++de d0)->a=a0/\d=d0) ∧
      (ok=false->∀ a0 d0,aW a0->aW d0->x=cF (de a0).length++(de a0++de d0)->False):=by
      intro A4 n4 c4;refine⟨_,_,_,_,_,_,_,rfl,F9,fun h=>(by cases h),fun _ a0 d0 h1 h2 hx=>?_⟩;obtain⟨p1,p2,p3,p4⟩:=parts a0 d0 h1 h2 hx;exact Iq a0 h1 p3 p1.symm
    rcases Ko with⟨A4,n4,c4,o',rfl,_⟩ | ⟨rfl,_⟩
    · exact⟨_,_,_,_,rfl,fun h=>absurd h (by omega),fun _=>fin _ _ _⟩
    · exact⟨_,_,_,_,rfl,fun h=>absurd h (by omega),fun _=>fin _ _ _⟩
abbrev FI:Value:=.tuple #[.slice none 0 0,.slice none 0 0,.int .i64 21]
def Fe(x:List Int)(n t0 count:Int)(ev:Ending)(w':World):Prop :=
 (∃(A1:OA)(n1 c1:Nat)(A2:OA)(n2 c2:Nat)(key:List Edge)(l:List aS),ev=.returned (.tuple #[.slice A1 n1 c1,.slice A2 n2 c2,.int .i64 0])/\(aZ w' A1 (edges key)/\n1=key.length/\n1<=c1/\(A1=none->c1=0))/\(aZ w' A2 (cE l)/\n2=l.length/\n2<=c2/\(A2=none->c2=0))/\l.length<=2^20/\qy x n t0 count key l) ∨
 (ev=.returned FI/\∀ key l,¬ qy x n t0 count key l)
theorem sF {w:World} {A:OA} {k c:Nat} {x:List Int} {n t0 count:Int} (hr:aZ w A (bY x)) (hk:k=x.length) (hc:k<=c) (hb:aW x) (hl:x.length<2^13) (Hj:count<=9223372036854775807) :
    Calls P 49 #[.slice A k c,.int .u64 n,.int .i64 t0,.int .i64 count] w fun ev w'=>w.grownBy w' none/\Fe x n t0 count ev w':=by
  apply vc49;dsimp only[VC49,rt,Br,cB,cT,iq]
  try simp only[aG]
  refine(yx hr hk hc hb (by omega)).mono fun ev w1 hh=>?_;obtain⟨A1,n1,c1,A2,n2,c2,ok,rfl,g1,Jb,Iq⟩:=hh;refine⟨_,_,_,_,_,_,_,rfl,fun h=>⟨g1,.inr ⟨rfl,fun key l hk=>?_⟩⟩,fun h=>⟨fun Ka=>⟨g1,.inr ⟨rfl,fun key l hk=>?_⟩⟩,fun Ka=>?_⟩⟩
  · exact Iq h _ _ (dX key) (dp t0 l) hk.eq
  · have h1:=hk.len;have h2:=hk.ok.ne;have:l.length≠0:=fun e=>h2 (List.eq_nil_of_length_eq_zero e);omega
  obtain⟨a,d,ra,ha,V9,VU,VZ,rd,hd,LB,GA,LA,JK⟩:=Jb (by simpa using h);refine(zv (n:=n) ra ha V9 VU (by omega)).mono fun ev w2 hh=>?_;obtain⟨g2,I8⟩:=hh;have GH:=aA g1 g2;rcases I8 with⟨A3,n3,c3,key,rfl,rk,IS,Mo,Pn,QW⟩ | ⟨rfl,Hm⟩
  · refine⟨_,_,_,_,rfl,(sA (t0:=t0) (count:=count) (n:=n) (rd.kept_none g2) hd LB GA (by omega) Hj).mono fun ev w3 hh=>?_⟩;obtain⟨g3,Ko⟩:=hh;have F9:=aA GH g3;rcases Ko with⟨A4,n4,c4,l,rfl,rl,HQ,LC,WK,QR⟩ | ⟨rfl,Hm⟩
    · refine⟨_,_,_,_,rfl,fun h=>absurd rfl h,fun _=>⟨fun h=>absurd rfl h,fun _=>?_⟩⟩;obtain⟨k1,k2,k3⟩:=QW;obtain⟨l1,l2,l3,l4⟩:=QR;have Oz:=E7 key;have UX:=(i9 l1).2;rw[← k3]at Oz;rw[← l4]at UX;have FS:l≠[]:=fun e=>by rw[e]at l2;simp at l2;omega
      have ht:=l1.t0 FS;refine(u7 (rk.kept_none g3) IS rl HQ (by omega) (by omega) k1.edgesB l1.evtsB (fun _=>by rw[← k3];omega) (fun _=>by rw[ht,← l4];omega)).mono fun ev w4 hh=>?_;obtain⟨A5,n5,c5,rfl,o5,g4⟩:=hh;have HS:=aA F9 g4;have hB:=wH k1.edgesB k1.len l1.evtsB;rw[ht]at hB o5;have same:∀ key' l',qy x n t0 count key' l'->key'=key/\l'=l:=by
        intro key' l' Gi;obtain⟨e1,e2⟩:=JK _ _ (dX key') (dp t0 l') Gi.eq;exact⟨zA Gi.ok.adj k1 (by rw[← e1,k3]),pD Gi.ok.del l1 (by rw[← e2,l4])⟩
      refine⟨_,_,_,_,rfl,fun h=>⟨HS,.inr ⟨rfl,fun key' l' Gi=>?_⟩⟩,fun h=>?_⟩
      · obtain⟨rfl,rfl⟩:=same _ _ Gi;exact h (hB.2 Gi.ok)
      have hz:gz key l=0:=by simpa using h
      have hok:=hB.1 hz;rw[if_pos hz]at o5;refine(ij o5.row (cX o5) (hr.kept_none HS) hk (iP _ _ _) hb).mono fun ev w5 hh=>?_;obtain⟨rfl,rfl⟩:=hh;refine⟨_,rfl,fun h=>⟨HS,.inr ⟨rfl,fun key' l' Gi=>?_⟩⟩,fun h=>⟨HS,.inl ⟨_,_,_,_,_,_,key,l,rfl,⟨(rk.kept_none g3).kept_none g4,IS,Mo,Pn⟩,⟨rl.kept_none g4,HQ,LC,WK⟩,by omega,hok,k2,l3,l2,?_⟩⟩⟩
      · obtain⟨rfl,rfl⟩:=same _ _ Gi;exact of_decide_eq_false h Gi.eq.symm
      · have:decide (fk t0 key l=x)=true:=by simpa using h
        exact(of_decide_eq_true this).symm
    · refine⟨_,_,_,_,rfl,fun h=>absurd rfl h,fun _=>⟨fun _=>⟨F9,.inr ⟨rfl,fun key' l' Gi=>?_⟩⟩,fun h=>absurd (by omega) h⟩⟩;obtain⟨e1,e2⟩:=JK _ _ (dX key') (dp t0 l') Gi.eq;exact Hm l' ⟨Gi.ok.del,Gi.len,Gi.evtV,e2⟩
  · have fin:∀ key' l',¬ qy x n t0 count key' l':=fun key' l' Gi=>by
      obtain⟨e1,e2⟩:=JK _ _ (dX key') (dp t0 l') Gi.eq;exact Hm key' ⟨Gi.ok.adj,Gi.keyV,e1⟩
    refine⟨_,_,_,_,rfl,(sA (t0:=t0) (count:=count) (n:=n) (rd.kept_none g2) hd LB GA (by omega) Hj).mono fun ev w3 hh=>?_⟩;obtain⟨g3,Ko⟩:=hh;have F9:=aA GH g3;rcases Ko with⟨A4,n4,c4,l,rfl,_⟩ | ⟨rfl,_⟩
    · exact⟨_,_,_,_,rfl,fun _=>⟨F9,.inr ⟨rfl,fin⟩⟩,fun h=>absurd (by omega) h⟩
    · exact⟨_,_,_,_,rfl,fun _=>⟨F9,.inr ⟨rfl,fin⟩⟩,fun h=>absurd (by omega) h⟩
end Go.Proofs.YtlieaecnllkefaaGreat
