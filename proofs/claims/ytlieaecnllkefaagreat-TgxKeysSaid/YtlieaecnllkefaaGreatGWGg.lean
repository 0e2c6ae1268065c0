/- Own texts, packed: W25, W26, W27. -/
import Derived.Test.YtlieaecnllkefaaGreatGWEg
import Derived.Test.YtlieaecnllkefaaGreatGWCg
import Derived.Test.YtlieaecnllkefaaGreatGWDg
set_option linter.unusedVariables false
set_option linter.unusedSimpArgs false
set_option maxHeartbeats 8000000
set_option maxRecDepth 100000
namespace Go.Proofs.YtlieaecnllkefaaGreat
open Go Go.V Go.RowKit
theorem lC {w:World} {g v:Nat} {A:OA} {n c:Nat} {l:List Int} {at_:Nat} {rest:List Bool} (h:eU w g A n c l at_) (hl:l.length<=2^40) (hb:aQ l) (hv:0<v/\v<2^64) (hd:(aM l).drop at_=da v++rest) :
    Calls P 127 #[.pointer (some ⟨g,0,none⟩)] w fun ev w'=>ev=.returned (.tuple #[.int .u64 (v:Int),.bool true])/\eU w' g A n c l (at_+(da v).length)/\Kp w w' (fun q=>q=g):=by
  apply vc127;dsimp only[VC127,rt,Wt,Br,Rd,iq]
  try simp only[aF]
  have IC:=jz (v:=v) (k:=64) hv.2;have Hc:=(fR v).2 hv.1;obtain⟨z0,Sb⟩:∃ z0,blen v=z0+1:=⟨blen v-1,by omega⟩;have hT:=pW hv.1 hv.2 rest;have hE:=xh hv.1 rest;rw[Sb,Nat.add_sub_cancel]at hE;have FI:=gM hv.1;rw[Sb,Nat.add_sub_cancel]at FI;have Ky:qp ((aM l).drop at_)=z0:=by rw[hd,hE,AS]
  have I2:((aM l).drop at_).length=8*l.length-at_:=by rw[List.length_drop,cQ]
  have Gy:at_+(2*z0+1)<=8*l.length:=by
    have h1:=congrArg List.length hd;rw[I2,List.length_append,FI]at h1;omega
  rw[← hd]at hT;unfold pX at hT;rw[Ky,if_pos ⟨by omega,by rw[I2];omega⟩]at hT;simp only[Option.some.injEq,Prod.mk.injEq]at hT;refine⟨_,rfl,_,by rw[aP];exact aB h.blk 1,fun m i W=>∃ z:Nat,i=(z:Int)/\z<=z0/\m=64-z/\Kp w W (fun q=>q=g)/\eU W g A n c l (at_+z),⟨_,0,rfl,by omega,rfl,Kp.refl w _,h⟩,?_⟩;rintro m i w2 ⟨z,rfl,hz,rfl,hK,hR⟩;have tz:(z:Int).toNat=z:=by omega
  rw[tz];refine⟨fun _=>(j5 (k:=1) hR hl hb (by omega)).mono fun ev w3 hh=>?_,fun FJ=>by omega⟩;obtain⟨K3,⟨r1,rfl,R3⟩ | ⟨r1,rfl,R3⟩⟩:=hh
  · have HZ:Kp w w3 (fun q=>q=g):=hK.then K3 (fun k _ h=>h);have Gu:=BD (l:=l) (at_:=at_) (i:=z) (by omega);have Hu:=kq (l:=l) (at_:=at_+z) (by omega);rw[Hu];rw[hd,hE]at Gu;refine⟨_,_,rfl,fun h=>(by cases h),fun _=>⟨fun h0=>⟨by omega,_,?_,z+1,by omega,?_,rfl,HZ,by rw[← Nat.add_assoc];exact R3⟩,fun h1=>?_⟩⟩
    · omega
    · by_cases e:z=z0
      · subst e;rw[List.getElem?_append_right (by simp)]at Gu;simp at Gu;rw[Gu]at h0;simp[eS]at h0
      · omega
    · have e:z=z0:=by
        by_cases e:z=z0
        · exact e
        · rw[List.getElem?_append_left (by simp;omega)]at Gu;simp[show z<z0 by omega]at Gu;rw[Gu]at h1;simp[eS]at h1
      subst e;refine(j5 (k:=z) R3 hl hb (by omega)).mono fun ev w4 hh=>?_;obtain⟨K4,⟨r2,rfl,R4⟩ | ⟨r2,rfl,R4⟩⟩:=hh
      · have MB:Kp w w4 (fun q=>q=g):=HZ.then K4 (fun k _ h=>h);have MN:=mD (((aM l).drop (at_+z+1)).take z);have Ny:(((aM l).drop (at_+z+1)).take z).length=z:=by rw[List.length_take,List.length_drop,cQ];omega
        rw[Ny]at MN;have Ha:min z 64=z:=by omega
        have hp:=Int.pow_pos (n:=2) (m:=z) (by omega);have LS:(2:Int)^z<=2^63:=by
          have:=Nat.pow_le_pow_right (n:=2) (by omega) (show z<=63 by omega);have e:((2^z:Nat):Int)=2^z:=by simp
          omega
        have Wl:=hT.1;rw[List.drop_drop,← Nat.add_assoc]at Wl;rw[Ha];refine⟨_,_,rfl,fun h=>(by cases h),fun _=>⟨⟨by omega,by omega,by omega⟩,?_,?_,MB⟩⟩
        · rw[sj,sP MN.1 MN.2 (by omega) (by omega),show ij (((aM l).drop (at_+z+1)).take z)+1*2^z=(v:Int) by omega]
        · have:at_+(da v).length=at_+z+1+z:=by omega
          rw[this];exact R4
      · omega
  · omega
theorem zH{w:World}{g:Nat}{A:OA}{n c:Nat}{l:List Int}{at_:Nat}{b:Bool}{rest:List Bool}(h:eU w g A n c l at_)(hl:l.length<=2^40)(hb:aQ l)(hd:(aM l).drop at_=b ::rest):
    Calls P 126 #[.pointer (some ⟨g,0,none⟩),.int .i64 1] w fun ev w'=>ev=.returned (.tuple #[.int .u64 (eS b),.bool true])/\eU w' g A n c l (at_+1)/\Kp w w' (fun q=>q=g):=by
  have I2:((aM l).drop at_).length=8*l.length-at_:=by rw[List.length_drop,cQ]
  have Gy:at_+1<=8*l.length:=by
    rw[hd,List.length_cons]at I2;omega
  refine(j5 (k:=1) h hl hb (by omega)).mono fun ev w3 hh=>?_;obtain⟨K3,⟨r1,rfl,R3⟩ | ⟨r1,rfl,R3⟩⟩:=hh
  · refine⟨?_,R3,K3⟩;rw[hd];have:ij [b]=eS b:=by simp[ij]
    rw[show List.take 1 (b ::rest)=[b] from rfl,this]
  · omega
theorem wD {w:World} {g:Nat} {A:OA} {n c:Nat} {l:List Int} {at_:Nat} {t0:Int} {p:Option aW} {e:aW} {rest:List Bool} (h:eU w g A n c l at_) (hl:l.length<=2^40) (hb:aQ l) (hd:(aM l).drop at_=qM t0 p e++rest) (he:zp t0 p e) (hp:iG p) (Gl:∀ q,p=some q->q.u<=4294967295/\q.v<=4294967295) (LK:0<=t0∨p≠none) :
    Calls P 95 #[.pointer (some ⟨g,0,none⟩),evtV (aY t0 p),.bool (!p.isSome)] w fun ev w'=>ev=.returned (.tuple #[evtV e,.bool true])/\eU w' g A n c l (at_+(qM t0 p e).length)/\Kp w w' (fun q=>q=g):=by
  apply vc95;dsimp only[VC95,rt,Wt,Br,Bb,Rd,Ws,nb,iq];have hn:=he.nums hp;obtain⟨h1,h2,h3⟩:=he;have hq:0<=(aY t0 p).t/\0<=(aY t0 p).u/\(aY t0 p).u<=4294967295/\0<=(aY t0 p).v/\(aY t0 p).v<=4294967295/\(aY t0 p).t<=e.t/\(p.isSome=true->e.t=(aY t0 p).t->(aY t0 p).u<e.u∨(aY t0 p).u=e.u/\(aY t0 p).v<e.v):=by
    cases p with
    | none=>simp only at h3;simp[aY];omega
    | some q =>
      have a1:=hp q rfl;have a2:=Gl q rfl;simp only[dU]at h3;simp only[aY,Option.getD_some];refine⟨by omega,by omega,by omega,by omega,by omega,by omega,fun _ _=>by omega⟩
  have hG:=mc t0 p e;have hF:=md t0 p e;have hS:=ma t0 p e;generalize Sq:aY t0 p=q at *;generalize IG:p.isSome=any at *;obtain⟨gap,JY⟩:∃ x,x=gi t0 p e:=⟨_,rfl⟩;obtain⟨fst,IA⟩:∃ x,x=jj p e:=⟨_,rfl⟩;obtain⟨snd,Iq⟩:∃ x,x=iL p e:=⟨_,rfl⟩;have KO:qM t0 p e=da gap++(e.add ::(da fst++da snd)):=by unfold qM;rw[JY,IA,Iq]
  rw[← JY]at hG hn;rw[← IA]at hF hn;rw[← Iq]at hS hn;rw[KO]at hd ⊢;simp only[List.append_assoc,List.cons_append]at hd;simp only[aF];have Vy:=(Array.getElem?_eq_some_iff.1 h.blk).1;obtain⟨w0,Ht,g0,b0⟩:=fZ w #[.int .i64 q.t,.int .u32 q.u,.int .u32 q.v,.bool q.add] 62;rw[← Ht];obtain⟨w1,FH,g1,b1⟩:=fZ w0 #[.int .i64 0,.int .u32 0,.int .u32 0,.bool false] 62;rw[← FH];have z0:w.heap.size<w0.heap.size:=(Array.getElem?_eq_some_iff.1 b0).1;have b0':=aI b0 g1;have kk:∀ {X Y:World} {k:Nat} {o:Obj},Kp X Y (fun q=>q=g)->X.heap[k]?=some o->k≠g->Y.heap[k]?=some o:=fun hK hb FG=>by
    rw[hK.block _ (Array.getElem?_eq_some_iff.1 hb).1 FG];exact hb
  refine(lC ((h.kept g0).kept g1) hl hb ⟨by rw[hG];omega,by omega⟩ hd).mono fun ev w2 hh=>?_;obtain⟨rfl,R2,K2⟩:=hh;have d2:(aM l).drop (at_+(da gap).length)=e.add ::(da fst++(da snd++rest)):=by rw[← List.drop_drop,hd,List.drop_left' rfl]
  refine⟨_,_,rfl,(zH R2 hl hb d2).mono fun ev w3 hh=>?_⟩;obtain⟨rfl,R3,K3⟩:=hh;have d3:(aM l).drop (at_+(da gap).length+1)=da fst++(da snd++rest):=by rw[← List.drop_drop,d2];rfl
  refine⟨_,_,rfl,(lC R3 hl hb ⟨hn.2.1.1,by omega⟩ d3).mono fun ev w4 hh=>?_⟩;obtain⟨rfl,R4,K4⟩:=hh;have d4:(aM l).drop (at_+(da gap).length+1+(da fst).length)=da snd++rest:=by rw[← List.drop_drop,d3,List.drop_left' rfl]
  refine⟨_,_,rfl,(lC R4 hl hb ⟨hn.2.2.1,by omega⟩ d4).mono fun ev w5 hh=>?_⟩;obtain⟨rfl,R5,K5⟩:=hh;have K15:Kp w1 w5 (fun q=>q=g):=((K2.then K3 (fun k _ h=>h)).then K4 (fun k _ h=>h)).then K5 (fun k _ h=>h);have c0:=kk K15 b0' (by omega);have c1:=kk K15 b1 (by omega);have kgap:(gap:Int)-1=e.t-q.t:=by rw[hG];omega
  refine⟨_,_,rfl,fun b X=>b=false/\X=w5,⟨fun h=>(by cases h),fun _=>⟨fun h=>(by cases h),fun _=>⟨fun h=>(by cases h),fun _=>⟨fun h=>(by cases h),fun _=>⟨by omega,_,aB c0 0,by omega,by omega,fun h=>by omega,fun _=>⟨fun h=>by omega,fun _=>⟨decide_eq_false (by omega),rfl⟩⟩⟩⟩⟩⟩⟩,?_⟩;rintro b X ⟨rfl,rfl⟩;refine⟨fun h=>(by cases h),fun _=>⟨_,aB c0 0,by omega,by omega,by omega,?_⟩⟩;obtain⟨w6,hE,p0,q0,p1,q1,p2,q2,p3,q3,bE,gE⟩:=nY X 62 (.int .i64 0) (.int .u32 0) (.int .u32 0) (.bool false) (.int .i64 (q.t+((gap:Int)-1))) (.int .u32 0) (.int .u32 0) (.bool (decide (eS e.add=1)));refine⟨p0,q0,p1,q1,p2,q2,p3,q3,by omega,by omega,by omega,?_⟩;rw[← hE];have z5:w1.heap.size<=X.heap.size:=K15.size;have z1:w0.heap.size<w1.heap.size:=(Array.getElem?_eq_some_iff.1 b1).1;have e0:=aI c0 gE;have e1:=aI c1 gE;refine⟨fun u v Y=>u=e.u/\v=e.v/\Y=w6,⟨fun b Y=>b=(any && decide (e.t=q.t))/\Y=w6,⟨fun hf=>⟨?_,rfl⟩,fun hf=>⟨?_,rfl⟩⟩,?_⟩,?_⟩
  · have:any=true:=by simpa using hf
    rw[this,Bool.true_and,decide_eq_decide];omega
  · have:any=false:=by simpa using hf
    rw[this];rfl
  · rintro b Y ⟨GP,rfl⟩;refine⟨fun JF=>?_,fun HP=>⟨?_,?_,rfl⟩⟩
    · rw[JF]at GP;have FX:=GP.symm;simp only[Bool.and_eq_true,decide_eq_true_eq]at FX;have ho:=hq.2.2.2.2.2.2 FX.1 FX.2;rw[if_pos ⟨FX.1,FX.2⟩]at hF hS;refine⟨_,aB e0 1,by omega,by omega,by omega,by omega,fun v Z=>v=e.v/\Z=Y,⟨fun h1=>⟨_,aB e0 2,by omega,by omega,?_,rfl⟩,fun h1=>⟨?_,rfl⟩⟩,?_⟩
      · rw[if_pos (by omega)]at hS;omega
      · rw[if_neg (by omega)]at hS;omega
      · rintro v Z ⟨rfl,rfl⟩;exact⟨by omega,rfl,rfl⟩
    · have:¬ (any=true/\e.t=q.t):=by rintro⟨a1,a2⟩;rw[a1,HP]at GP;simp[a2]at GP
      rw[if_neg this]at hF;omega
    · have:¬ (any=true/\e.t=q.t):=by rintro⟨a1,a2⟩;rw[a1,HP]at GP;simp[a2]at GP
      rw[if_neg this]at hF hS;omega
  · rintro u v Y ⟨rfl,rfl,rfl⟩;refine⟨fun b Z=>b=false/\Z=Y,⟨fun h=>by omega,fun _=>⟨decide_eq_false (by omega),rfl⟩⟩,?_⟩;rintro b Z ⟨rfl,rfl⟩;have s1:=aG bE 1 (.int .u32 e.u);have s2:=aG s1 2 (.int .u32 e.v);have r1:=nR (nR e1 (p:=⟨X.heap.size,1,none⟩) (by show X.heap.size≠_;omega) (.int .u32 e.u)) (p:=⟨X.heap.size,2,none⟩) (by show X.heap.size≠_;omega) (.int .u32 e.v);have Hd:decide (eS e.add=1)=e.add:=by cases e.add <;>rfl
    have ht:q.t+((gap:Int)-1)=e.t:=by omega
    rw[Hd,ht]at bE s1 s2;have t1:=aG r1 0 (.int .i64 e.t);have t2:=aG t1 1 (.int .u32 e.u);have t3:=aG t2 2 (.int .u32 e.v);have t4:=aG t3 3 (.bool e.add);refine⟨fun h=>(by cases h),fun _=>⟨by omega,by omega,⟨_,aB bE 1⟩,aD bE 1,⟨_,aB s1 2⟩,aD s1 2,_,aB s2 0,_,aB s2 1,_,aB s2 2,_,aB s2 3,⟨_,aB r1 0⟩,aD r1 0,⟨_,aB t1 1⟩,aD t1 1,⟨_,aB t2 2⟩,aD t2 2,⟨_,aB t3 3⟩,aD t3 3,_,aB t4 0,_,aB t4 1,_,aB t4 2,_,aB t4 3,rfl,?_,?_⟩⟩
    · have RL:Kp Z ((((((Z.setCell ⟨X.heap.size,1,none⟩ (.int .u32 e.u)).setCell ⟨X.heap.size,2,none⟩ (.int .u32 e.v)).setCell ⟨w0.heap.size,0,none⟩ (.int .i64 e.t)).setCell ⟨w0.heap.size,1,none⟩ (.int .u32 e.u)).setCell ⟨w0.heap.size,2,none⟩ (.int .u32 e.v)).setCell ⟨w0.heap.size,3,none⟩ (.bool e.add)) (fun k=>w.heap.size<=k):=bK (bK (bK (bK (bK (bK (Kp.refl Z _) (by omega)) (by omega)) (by omega)) (by omega)) (by omega)) (by omega);have hR:=(R5.kept gE).kp RL (by omega) (fun a ha=>by
        by_cases hz:l=[]
        · exact .inl hz
        · right;obtain⟨b,x1,x2⟩:=h.row.blk (by intro e;exact hz (by simpa[bV]using e));rw[ha]at x1;cases x1;omega)
      have:at_+(da gap++e.add ::(da fst++da snd)).length=at_+(da gap).length+1+(da fst).length+(da snd).length:=by simp only[List.length_append,List.length_cons];omega
      rw[this];exact hR
    · have He:=aA g0 g1;have K6:Kp w Z (fun k=>k=g∨w.heap.size<=k):=(((Kp.of_none He).then K15 (fun k _ h=>.inl h)).then (Kp.of_none (S:=fun _=>False) gE) (fun k _ h=>h.elim));have RL:Kp w ((((((Z.setCell ⟨X.heap.size,1,none⟩ (.int .u32 e.u)).setCell ⟨X.heap.size,2,none⟩ (.int .u32 e.v)).setCell ⟨w0.heap.size,0,none⟩ (.int .i64 e.t)).setCell ⟨w0.heap.size,1,none⟩ (.int .u32 e.u)).setCell ⟨w0.heap.size,2,none⟩ (.int .u32 e.v)).setCell ⟨w0.heap.size,3,none⟩ (.bool e.add)) (fun k=>k=g∨w.heap.size<=k):=bK (bK (bK (bK (bK (bK K6 (by omega)) (by omega)) (by omega)) (by omega)) (by omega)) (by omega);exact RL.mono fun k hk h=>h.resolve_right (by omega)
theorem wE {w:World} {A:OA} {n c:Nat} {l:List aW} {t0 N:Int} (hr:aZ w A (bV (db t0 l))) (hn:n=(db t0 l).length) (hc:n<=c) (hD:dV t0 none l) (hl:l.length<=2^12) (FG:l≠[]) (hN:∀ e∈l,e.v<N) :
    Calls P 54 #[.slice A n c,.int .i64 t0,.int .i64 (l.length:Int),.int .u64 N] w fun ev w'=>∃(B:OA)(m d:Nat),ev=.returned (.tuple #[.slice B m d,.int .i64 0])/\aE w' w.heap.size 62 4 B m d (cE l)/\w.grownBy w' none:=by
  apply vc54;dsimp only[VC54,rt,Wt,Br,Bb,Rd,Rc,Ap,Eg,Cv,Ws,cB,cT,nb,iq]
  try simp only[aF]
  have FI:=iX (fun q hq=>by cases hq) hD;have I2:=fE hD;have hb:=hD.evtsB;have hd:=(jN hb).2 hD;have h0:0<=t0/\t0<=4611686018427387903:=by
    cases l with
    | nil=>exact absurd rfl FG
    | cons e l=>have h1:=hD.1.1;have h2:=hD.1.2.2;simp only at h2;omega
  have P7:=fj (cX t0 none l);refine⟨fun b X=>b=false/\X=w,⟨fun h=>by omega,fun _=>⟨by omega,fun h=>by omega,fun _=>⟨fun h=>by omega,fun _=>⟨fun h=>by omega,fun _=>⟨rfl,rfl⟩⟩⟩⟩⟩,?_⟩;rintro b X ⟨rfl,rfl⟩;refine⟨fun h=>(by cases h),fun _=>?_⟩;obtain⟨w1,FH,g1,b1⟩:=fZ X #[.slice A n c,.int .i64 0] 139;rw[← FH];obtain⟨w2,hL,p0,q0,p1,q1,p2,q2,p3,q3,b2,g2⟩:=nY w1 62 (.int .i64 0) (.int .u32 0) (.int .u32 0) (.bool false) (.int .i64 t0) (.int .u32 0) (.int .u32 0) (.bool false);refine⟨p0,q0,p1,q1,p2,q2,p3,q3,?_⟩;rw[← hL];have z1:X.heap.size<w1.heap.size:=(Array.getElem?_eq_some_iff.1 b1).1;have GQ:=aA g1 g2;have Rq:∀ a,A=some a->db t0 l=[]∨a.block≠X.heap.size:=fun a ha=>by
    by_cases hz:db t0 l=[]
    · exact .inl hz
    · right;obtain⟨b,x1,x2⟩:=hr.blk (by intro e;exact hz (by simpa[bV]using e));rw[ha]at x1;cases x1;omega
  have R2:eU w2 X.heap.size A n c (db t0 l) 0:=⟨by simpa using aI b1 g2,hr.kept_none GQ,hn,by omega,Rq⟩;refine⟨fun m B bn bc i W=>∃ p:Nat,i=(p:Int)/\p<=l.length/\m=l.length-p/\w2.heap.size<=W.heap.size/\X.grownBy W none/\eU W X.heap.size A n c (db t0 l) (cX t0 none (l.take p)).length/\W.heap[w1.heap.size]?=some (.cells #[.int .i64 (aY t0 (cW (l.take p) none)).t,.int .u32 (aY t0 (cW (l.take p) none)).u,.int .u32 (aY t0 (cW (l.take p) none)).v,.bool (aY t0 (cW (l.take p) none)).add] 62 (0,0))/\aE W w2.heap.size 62 4 B bn bc (cE (l.take p)),
    ⟨_,0,rfl,by omega,rfl,Nat.le_refl _,GQ,by simpa[cX]using R2,by simpa[cW,aY]using b2,aE.nil _ _ _ _⟩,?_⟩
  rintro m B bn bc i w4 ⟨p,rfl,hp,rfl,WY,hg,hR,HQ,oB⟩;have Jt:bn=p:=by have h':=oB.cases.1;rw[dz,List.length_take]at h';omega
  refine⟨fun FE=>?_,fun FJ=>?_⟩
  · have lp:p<l.length:=by omega
    have JK:l=l.take p++(l[p] ::l.drop (p+1)):=by rw[← List.drop_eq_getElem_cons lp,List.take_append_drop]
    have Kc:=hD;rw[JK,dV.append]at Kc;obtain⟨PW,Jf,_⟩:=Kc;have Gi:∀ q,cW (l.take p) none=some q->q∈l:=by
      intro q hq;cases p with
      | zero=>simp[cW]at hq
      | succ p =>
        rw[List.take_succ_eq_append_getElem (show p<l.length by omega),eQ]at hq;cases hq;exact List.getElem_mem _
    have Ip:(decide ((p:Int)=0))=!(cW (l.take p) none).isSome:=by
      cases p with
      | zero=>simp[cW]
      | succ p=>rw[List.take_succ_eq_append_getElem (show p<l.length by omega),eQ];simp;omega
    have Ka:iG (cW (l.take p) none):=by
      intro q hq;have h1:=hb.mem (Gi q hq);have h2:=(jm.1 hd).1 _ (Gi _ hq);omega
    obtain⟨e,he⟩:∃ e,e=l[p]:=⟨_,rfl⟩;have SU:=hN _ (List.getElem_mem lp);rw[← he]at Jf SU;have HE:l.take (p+1)=l.take p++[e]:=by rw[List.take_succ_eq_append_getElem lp,he]
    have Gg:cX t0 none l=cX t0 none (l.take p)++(qM t0 (cW (l.take p) none) e++cX t0 (some e) (l.drop (p+1))):=by
      conv=>lhs;rw[JK]
      rw[iE,cX,← he]
    obtain⟨R,Wq⟩:∃ R,R=List.replicate (8*(((cX t0 none l).length+7) / 8)-(cX t0 none l).length) false:=⟨_,rfl⟩;have F8:(aM (db t0 l)).drop (cX t0 none (l.take p)).length=qM t0 (cW (l.take p) none) e++(cX t0 (some e) (l.drop (p+1))++R):=by
      unfold db;rw[P7,← Wq,Gg,List.append_assoc,List.drop_left' rfl,List.append_assoc]
    rw[Ip];refine⟨_,aB HQ 0,_,aB HQ 1,_,aB HQ 2,_,aB HQ 3,(wD hR (by omega) (cA _ _) F8 Jf Ka (fun q hq=>by have:=hb.mem (Gi q hq);omega) (.inl h0.1)).mono fun ev w5 hh=>?_⟩;obtain⟨rfl,R5,K5⟩:=hh;have z2:w1.heap.size<w2.heap.size:=(Array.getElem?_eq_some_iff.1 b2).1;have Tv:w5.heap[w1.heap.size]?=some (.cells #[.int .i64 (aY t0 (cW (l.take p) none)).t,.int .u32 (aY t0 (cW (l.take p) none)).u,.int .u32 (aY t0 (cW (l.take p) none)).v,.bool (aY t0 (cW (l.take p) none)).add] 62 (0,0)):=by rw[K5.block _ (Array.getElem?_eq_some_iff.1 HQ).1 (by omega)];exact HQ
    have g5:X.grownBy w5 none:=((Kp.of_none (S:=fun k=>X.heap.size<=k) hg).then K5 (fun k _ h=>by omega)).grown (fun k hk e=>by omega);have oB5:=oB.kp K5 (fun q hq e=>by have:=oB.block_ge q hq;omega);obtain⟨w6,hE,pE0,qE0,pE1,qE1,pE2,qE2,pE3,qE3,bE,gE⟩:=nY w5 62 (.int .i64 0) (.int .u32 0) (.int .u32 0) (.bool false) (.int .i64 e.t) (.int .u32 e.u) (.int .u32 e.v) (.bool e.add);refine⟨_,_,_,_,_,rfl,pE0,qE0,pE1,qE1,pE2,qE2,pE3,qE3,?_⟩;rw[← hE];have g6:=aA g5 gE;refine⟨fun b Y=>b=false/\w6.grownBy Y none,⟨fun h=>(by cases h),fun _=>⟨_,aB bE 1,_,aB bE 2,(pK (e.u,e.v) (n:=N) (by have:=Jf.2.1;simp only;omega)).mono fun ev w7 hh=>?_⟩⟩,?_⟩
    · obtain⟨rfl,g7⟩:=hh;have:decide ((e.u,e.v).1<(e.u,e.v).2/\(e.u,e.v).2<N)=true:=decide_eq_true ⟨Jf.2.1.2.1,SU⟩;rw[this];exact⟨_,rfl,rfl,g7⟩
    rintro b w7 ⟨rfl,g7⟩;refine⟨fun h=>(by cases h),fun _=>?_⟩;have gd:=aA g7 (aH (aC w7 none));obtain⟨w8,P5⟩:∃ w8,w8=w7.drew:=⟨_,rfl⟩;rw[← P5]at gd ⊢;have bE8:=aI bE gd;have L8:=aI (aI Tv gE) gd;have g8:=aA g6 gd;have R8:=(R5.kept gE).kept gd;have gA:=World.grownBy_alloc w8 (.cells #[.int .i64 e.t,.int .u32 e.u,.int .u32 e.v,.bool e.add] 62) none;have rA:aZ (w8.alloc (.cells #[.int .i64 e.t,.int .u32 e.u,.int .u32 e.v,.bool e.add] 62)) (some ⟨w8.heap.size,0,none⟩) (cE [e]):=jr w8 #[.int .i64 e.t,.int .u32 e.u,.int .u32 e.v,.bool e.add] 62;have oB9:=oB5.kp (S:=fun _=>False) (Kp.of_none (aA gE (aA gd gA))) (fun _ _ e=>e);have g9:=aA g8 gA;have T6:w2.heap.size<=(w8.alloc (.cells #[.int .i64 e.t,.int .u32 e.u,.int .u32 e.v,.bool e.add] 62)).heap.size:=by
      have h1:=(Array.getElem?_eq_some_iff.1 bE8).1;have h2:=gA.size;have h3:=K5.size;omega
    obtain⟨A8,n8,c8,w9,r9,o9,gr9,_⟩:=eh (m:=1) (d:=1) oB9 rA rfl (fun h=>by cases h) (by omega) T6;have far:∀ {k:Nat} {o:Obj},k<w8.heap.size->(k<w2.heap.size∨(∃ cur,o=.cells cur 62 (0,0)/\k=w5.heap.size))->w8.heap[k]?=some o->(∀ q,(Value.slice B bn bc).ownBlock=some q->q≠k)->w9.heap[k]?=some o:=fun hk _ hb FG=>by
      have GP:=aI hb gA;rw[gr9.block _ (Array.getElem?_eq_some_iff.1 GP).1 (fun e=>FG _ e.symm rfl)];exact GP
    have nb:∀ q,(Value.slice B bn bc).ownBlock=some q->w2.heap.size<=q/\q<w4.heap.size:=fun q hq=>⟨oB.block_ge q hq,oB.block_lt q hq⟩;have s4:=K5.size;have bE9:=far (Array.getElem?_eq_some_iff.1 bE8).1 (.inr ⟨_,rfl,rfl⟩) bE8 (fun q hq e=>by have:=nb q hq;omega);have L9:=far (Array.getElem?_eq_some_iff.1 L8).1 (.inl z2) L8 (fun q hq e=>by have:=nb q hq;omega);have R7:=bZ g9 gr9 fun q hq=>by have:=(World.ownsRow.lt oB9 q hq).1;omega
    have R9:eU w9 X.heap.size A n c (db t0 l) ((cX t0 none (l.take p)).length+(qM t0 (cW (l.take p) none) e).length):=by
      refine(R8.kept gA).kp (Kp.of_grown gr9) (fun e=>by have:=nb _ e.symm;omega) (fun a ha=>?_);by_cases hz:db t0 l=[]
      · exact .inl hz
      · right;intro e;obtain⟨b,x1,x2⟩:=hr.blk (by intro e;exact hz (by simpa[bV]using e));rw[ha]at x1;cases x1;have:=nb _ e.symm;omega
    have t1:=aG L9 0 (.int .i64 e.t);have t2:=aG t1 1 (.int .u32 e.u);have t3:=aG t2 2 (.int .u32 e.v);have t4:=aG t3 3 (.bool e.add);obtain⟨FZ,LF⟩:∃ FZ,FZ=(((w9.setCell ⟨w1.heap.size,0,none⟩ (.int .i64 e.t)).setCell ⟨w1.heap.size,1,none⟩ (.int .u32 e.u)).setCell ⟨w1.heap.size,2,none⟩ (.int .u32 e.v)).setCell ⟨w1.heap.size,3,none⟩ (.bool e.add):=⟨_,rfl⟩;have K10:Kp w9 FZ (fun k=>k=w1.heap.size):=by rw[LF];exact bK (bK (bK (bK (Kp.refl w9 _) rfl) rfl) rfl) rfl
    have far2:∀ {k:Nat} {o:Obj},w9.heap[k]?=some o->k≠w1.heap.size->FZ.heap[k]?=some o:=fun hb FG=>by rw[K10.block _ (Array.getElem?_eq_some_iff.1 hb).1 FG];exact hb
    have FT:∀ Y:World,Y.heap[w5.heap.size]?=some (.cells #[.int .i64 e.t,.int .u32 e.u,.int .u32 e.v,.bool e.add] 62 (0,0))->Y.cell? ⟨w5.heap.size,0,none⟩=some (.int .i64 e.t)/\Y.cell? ⟨w5.heap.size,1,none⟩=some (.int .u32 e.u)/\Y.cell? ⟨w5.heap.size,2,none⟩=some (.int .u32 e.v)/\Y.cell? ⟨w5.heap.size,3,none⟩=some (.bool e.add):=fun Y h=>⟨aB h 0,aB h 1,aB h 2,aB h 3⟩;have X5:w1.heap.size<w5.heap.size:=(Array.getElem?_eq_some_iff.1 Tv).1;refine⟨fun Y=>Y.heap[w5.heap.size]?=some (.cells #[.int .i64 e.t,.int .u32 e.u,.int .u32 e.v,.bool e.add] 62 (0,0)),bE8,e.t,(FT _ bE8).1,e.u,(FT _ bE8).2.1,e.v,(FT _ bE8).2.2.1,e.add,(FT _ bE8).2.2.2,aI bE8 gA,A8,n8,c8,w9,r9,bE9,e.t,fun Y h=>(FT Y h).1,e.u,fun Y h=>(FT Y h).2.1,e.v,fun Y h=>(FT Y h).2.2.1,e.add,fun Y h=>(FT Y h).2.2.2,⟨_,aB L9 0⟩,aD L9 0,⟨_,aB t1 1⟩,aD t1 1,⟨_,aB t2 2⟩,aD t2 2,⟨_,aB t3 3⟩,aD t3 3,?_⟩;rw[← LF];refine⟨far2 bE9 (by omega),by omega,_,?_,p+1,by omega,by omega,rfl,?_,?_,?_,?_,?_⟩
    · omega
    · have h1:=gr9.size;have h2:=K10.size;omega
    · exact((Kp.of_none (S:=fun k=>X.heap.size<=k) R7).then K10 (fun k _ h=>by omega)).grown (fun k hk e=>by omega)
    · have:(cX t0 none (l.take (p+1))).length=(cX t0 none (l.take p)).length+(qM t0 (cW (l.take p) none) e).length:=by
        rw[HE,iE,List.length_append];simp[cX]
      rw[this];refine R9.kp K10 (by omega) (fun a ha=>?_);by_cases hz:db t0 l=[]
      · exact .inl hz
      · right;intro e;obtain⟨b,x1,x2⟩:=hr.blk (by intro e;exact hz (by simpa[bV]using e));rw[ha]at x1;cases x1;omega
    · rw[HE,eQ,LF];simp only[aY,Option.getD_some];simpa using t4
    · rw[HE];exact o9.kp K10 (fun q hq e=>by have:=o9.block_ge q hq;omega)
  · have Ih:p=l.length:=by omega
    subst Ih;rw[List.take_length]at oB;refine(rf oB.row Jt (by omega) hD).mono fun ev w5 hh=>?_;obtain⟨A',n',c',rfl,o,g⟩:=hh;have g5:=aA hg g;refine⟨_,_,_,_,rfl,fun b Y=>b=false/\Y=w5,⟨fun h=>absurd rfl h,fun _=>⟨_,dg o.row (cC o),_,dg (hr.kept_none g5) hn,_,fun w=>kC _ _ _ _ w,by simp,rfl⟩⟩,?_⟩;rintro b Y ⟨rfl,rfl⟩;refine⟨fun h=>(by cases h),fun _=>⟨B,bn,bc,rfl,(oB.kp (S:=fun _=>False) (Kp.of_none g) (fun _ _ e=>e)).mono GQ.size,g5⟩⟩
theorem EJ:oq P 105 22 1 (P.bytesOf 22):=⟨(P.info? 22).getD default,((P.info? 22).getD default).zero.getD undef,by kernel_rfl,by kernel_rfl,by kernel_rfl,by kernel_rfl,by kernel_rfl,by kernel_rfl,by decide⟩
theorem DG:P.bytesOf 22<=64:=of_decide_eq_true (by kernel_rfl)
theorem AK{w:World}{base:Nat}{A:OA}{n c:Nat}{xs:List Nat}{x:Nat}(ho:aE w base 22 1 A n c (kr xs))(hn:n<=2^39)(hb:base<=w.heap.size):
    ∃ (A':OA) (n' c':Nat) (w':World),Sem.run P (Builtin.append_ #[105,105] 105 #[.slice A n c,.slice (some ⟨w.heap.size,0,none⟩) 1 1]) (w.alloc (.cells #[.int .u64 (x:Int)] 22))=.ok (.slice A' n' c') w' ∧
      aE w' base 22 1 A' n' c' (kr (xs++[x]))/\w.grownBy w' (Value.slice A n c).ownBlock:=by
  have g:=World.grownBy_alloc w (.cells #[.int .u64 (x:Int)] 22) none;have ro:=de w #[.int .u64 (x:Int)] 22;obtain⟨A',n',c',w',h1,h2,h3,h4,_⟩:=(ho.kp (S:=fun _=>False) (Kp.of_none g) (fun _ _ e=>e)).appends (ty:=105) EJ DG (a:=⟨w.heap.size,0,none⟩) (m:=1) (cc:=1) (us:=kr [x]) rfl (fun j u hj=>by obtain⟨b,q1,q2⟩:=ro j u hj;cases q1;exact q2) (fun u hu=>by simp at hu;rw[hu];rfl) (by omega) (Nat.le_trans hb g.size);exact⟨A',n',c',w',h1,by simpa using h2,aA (bF g) h4⟩
theorem tH {w:World} {A:OA} {n c:Nat} {l:List Nat} (hr:aZ w A (bV (aX l))) (hn:n=(aX l).length) (hc:n<=c) (hb:∀ x∈l,x<2^63) (hl:n<=2^20) :
    Calls P 93 #[.slice A n c] w fun ev w'=>∃(B:OA)(m d:Nat),ev=.returned (.tuple #[.slice B m d,.bool true])/\m=l.length/\aE w' w.heap.size 22 1 B m d (kr l)/\w.grownBy w' none:=by
  apply vc93;dsimp only[VC93,rt,Br,Ap,nb,iq]
  try simp only[aF]
  refine⟨fun m B k d i W=>∃ j:Nat,i=(((aX (l.take j)).length:Nat):Int)/\j<=l.length/\m=l.length-j/\k=j/\aE W w.heap.size 22 1 B k d (kr (l.take j))/\w.grownBy W none,⟨_,0,rfl,by omega,rfl,rfl,aE.nil _ _ _ _,aC _ _⟩,?_⟩;rintro m B k d i W ⟨j,rfl,hj,rfl,rfl,oB,g⟩;have tp:(((aX (l.take k)).length:Nat):Int).toNat=(aX (l.take k)).length:=by omega
  rw[tp];have JK:aX l=aX (l.take k)++aX (l.drop k):=by rw[← eJ,List.take_append_drop]
  have Qc:=congrArg List.length JK;rw[List.length_append]at Qc;have FJ:=x0 l;refine⟨fun FE=>?_,fun HV=>?_⟩
  · have lj:k<l.length:=by
      by_cases lj:k<l.length
      · exact lj
      · rw[List.take_of_length_le (by omega)]at FE;omega
    have Ri:aZ W (bB A c (aX (l.take k)).length 1) (bV ((aX l).drop (aX (l.take k)).length)):=kV (hr.kept_none g) (by omega);have Q8:(aX l).drop (aX (l.take k)).length=bX l[k]++aX (l.drop (k+1)):=by
      conv=>lhs;rw[JK]
      rw[List.drop_left' rfl,List.drop_eq_getElem_cons lj,dm]
    have Th:=hb _ (List.getElem_mem lj);have FM:=dW (most:=9223372036854775807) (n:=l[k]) (by omega) (by omega) (aX (l.drop (k+1)));refine⟨⟨by omega,by omega⟩,(fL (most:=9223372036854775807) Ri (by rw[List.length_drop];omega) (fun x hx=>rh l x (List.mem_of_mem_drop hx)) (by omega)).mono fun ev w2 hh=>?_⟩;obtain⟨rfl,g2⟩:=hh;rw[Q8,FM];refine⟨(l[k]:Int),(((bX l[k]).length:Nat):Int),0,rfl,fun h=>absurd rfl h,fun _=>?_⟩;have gW2:=aA g g2;have oB2:=oB.kp (S:=fun _=>False) (Kp.of_none g2) (fun _ _ e=>e);obtain⟨A3,n3,c3,w3,r3,o3,g3⟩:=AK (x:=l[k]) oB2 (by omega) gW2.size;have Jn:n3=k+1:=by have h':=o3.cases.1;simp at h';omega
    have HE:l.take (k+1)=l.take k++[l[k]]:=List.take_succ_eq_append_getElem lj;have FI:(aX (l.take (k+1))).length=(aX (l.take k)).length+(bX l[k]).length:=by rw[HE,eJ,List.length_append,dm,kE,List.append_nil]
    have JW:(aX (l.take (k+1))).length<=(aX l).length:=by
      have h1:=congrArg List.length (show aX l=aX (l.take (k+1))++aX (l.drop (k+1)) by rw[← eJ,List.take_append_drop]);rw[List.length_append]at h1;omega
    refine⟨A3,n3,c3,w3,r3,by omega,l.length-(k+1),by omega,k+1,by omega,by omega,rfl,Jn,by rw[HE];exact o3,bZ gW2 g3 fun q hq=>(World.ownsRow.lt oB2 q hq).1⟩
  · have:k=l.length:=by
      by_cases lj:k<l.length
      · have h1:0<(aX (l.drop k)).length:=by rw[List.drop_eq_getElem_cons lj,dm,List.length_append];have:=kF l[k];omega
        omega
      · omega
    subst this;rw[List.take_length]at oB;exact⟨_,_,_,rfl,rfl,oB,g⟩
theorem uc{w:World}{f g:Int}(hf:-1<=f)(hg:0<=g)(h:f+g+1<4294967296):Calls P 94 #[.int .i64 f,.int .u64 g] w fun ev w'=>ev=.returned (.tuple #[.int .i64 (f+g+1),.bool true])/\w'=w:=by
 apply vc94;dsimp only[VC94,rt,Br,iq]
 try simp only[aF]
 exact⟨fun h=>by omega,fun _=>⟨by omega,by omega,by omega,fun h=>by omega,fun _=>⟨by omega,by omega,by omega,by trivial,by trivial⟩⟩⟩
theorem zQ{w:World}{A:OA}{v:List Nat}(h:aZ w A (kr v)){p a:Nat}{r:List Nat}(hd:v.drop p=a ::r):p<v.length/\∃ b,A=some b/\w.cell? (b.add p)=some (.int .u64 (a:Int)):=by
 have hp:v[p]?=some a:=by
  have:=congrArg (fun x:List Nat=>x[0]?) hd;simpa using this
 have FE:=(List.getElem?_eq_some_iff.1 hp).1;refine⟨FE,h p (.int .u64 (a:Int)) ?_⟩;rw[List.getElem?_map,hp];rfl
theorem tO {w:World} {A:OA} {n c:Nat} {l:List Edge} {N:Int} (hr:aZ w A (bV (fF l))) (hn:n=(fF l).length) (hc:n<=c) (h:nz l) (hl:l.length<=2^10) (hN:∀ e∈l,e.2<N) :
    Calls P 53 #[.slice A n c,.int .u64 N] w fun ev w'=>∃(B:OA)(m d:Nat),ev=.returned (.tuple #[.slice B m d,.int .i64 0])/\aE w' w.heap.size 45 2 B m d (edges l)/\w.grownBy w' none:=by
  apply vc53;dsimp only[VC53,rt,Br,Bb,Rd,Ix,Ap,Eg,Cv,cT,nb,iq]
  try simp only[aF]
  have hE:=h.edgesB;have FE:=qe hE h.len;have Ry:=jQ hE h.len;refine(tH hr hn hc (fun x hx=>by have:=FE x hx;omega) (by omega)).mono fun ev w1 hh=>?_;obtain⟨V,vn,vc,rfl,Ny,oV,g1⟩:=hh;obtain⟨v,hv⟩:∃ v,v=uR l:=⟨_,rfl⟩;rw[← hv]at oV Ny FE;have Io:v=eR (-1) l ::dA (-1) 0 l:=hv;have MN:v.length<=3*l.length+1:=by rw[Io,List.length_cons];have:=uS (-1) 0 l;omega
  have Xc:0<v.length:=by rw[Io];simp
  refine⟨_,_,_,_,rfl,fun h=>(by cases h),fun _=>⟨fun h=>by omega,fun _=>?_⟩⟩;refine⟨fun m B bn bc u i W=>∃(p j:Nat)(vv:Int),i=(p:Int)/\p<=v.length/\m=v.length-p/\j<=l.length/\-1<=u/\v.drop p=dA u vv (l.drop j)/\(∀ h:j<l.length,u<l[j].1)/\aE W w1.heap.size 45 2 B bn bc (edges (l.take j))/\w1.grownBy W none,
    ⟨_,1,0,0,rfl,by omega,rfl,by omega,by omega,by rw[Io];rfl,fun hj=>by have:=h.right _ (List.getElem_mem hj);omega,aE.nil _ _ _ _,aC _ _⟩,?_⟩
  rintro m B bn bc u i W ⟨p,j,vv,rfl,hp,rfl,hj,hu,hd,NB,oB,gW⟩;have tp:(p:Int).toNat=p:=by omega
  have tp1:((p:Int)+1).toNat=p+1:=by omega
  rw[tp,tp1];refine⟨fun Iw=>?_,fun FJ=>?_⟩
  · have Gq:j<l.length:=by
      by_cases Gq:j<l.length
      · exact Gq
      · rw[show l.drop j=[] from List.drop_eq_nil_of_le (by omega)]at hd;have:=congrArg List.length hd;simp only[dA,List.length_drop,List.length_nil]at this;omega
    have he:=h.right _ (List.getElem_mem Gq);have Un:=NB Gq;have F9:=List.drop_eq_getElem_cons Gq;obtain⟨U,hU⟩:∃ U,U=l[j].1:=⟨_,rfl⟩;have hG:=nS u vv l[j] (l.drop (j+1)) (by omega);rw[← F9,← hU]at hG;rw[hG]at hd;obtain⟨MS,b,eb,fb⟩:=zQ (oV.row.kept_none gW) hd;refine⟨b,eb,by omega,by omega,_,fb,(uc hu (by omega) (by omega)).mono fun ev w3 hh=>?_⟩;obtain⟨rfl,rfl⟩:=hh;have hx:u+(((U-u-1).toNat:Nat):Int)+1=U:=by omega
    rw[hx];have OR:v.drop (p+1)=fM U (l.drop j) ::dA U U (l.drop j):=by rw[← List.drop_drop,hd];rfl
    have Jr:v.drop (p+2)=dA U U (l.drop j):=by rw[show p+2=p+1+1 by omega,← List.drop_drop,OR];rfl
    obtain⟨Ii,b1,eb1,fb1⟩:=zQ (oV.row.kept_none gW) OR;obtain⟨c0,Gz⟩:∃ c0,c0=fM U (l.drop j):=⟨_,rfl⟩;have Hw:=sM U (l.drop j);rw[List.length_drop]at Hw;rw[← Gz]at fb1 Hw;refine⟨_,_,rfl,fun h=>(by cases h),fun _=>⟨by omega,fun h=>by omega,fun _=>⟨by omega,b1,eb1,by omega,by omega,_,fb1,by omega,?_⟩⟩⟩;refine⟨fun m2 B bn bc i2 ww k X=>∃(p2 j2 kk:Nat),i2=(p2:Int)/\k=(kk:Int)/\kk<=c0/\m2=c0-kk/\p+2<=p2/\p2<=v.length/\j2<=l.length/\U<=ww/\v.drop p2=dA U ww (l.drop j2)/\c0=kk+fM U (l.drop j2)/\(∀ h:j2<l.length,U<=l[j2].1/\(l[j2].1=U->ww<l[j2].2))/\aE X w1.heap.size 45 2 B bn bc (edges (l.take j2))/\w1.grownBy X none,
      ⟨_,p+2,j,0,by omega,rfl,by omega,rfl,by omega,by omega,by omega,by omega,Jr,by omega,fun h=>⟨by omega,fun _=>by omega⟩,oB,gW⟩,?_⟩
    rintro m2 B bn bc i2 ww k X ⟨p2,j2,kk,rfl,rfl,Vh,rfl,LQ,Gl,Mc,Xb,Mi,IS,NA,oB2,gX⟩;have tp2:(p2:Int).toNat=p2:=by omega
    rw[tp2];have Jt:bn=(l.take j2).length:=(vg oB2).1;rw[List.length_take]at Jt;refine⟨fun Gn=>?_,fun HV=>⟨v.length-p2,by omega,p2,j2,ww,rfl,Gl,rfl,Mc,by omega,Mi,fun Oz=>?_,oB2,gX⟩⟩
    · have Iz:j2<l.length:=by
        by_cases Iz:j2<l.length
        · exact Iz
        · rw[show l.drop j2=[] from List.drop_eq_nil_of_le (by omega)]at IS;simp[fM]at IS;omega
      have I3:=List.drop_eq_getElem_cons Iz;have Q7:=h.right _ (List.getElem_mem Iz);have Hp:=hN _ (List.getElem_mem Iz);have FV:l[j2].1=U:=by
        by_cases hs:l[j2].1=U
        · exact hs
        · rw[I3,ek,if_neg hs]at IS;omega
      have Ud:=(NA Iz).2 FV;rw[I3,jD _ _ _ _ FV]at Mi;rw[I3,ek,if_pos FV]at IS;obtain⟨Km,b2,eb2,fb2⟩:=zQ (oV.row.kept_none gX) Mi;have VN:v.drop (p2+1)=dA U l[j2].2 (l.drop (j2+1)):=by rw[← List.drop_drop,Mi];rfl
      refine⟨fun h=>by omega,fun _=>⟨b2,eb2,by omega,by omega,_,fb2,(uc (by omega) (by omega) (by omega)).mono fun ev X2 hh=>?_⟩⟩;obtain⟨rfl,rfl⟩:=hh;have hy:ww+(((l[j2].2-ww-1).toNat:Nat):Int)+1=l[j2].2:=by omega
      rw[hy];have gA:=World.grownBy_alloc X2 (.cells #[.int .u32 U,.int .u32 l[j2].2] 45) none;have rA:aZ (X2.alloc (.cells #[.int .u32 U,.int .u32 l[j2].2] 45)) (some ⟨X2.heap.size,0,none⟩) (edges [(U,l[j2].2)]):=jr X2 #[.int .u32 U,.int .u32 l[j2].2] 45;have oB3:=oB2.kp (S:=fun _=>False) (Kp.of_none gA) (fun _ _ e=>e);have gX3:=aA gX gA;obtain⟨A4,n4,c4,X4,r4,o4,g4,_⟩:=dI (m:=1) (d:=1) oB3 rA rfl (fun h=>by cases h) (by omega) gX3.size;have HE:l.take (j2+1)=l.take j2++[(U,l[j2].2)]:=by
        rw[List.take_succ_eq_append_getElem Iz,← FV]
      refine⟨_,_,rfl,fun h=>(by cases h),fun _=>⟨by omega,fun h=>by omega,fun _=>⟨by omega,by omega,A4,n4,c4,X4,r4,by omega,by omega,c0-(kk+1),by omega,p2+1,j2+1,kk+1,by omega,by omega,by omega,rfl,by omega,by omega,by omega,by omega,VN,by omega,fun Oz=>?_,by rw[HE];exact o4,bZ gX3 g4 fun q hq=>(World.ownsRow.lt oB3 q hq).1⟩⟩⟩;have:=List.pairwise_iff_getElem.1 h.rise j2 (j2+1) Iz Oz (by omega);rw[dK]at this;exact⟨by omega,fun _=>by omega⟩
    · have h4:=NA Oz;have hz:fM U (l.drop j2)=0:=by omega
      rw[List.drop_eq_getElem_cons Oz,ek]at hz;split at hz
      · omega
      · omega
  · have Gq:j=l.length:=by
      have h1:=congrArg List.length hd;rw[List.length_drop]at h1;have h2:=BH u vv (l.drop j);rw[List.length_drop]at h2;omega
    subst Gq;rw[List.take_length]at oB;refine(tP oB.row (vg oB).1 (by rw[(vg oB).1];omega) h).mono fun ev w3 hh=>?_;obtain⟨A3,n3,c3,rfl,o3,g3⟩:=hh;have Gv:=aA gW g3;refine⟨_,_,_,_,rfl,fun h=>absurd rfl h,fun _=>⟨_,dg o3.row (cC o3),_,dg ((hr.kept_none g1).kept_none Gv) hn,_,fun w=>kC _ _ _ _ w,fun h=>by simp at h,fun _=>⟨B,bn,bc,rfl,(oB.kp (S:=fun _=>False) (Kp.of_none g3) (fun _ _ e=>e)).mono g1.size,aA g1 Gv⟩⟩⟩
theorem vb{w:World}{A:OA}{n c:Nat}{key:List Edge}{l:List aW}{t0 N:Int}(hr:aZ w A (bV (dY t0 key l)))(hn:n=(dY t0 key l).length)(hc:n<=c)(hB:uZ t0 key l)(M0:key.length<=2^8)(SG:l.length<=2^8)(Vj:∀ e∈key,e.2<N)(Vf:∀ e∈l,e.v<N):
    Calls P 23 #[.slice A n c,.int .u64 N,.int .i64 t0,.int .i64 (l.length:Int)] w fun ev w'=>∃(B:OA)(m d:Nat)(C:OA)(k e:Nat),ev=.returned (.tuple #[.slice B m d,.slice C k e,.int .i64 0])/\aE w' w.heap.size 45 2 B m d (edges key)/\aE w' w.heap.size 62 4 C k e (cE l)/\w.grownBy w' none:=by
  apply vc23;dsimp only[VC23,rt,Br,Bb,Eg,Cv,cT,iq]
  try simp only[aF]
  have Ry:=jQ hB.adj.edgesB hB.adj.len;have I2:=(fE hB.del).1;have h1:=fv (dx key) (by omega);have h2:=fv (cA t0 l) (by omega);have hx:dY t0 key l=bX (cy (fF key)).length++(cy (fF key)++cy (db t0 l)):=rfl;have Nv:=congrArg List.length hx;simp only[List.length_append]at Nv;have h3:=cK (v:=(cy (fF key)).length) (by omega);have VT:aQ (dY t0 key l):=jy _ _ _;refine(fL (most:=1099511627776) hr hn VT (by omega)).mono fun ev w1 hh=>?_;obtain⟨rfl,g1⟩:=hh;have FM:=dW (most:=1099511627776) (n:=(cy (fF key)).length) (by omega) (by omega) (cy (fF key)++cy (db t0 l));rw[← hx]at FM;rw[FM];obtain⟨k,hk⟩:∃ k,k=(bX (cy (fF key)).length).length:=⟨_,rfl⟩;obtain⟨q,hq⟩:∃ q,q=(cy (fF key)).length:=⟨_,rfl⟩;rw[← hk,← hq]at Nv ⊢;rw[← hk]at h3;refine⟨(q:Int),(k:Int),0,rfl,fun h=>absurd rfl h,fun _=>?_⟩;have tk:(k:Int).toNat=k:=by omega
  have tkq:((k:Int)+(q:Int)).toNat=k+q:=by omega
  rw[tk,tkq,Nat.add_sub_cancel_left];have r1:aZ w1 (bB A c k 1) (bV ((dY t0 key l).drop k)):=kV (hr.kept_none g1) (by omega);have SX:(dY t0 key l).drop k=cy (fF key)++cy (db t0 l):=by rw[hx,hk,List.drop_left' rfl]
  have r1':=fd r1 q;rw[SX,List.take_left' hq.symm]at r1';have r2:aZ w1 (bB A c (k+q) 1) (bV (cy (db t0 l))):=by
    have:=kV (k:=k+q) (hr.kept_none g1) (by omega:(dY t0 key l).length<=c);rw[← List.drop_drop,SX,List.drop_left' hq.symm]at this;exact this
  refine⟨by omega,by omega,fun h=>by omega,fun _=>⟨by omega,by omega,⟨by omega,by omega,by omega,by omega⟩,(q8 r1' hq (by omega) (iU _) (by omega)).mono fun ev w2 hh=>?_⟩⟩;obtain⟨g2,⟨A2,n2,c2,o2,rfl,ro2,⟨Hp,Nc⟩,FX,IR,Gl⟩ | ⟨_,GK⟩⟩:=hh
  · have e2:=pM FX (dx key) (by omega) (by omega) Gl;subst e2;refine⟨_,_,_,_,rfl,by omega,by omega,⟨by omega,by omega⟩,(q8 (r2.kept_none g2) (by omega) (by omega) (iU _) (by omega)).mono fun ev w3 hh=>?_⟩;obtain⟨g3,⟨A3,n3,c3,o3,rfl,ro3,⟨Jn,Kq⟩,Lt,Xl,Km⟩ | ⟨_,GK⟩⟩:=hh
    · have e3:=pM Lt (cA t0 l) (by omega) (by omega) Km;subst e3;refine⟨_,_,_,_,rfl,fun h=>absurd rfl h,fun _=>⟨fun h=>absurd rfl h,fun _=>(tO (ro2.kept_none g3) Hp Nc hB.adj (by omega) Vj).mono fun ev w4 hh=>?_⟩⟩;obtain⟨A4,n4,c4,rfl,o4,g4⟩:=hh;refine⟨_,_,_,_,rfl,(wE (ro3.kept_none g4) Jn Kq hB.del (by omega) hB.ne Vf).mono fun ev w5 hh=>?_⟩;obtain⟨A5,n5,c5,rfl,o5,g5⟩:=hh;have PZ:=o4.kp (S:=fun _=>False) (Kp.of_none g5) (fun _ _ e=>e);obtain⟨IP,Js,RU⟩:=vg PZ;have IN:n5=l.length:=by have h':=o5.cases.1;rw[dz]at h';omega
      refine⟨_,_,_,_,rfl,fun h=>absurd rfl h,fun _=>⟨fun h=>absurd rfl h,fun _=>(zG PZ.row IP Js RU o5.row IN (by omega) (by omega) hB.adj hB.del hB.ne).mono fun ev w6 hh=>?_⟩⟩;obtain⟨A6,n6,c6,rfl,o6,g6⟩:=hh;have RR:CB key l=0:=by unfold CB;rw[if_pos hB.fit]
      have Pc:CA t0 key l=dY t0 key l:=by unfold CA;rw[if_pos hB.fit]
      rw[Pc]at o6;rw[RR];have Gv:=aA g1 (aA g2 g3);have Kh:=aA Gv (aA g4 g5);have MK:=aA Kh g6;exact⟨_,_,_,_,rfl,fun h=>absurd rfl h,fun _=>⟨_,dg o6.row (cC o6),_,dg (hr.kept_none MK) hn,_,fun w=>kC _ _ _ _ w,fun h=>by simp at h,fun _=>⟨_,_,_,_,_,_,rfl,(PZ.kp (S:=fun _=>False) (Kp.of_none g6) (fun _ _ e=>e)).mono Gv.size,(o5.kp (S:=fun _=>False) (Kp.of_none g6) (fun _ _ e=>e)).mono (aA Gv g4).size,MK⟩⟩⟩
    · exact absurd rfl (GK _ (cA t0 l) (by omega))
  · exact absurd rfl (GK _ (dx key) (by omega))
theorem xC{w:World}{A:OA}{n c:Nat}{l:List Int}{k s i:Int}(hk:0<=k/\k<=255)(Gm:aZ w A (bV l))(hn:n=l.length)(hb:aQ l)(hs:0<=s/\s<=255)(hi:0<=i/\i<=255):
    Calls P 6 #[.int .u8 k,.slice A n c,.int .u8 s,.int .u8 i] w fun ev w'=>ev=.returned (.bool true)/\w.grownBy w' none:=by
  apply vc6;dsimp only[VC6,rb,Wt,Br,Bb,Rd,Rs,Ix,Ws,cI,cB,cS,cT,nb,ad,iq]
  try simp only[aF,mnI]
  refine vj.mono fun ev w1 hh=>?_;obtain⟨rfl,g1⟩:=hh;refine⟨true,rfl,fun h=>absurd h (by simp),fun _=>⟨fun _=>⟨by trivial,g1⟩,fun X0=>?_⟩⟩;have hG:=Aa (k:=k) hb (by omega);refine(vo (Gm.kept_none g1) hn hb hk (by omega)).mono fun ev w2 hh=>?_;obtain⟨L,hL⟩:∃ L,L=iz k l:=⟨_,rfl⟩;obtain⟨N,hN⟩:∃ N,N=jW k:=⟨_,rfl⟩;rw[← hL,← hN]at hh hG;obtain⟨A2,n2,c2,rfl,o2,g2⟩:=hh;have Hp:n2=L.length:=by have:=o2.cases.1;rw[dz]at this;omega
  have FI:=hG.len;obtain⟨w3,hH,pH0,qH0,pH1,qH1,bH,gH⟩:=yq w2 25 (.int .u64 0) (.slice none 0 0) (.int .u64 N) (.slice A2 n2 c2);refine⟨_,_,_,_,rfl,pH0,qH0,pH1,qH1,?_⟩;rw[← hH];obtain⟨z,hz⟩:∃ z,z=tD s:=⟨_,rfl⟩;have Kx:1<=z/\z<=1048576:=by rw[hz];exact BZ s
  refine(xR hs.1).mono fun ev w4 hh=>?_;rw[← hz]at hh;obtain⟨rfl,g4⟩:=hh;have b4:=aI bH g4;refine⟨_,rfl,N,aB b4 0,A2,n2,c2,aB b4 1,(ju ((o2.row.kept_none gH).kept_none g4) Hp (eH o2) (dp o2) hG Kx).mono fun ev w5 hh=>?_⟩;obtain⟨F,fn,fc,rfl,oF,g5⟩:=hh;have M7:fn=(gg N L z).length:=by have h':=oF.cases.1;unfold bV at h';rw[List.length_map]at h';omega
  have M9:=eH oF;refine⟨_,_,_,_,rfl,(lI oF.row M7 M9 hG Kx).mono fun ev w6 hh=>?_⟩;obtain⟨Y,yn,yc,rfl,oY,g6⟩:=hh;have Kj:yn=fC L.length z:=by have h':=oY.cases.1;rw[fN,eG]at h';omega
  have Nu:=eH oY;have b6:=aI b4 (aA g5 g6);obtain⟨Lc,WC⟩:∃ Lc,Lc=(L.length:Int):=⟨_,rfl⟩;obtain⟨zc,P1⟩:∃ zc,zc=(z:Int):=⟨_,rfl⟩;rw[← WC,← P1];obtain⟨w7,hT,pT0,qT0,pT1,qT1,pT2,qT2,bT,gT⟩:=Fa w6 51 (.int .u64 0) (.int .i64 0) (.int .i64 0) (.int .u64 N) (.int .i64 zc) (.int .i64 Lc);refine⟨_,_,_,_,_,_,_,rfl,pT0,qT0,pT1,qT1,pT2,qT2,?_⟩;rw[← hT];have b7:=aI b6 gT;have gpre:=aA g1 (aA g2 (aA gH (aA g4 (aA g5 (aA g6 gT)))));have TM:=aA g6 gT;have MJ:=aA g4 (aA g5 TM);obtain⟨m,hm⟩:∃ m,m=fC L.length z:=⟨_,rfl⟩;rw[← hm]at Kj oY;have Mh:((n2:Int)+zc-1) / zc=(m:Int):=by rw[Hp,P1,hm];exact mT Kx.1
  have MZ:m<=L.length:=by rw[hm];exact pP Kx.1
  refine⟨fun h=>absurd rfl h,fun _=>⟨fun h=>absurd rfl h,fun _=>⟨A2,n2,c2,aB b7 1,by omega,by omega,⟨by omega,by omega,by rw[Mh];omega⟩,fun h=>absurd (by rw[Mh,Kj]) h,fun _=>⟨fun h0=>⟨A2,n2,c2,aB b7 1,?_,gpre⟩,fun h0=>⟨by omega,⟨by omega,by omega⟩,?_⟩⟩⟩⟩⟩
  · have:=ud (n:=L.length) (k:=z) Kx.1;rw[← hm]at this;have Kn:m=0:=by omega
    rw[Kn,Nat.zero_mul]at this;have:n2=0:=by omega
    rw[this];rfl
  have h1:=Int.emod_nonneg i (show(yn:Int)≠0 by omega);have h2:=Int.emod_lt_of_pos i (show(0:Int)<(yn:Int) by omega);obtain⟨p,hp⟩:∃ p:Nat,i % (yn:Int)=(p:Int):=⟨(i % (yn:Int)).toNat,by omega⟩;rw[hp]at h1 h2 ⊢;have tp:(p:Int).toNat=p:=by omega
  rw[tp];have lp:p<m:=by omega
  have Hx:p*z<L.length:=(io Kx.1).1 (by omega);have tpz:((p:Int)*zc)=((p*z:Nat):Int):=by rw[P1];simp
  rw[tpz];have tpz2:((p*z:Nat):Int).toNat=p*z:=by omega
  rw[tpz2];have Hw:(eu L z m).length=m:=eG;have Uy:(eu L z m)[p]'(by rw[Hw];exact lp)=je L z p:=by unfold eu;simp
  have rY:=fun {X:World} (hX:w7.grownBy X none)=>nG ((oY.row.kept_none gT).kept_none hX) (j:=p) (by rw[Hw];exact lp);rw[Uy]at rY;have IC:=hG.blen Kx.1 Hx;have J6:=hG.blk Kx.1 Hx;have M0:=hG.keyLen (k:=z) (i:=p);have ON:=hG.evLen (k:=z) (i:=p);have Mg:=mb (l:=L) (k:=z) (i:=p);refine(mj (i:=p) (oF.row.kept_none TM) M7 M9 hG Kx (by rw[← hm];exact oY.row.kept_none gT) (by rw[← hm];exact Kj) (by omega) (by omega)).mono fun ev W1 hh=>?_;obtain⟨Z,zn,zc',rfl,oZ,gZ⟩:=hh;have Sa:zn=(dQ L z p).length:=by have h':=oZ.cases.1;unfold bV at h';rw[List.length_map]at h';omega
  have gd:=aH (aC W1 none);obtain⟨W2,KR⟩:∃ W2,W2=W1.drew:=⟨_,rfl⟩;refine⟨_,_,_,_,rfl,?_⟩;rw[← KR]at gd ⊢;have gW2:w7.grownBy W2 none:=aA gZ gd;obtain⟨a,e0,e1,e2,e3⟩:=rY gW2;have TU:=aI b7 gW2;have GN:min zc ((n2:Int)-((p*z:Nat):Int))=(((jV L z p).length:Nat):Int):=by rw[Mg];omega
  have Hb:(je L z p).first=qo (jV L z p):=rfl;rw[Hb]at e2;refine⟨N,aB TU 0,a,e0,by omega,by omega,_,e2,A2,n2,c2,aB TU 1,by omega,by omega,?_⟩;rw[GN];have oZ2:=oZ.kp (S:=fun _=>False) (Kp.of_none gd) (fun _ _ e=>e);have rowL:=(o2.row.kept_none gH).kept_none MJ;refine(vb (key:=ki L z p) (l:=jV L z p) oZ2.row Sa (eH oZ2) J6 (by omega) (by omega) (fun e he=>(hG.keyM.2 e he).2.2) (fun e he=>(hG.evM e he).2.2.2)).mono fun ev W3 hh=>?_;obtain⟨B3,m3,d3,C3,k3,e3',rfl,oK,oE,g3⟩:=hh;have gW3:=aA gW2 g3;have TT:=aI b7 gW3;refine⟨_,_,_,_,_,_,_,rfl,N,aB TT 0,A2,n2,c2,aB TT 1,by omega,(zg (N:=N) (k:=((p*z:Nat):Int)) (rowL.kept_none gW3) Hp (by omega) hG.evtsU).mono fun ev W4 hh=>?_⟩;obtain⟨B4,m4,d4,rfl,oA,ga4⟩:=hh;rw[hG.after]at oA;have oK4:=oK.kp (S:=fun _=>False) (Kp.of_none ga4) (fun _ _ e=>e);have gW4:=aA gW3 ga4;refine⟨_,_,_,_,rfl,fun _=>⟨fun _=>(mv oK4.row (vg oK4).1 oA.row (vg oA).1 (by rw[(vg oK4).1];omega)).mono fun ev W5 hh=>?_,fun h=>absurd rfl h⟩,fun h=>absurd rfl h⟩;obtain⟨rfl,g5'⟩:=hh;have gW5:=aA gW4 g5';have TS:=aI b7 gW5;have MU:Bh N L zc=0:=tZ.2 ⟨hG.chk,by omega,by omega⟩;have L4:vk N L zc (p:Int)=ki L z p:=by
    unfold vk;rw[if_pos ⟨MU,by omega,by rw[← Hp,Mh];omega⟩,tpz,hG.after]
  refine⟨_,rfl,fun _=>⟨N,aB TS 0,A2,n2,c2,aB TS 1,(rH (k:=zc) (i:=(p:Int)) (rowL.kept_none gW5) Hp (eH o2) (dp o2) hG.n.1 (by omega) hG.evtsU).mono fun ev W6 hh=>?_⟩,fun h=>by simp at h⟩;obtain⟨B6,m6,d6,rfl,oQ,g6'⟩:=hh;rw[L4]at oQ;have gW6:=aA gW5 g6';have oA6:=oA.kp (S:=fun _=>False) (Kp.of_none (aA g5' g6')) (fun _ _ e=>e);refine⟨_,_,_,rfl,(mv oQ.row (vg oQ).1 oA6.row (vg oA6).1 (by rw[(vg oQ).1];omega)).mono fun ev W7 hh=>?_⟩;obtain⟨rfl,g7'⟩:=hh;have gW7:=aA gW6 g7';have TR:=aI b7 gW7;have Ha:(min (((p*z:Nat):Int)+zc) (n2:Int)).toNat-p*z=(jV L z p).length:=by rw[Mg];omega
  have Nc:=eH o2;refine⟨_,rfl,fun _=>⟨A2,n2,c2,aB TR 1,by omega,by omega,by omega,A2,n2,c2,aB TR 1,⟨by omega,by omega,by omega,by omega⟩,?_⟩,fun h=>by simp at h⟩;rw[Ha];have rev:aZ W7 (bB A2 c2 (p*z) 4) (cE (jV L z p)):=td (Dy (k:=p*z) (rowL.kept_none gW7) (dp o2) (by omega:L.length<=c2)).1 z;have oE7:=oE.kp (S:=fun _=>False) (Kp.of_none (aA ga4 (aA g5' (aA g6' g7')))) (fun _ _ e=>e);have PJ:k3=(jV L z p).length:=by have h':=oE7.cases.1;rw[dz]at h';omega
  refine(kB oE7.row PJ rev rfl (by omega)).mono fun ev W8 hh=>?_;obtain⟨rfl,g8⟩:=hh;exact⟨_,rfl,by simp,aA gpre (aA gW7 g8)⟩
end Go.Proofs.YtlieaecnllkefaaGreat
