/- snap.After: the walk. -/
import Derived.Test.YtlieaecnllkefaaGreatGSg
import Derived.Test.YtlieaecnllkefaaGreatGPg
import Derived.Laws.Build
set_option linter.unusedVariables false
set_option linter.unusedSimpArgs false
set_option maxHeartbeats 4000000
set_option maxRecDepth 100000
namespace Go.Proofs.YtlieaecnllkefaaGreat
open Go Go.V Go.RowKit
theorem AA:∀ x y:Edge,gl x=gl y->x=y:=fun x y h=>by
 obtain⟨a,b⟩:=x;obtain⟨c,d⟩:=y;simp[gl]at h;simp[h]
theorem _root_.Go.V.IterAt.nodup{w:World}{r b:Nat}{L:List (Edge×Bool)}{done:List Edge}{last:Option (Edge×Bool)}(h:IterAt gl Value.bool w r b L done last):(L.map Prod.fst).Nodup:=by
 obtain⟨es,clock,since,seen,c0,h1,h2,h3,h4,h5,h6,EL,_⟩:=h;exact EL
theorem vF{w:World}{base ge n c:Nat}{A:OA}{out:List Edge}(ho:aH w base 45 2 A n c (edges out))(he:w.heap[ge]?=some (.cells #[.slice A n c] 40 (0,0)))(hn:n<50)(EL:out.Nodup):
    Calls P 63 #[.iface 40 (.slice A n c),fw ge] w fun ev w'=>ev=.returned (.tuple #[])/\∃ out',aH w' base 45 2 A n c (edges out')/\w'.heap[ge]?=some (.cells #[.slice A n c] 40 (0,0))/\w.grownBy w' (Value.slice A n c).ownBlock/\out'.Perm out/\fp out':=by
  have hl:n=out.length:=by have:=ho.cases.1;rw[dA]at this;omega
  by_cases h0:n=0
  · subst h0;refine Cu.mono fun ev w1 hh=>?_;obtain⟨rfl,g1⟩:=hh;have:out=[]:=List.eq_nil_of_length_eq_zero hl.symm;subst this;exact⟨rfl,[],ho.kept g1,aE he g1,⟨g1.os,g1.tape,g1.output,g1.size,fun k hk _=>g1.block k hk (by simp)⟩,List.Perm.refl _,List.Pairwise.nil⟩
  by_cases h1:n=1
  · subst h1;refine Ct.mono fun ev w1 hh=>?_;obtain⟨rfl,g1⟩:=hh;refine⟨rfl,out,ho.kept g1,aE he g1,⟨g1.os,g1.tape,g1.output,g1.size,fun k hk _=>g1.block k hk (by simp)⟩,List.Perm.refl _,?_⟩;cases out with
    | nil=>simp at hl
    | cons a t=>cases t with
      | nil=>simp[fp]
      | cons b t=>simp at hl
  obtain⟨_,⟨_,q,_⟩ | ⟨g,cur,rfl,RW,Pv,L4,hg,Gl,Ei⟩⟩:=ho.cases
  · exact absurd q h0
  have hs:iU w g ge n c out.toArray:=⟨⟨cur,hg,Gl,by simpa using Ei⟩,he,by simp;omega,L4⟩;refine(vH hs (by omega) hn).mono fun ev w1 hh=>?_;obtain⟨rfl,d',s1,k1,hp,Fj⟩:=hh;obtain⟨cur',e1,e2,e3⟩:=s1.blk;have Ff:out.toArray.size=n:=by simp;omega
  rw[← Ff]at hp;have DT:=re hp;have hr:fp d'.toList:=vE (by rw[s1.sz];exact Fj) (DT.nodup_iff.2 (by simpa using EL));refine⟨rfl,d'.toList,aH.of_block RW e1 L4 Pv e2 (by rw[dA];have:=s1.sz;simp;omega) e3,s1.env,?_,by simpa using DT,hr⟩;exact⟨k1.os,k1.tape,k1.output,k1.size,fun k hk DJ=>k1.block k hk (fun e=>DJ (by rw[e];rfl))⟩
theorem nG {w:World} {A:OA} {n c:Nat} {l:List aU} {N k:Int} (hr:bB w A (cw l)) (hn:n=l.length) (hc:n<=c) (hA:A=none->c=0) (hl:n<50) (hb:sI l) :
    Calls P 35 #[.agg #[.int .u64 N,.slice A n c],.int .i64 k] w fun ev w'=>∃(A':OA)(n' c':Nat),ev=.returned (.tuple #[.slice A' n' c',.int .i64 (fm N l).2])/\aH w' w.heap.size 45 2 A' n' c' (edges (kI N l k))/\w.grownBy w' none:=by
  apply vc35;dsimp only[VC35,rt,Wt,Br,Bb,Rd,Rs,Ix,Ap,Ws,cU,nb,ad,al,iq]
  try simp only[aG]
  obtain⟨w0,FB,g0,b0⟩:=fQ w #[.int .u64 N,.slice A n c] 25;rw[← FB];refine⟨_,aA b0 0,_,_,_,aA b0 1,(kw (hr.kept_none g0) hn (by omega) hb).mono fun ev w1 hh=>?_⟩;obtain⟨rfl,g1⟩:=hh;have Fw:=aB g0 g1;refine⟨_,_,rfl,fun h=>?_,fun h=>?_⟩
  · have:kI N l k=[]:=by rw[kI,if_pos h]
    rw[this];exact⟨_,_,_,rfl,aH.nil _ _ _ _,Fw⟩
  have hz:(fm N l).2=0:=by omega
  have R2:kI N l k=eG (l.take k.toNat) []:=by rw[kI,if_neg h]
  have Ky:=(my.1 hz).2.2;rw[R2,hz];have hM:tg (w1.alloc (.map #[] 0)) w1.heap.size []:=dh.made w1;have g2:=World.grownBy_alloc w1 (.map #[] 0) none;obtain⟨w2,FM⟩:∃ w2,w2=w1.alloc (.map #[] 0):=⟨_,rfl⟩;rw[← FM]at hM g2 ⊢;have b2:=aE (aE b0 g1) g2;have Fe:=aB Fw g2;obtain⟨K,hK⟩:∃ K:Nat,mn (mx k 0) (n:Int)=(K:Int)/\K<=n/\l.take K=l.take k.toNat:=by
    refine⟨min k.toNat n,by unfold mn mx;split <;>split <;>omega,by omega,?_⟩;by_cases hh:k.toNat<=n
    · rw[Nat.min_eq_left hh]
    · rw[Nat.min_eq_right (by omega),List.take_of_length_le (by omega),List.take_of_length_le (by omega)]
  obtain⟨Sr,Og,FT⟩:=hK;have tK:((K:Nat):Int).toNat=K:=by omega
  refine⟨_,_,_,aA b2 1,_,_,_,aA b2 1,?_⟩;rw[Sr,tK,← FT];refine⟨⟨by omega,by omega⟩,fun m i W=>∃ (p:Nat) (L:List (Edge×Bool)),i=(p:Int)/\p<=K/\m=K-p/\tg W w1.heap.size L/\xz L/\gK L (eG (l.take p) [])/\w.grownBy W none,
    ⟨_,0,[],rfl,by omega,rfl,hM,fun p hp=>(by simp at hp),fun a=>by simp[dy,eG],Fe⟩,?_⟩
  rintro m i w3 ⟨p,L,rfl,hp,rfl,Oc,GM,FW,hg⟩;have tp:(p:Int).toNat=p:=by omega
  rw[tp];refine⟨fun DF=>?_,fun DK=>?_⟩
  · have lp:p<l.length:=by omega
    have Hs:=hb _ (List.getElem_mem lp);obtain⟨a,e1,e2,e3,e4,e5⟩:=eS (hr.kept_none hg) lp;obtain⟨x,ID,LQ⟩:=Ky.step lp;obtain⟨w4,hE,pE0,qE0,pE1,qE1,pE2,qE2,pE3,qE3,bE,gE⟩:=ud w3 62 (.int .i64 0) (.int .u32 0) (.int .u32 0) (.bool false) (.int .i64 l[p].t) (.int .u32 l[p].u) (.int .u32 l[p].v) (.bool l[p].add);refine⟨a,e1,by omega,by omega,_,e2,_,e3,_,e4,_,e5,pE0,qE0,pE1,qE1,pE2,qE2,pE3,qE3,?_⟩;rw[← hE];have Ef:=aB hg gE;have okk:mY (l[p].u,l[p].v):=⟨Hs.1,Hs.2⟩;have lM:w.heap.size<=w1.heap.size:=Fw.size;refine⟨_,aA bE 3,fun ha=>?_,fun ha=>?_⟩
    · obtain⟨W2,k1,k2,k3⟩:=dh.update Ai Tryz.underlying114 (Oc.kept gE) okk true;refine⟨_,aA bE 1,_,aA bE 2,W2,k1,⟨by omega,by omega⟩,K-(p+1),by omega,p+1,_,by omega,by omega,rfl,k2,GM.upd _,?_,aP Ef k3 (fun k hk=>by cases hk;omega)⟩;rw[LQ];have:=FW.upd ID;rw[ha]at this;exact this
    · obtain⟨W2,k1,k2,k3⟩:=dh.strike Ai Tryz.underlying114 (Oc.kept gE) okk _;refine⟨_,aA bE 1,_,aA bE 2,W2,k1,⟨by omega,by omega⟩,K-(p+1),by omega,p+1,_,by omega,by omega,rfl,k2,GM.del _,?_,aP Ef k3 (fun k hk=>by cases hk;omega)⟩;rw[LQ];exact FW.del ID ha
  · have QY:p=K:=by omega
    subst QY;have gO:=World.grownBy_alloc w3 (.cells #[.slice none 0 0] 40) none;have bO:(w3.alloc (.cells #[.slice none 0 0] 40)).heap[w3.heap.size]?=some (.cells #[.slice none 0 0] 40 (0,0)):=heap_alloc_new w3 _;obtain⟨w4,GC⟩:∃ w4,w4=w3.alloc (.cells #[.slice none 0 0] 40):=⟨_,rfl⟩;rw[← GC]at gO bO ⊢;obtain⟨o,EX,Pe⟩:=dh.range Tryz.underlying114 (Oc.kept gO);have gI:=World.grownBy_alloc w4 o none;have hL:=Pe.nodup;have keys:=FW.keys GM;have Nx:=aB (aB hg gO) gI;have lw3:w.heap.size<=w3.heap.size:=hg.size;have lw4:w3.heap.size<w4.heap.size:=(Array.getElem?_eq_some_iff.1 bO).1;refine⟨_,_,EX,fun m W=>∃ (done:List Edge) (last:Option (Edge×Bool)) (out:List Edge) (B:OA) (bn bc:Nat),IterAt gl Value.bool W w4.heap.size w1.heap.size L done last/\W.heap[w3.heap.size]?=some (.cells #[.slice B bn bc] 40 (0,0))/\aH W w.heap.size 45 2 B bn bc (edges out)/\out.Nodup/\(∀ a,a∈out↔a∈done)/\(∀ a∈done,∃ p∈L,p.1=a)/\m=L.length-out.length/\w.grownBy W none,
      ⟨_,[],none,[],none,0,0,Pe,aE bO gI,aH.nil _ _ _ _,List.nodup_nil,fun a=>Iff.rfl,fun a ha=>(by simp at ha),rfl,Nx⟩,?_⟩
    rintro m W ⟨done,last,out,B,bn,bc,hI,hO,JP,EL,DU,GP,rfl,GL⟩;have HN:bn=out.length:=by have:=JP.cases.1;rw[dA]at this;omega
    have DH:out.length<=L.length:=by
      have:=jP (l:=out) (m:=L.map Prod.fst) EL (fun a ha=>by obtain⟨p,h1,h2⟩:=GP a ((DU a).1 ha);exact List.mem_map.2 ⟨p,h1,h2⟩);simpa using this
    have FX:out.length<=50:=by
      have h1:=jP EL (fun a ha=>(keys a).2 (GP a ((DU a).1 ha)));have h2:=jT (l.take p) [];rw[List.length_take]at h2;simp only[List.length_nil]at h2;omega
    have apart:∀ j,(Value.slice B bn bc).ownBlock=some j->w.heap.size<=j/\j≠w1.heap.size/\j≠w4.heap.size/\j≠w3.heap.size:=by
      intro j hj;obtain⟨cur,Em⟩:=JP.block_type j hj;obtain⟨es,clock,since,seen,c0,i1,_,_,_,i5,_⟩:=hI;refine⟨JP.block_ge j hj,fun e=>?_,fun e=>?_,fun e=>?_⟩
      · rw[e,i1]at Em;cases Em
      · rw[e,i5]at Em;cases Em
      · rw[e,hO]at Em;cases Em
    rcases hI.next AA 0 with⟨DN,EX⟩ | ⟨q,hq,L0,W7,EX,PL,k7⟩
    · refine⟨W,.inl ⟨EX,fun h=>(by cases h),fun _=>?_⟩⟩;have KC:∀ a,a∈out↔a∈eG (l.take p) []:=fun a=>by
        rw[DU,keys];exact⟨GP a,fun⟨q,h1,h2⟩=>by rw[← h2];exact DN q h1⟩
      have Et:fp (eG (l.take p) []):=((Ky.take p).fold List.Pairwise.nil).1;have Ip:=jP EL (fun a ha=>(KC a).1 ha);have Mc:=jT (l.take p) [];rw[List.length_take]at Mc;simp only[List.length_nil]at Mc;refine⟨_,_,_,aA hO 0,_,fun w=>run_makeInterface (P:=P) w 40 _ (by kernel_rfl),(vF JP hO (by omega) EL).mono fun ev w8 hh=>?_⟩;obtain⟨rfl,out',o8,e8,g8,DT,QH⟩:=hh;have RA:out'=eG (l.take p) []:=fp.ext QH Et fun e=>by rw[DT.mem_iff,KC]
      subst RA;exact⟨by trivial,_,_,_,aA e8 0,_,_,_,rfl,o8,aP GL g8 (fun k hk=>JP.block_ge k hk)⟩
    · refine⟨W7,.inr ⟨_,_,EX,fun _=>⟨q.1.1,q.1.2,q.2,W7,PL.entry,?_⟩,fun h=>(by cases h)⟩⟩;have NK:w1.heap.size≠w3.heap.size:=fun e=>by
        obtain⟨es,clock,since,seen,c0,i1,_⟩:=hI;rw[e,hO]at i1;cases i1
      have Sl:W7.heap[w3.heap.size]?=some (.cells #[.slice B bn bc] 40 (0,0)):=by
        rw[k7.block _ (Array.getElem?_eq_some_iff.1 hO).1 (by omega)];exact hO
      have g7:w.grownBy W7 none:=((Kp.of_none (S:=fun j=>w.heap.size<=j) GL).then k7 (fun j _ h=>by omega)).grown (fun j hj h=>by omega);obtain⟨W8,hE,pE0,qE0,pE1,qE1,bE,gE⟩:=wg W7 45 (.int .u32 0) (.int .u32 0) (.int .u32 q.1.1) (.int .u32 q.1.2);refine⟨pE0,qE0,pE1,qE1,?_⟩;rw[← hE];have PI:=aE Sl gE;have gA:=World.grownBy_alloc W8 (.cells #[.int .u32 q.1.1,.int .u32 q.1.2] 45) none;have rE:bB (W8.alloc (.cells #[.int .u32 q.1.1,.int .u32 q.1.2] 45)) (some ⟨W8.heap.size,0,none⟩) (edges [q.1]):=eP _ #[.int .u32 q.1.1,.int .u32 q.1.2] 45 (0,0);have NZ:=((JP.kp k7 (fun j hj e=>(apart j hj).2.2.1 e)).kept gE).kept gA;have g9:=aB (aB g7 gE) gA;obtain⟨B',n',c',DX,f1,f2,f3,f4⟩:=dt (m:=1) (d:=1) (ys:=[q.1]) NZ rE rfl (by simp) (by omega) g9.size;have FV:=aP g9 f3 (fun k hk=>(apart k hk).1);have PH:=aE PI gA;have HQ:DX.heap[w3.heap.size]?=some (.cells #[.slice B bn bc] 40 (0,0)):=by
        rw[f3.block _ (Array.getElem?_eq_some_iff.1 PH).1 (fun e=>(apart _ e.symm).2.2.2 rfl)];exact PH
      have Su:=(PL.kp (S:=fun _=>False) (Kp.of_none gE) (fun h=>h) (fun h=>h)).kp (S:=fun _=>False) (Kp.of_none gA) (fun h=>h) (fun h=>h);have Oi:=Su.kp (Kp.of_grown f3) (fun e=>(apart _ e.symm).2.1 rfl) (fun e=>(apart _ e.symm).2.2.1 rfl);have K11:Kp DX (DX.setCell ⟨w3.heap.size,0,none⟩ (.slice B' n' c')) (fun k=>k=w3.heap.size):=cv (Kp.refl DX _) rfl;have OS:q.1 ∉ out:=fun h=>L0 ((DU _).1 h);refine⟨_,_,_,aA PI 0,_,aA bE 0,_,aA bE 1,_,_,_,DX,f1,⟨_,aA HQ 0⟩,aC HQ 0,L.length-(out.length+1),?_,q.1 ::done,some q,out++[q.1],B',n',c',Oi.kp K11 (fun e=>NK e) (fun e=>by omega),by simpa using aF HQ 0 (.slice B' n' c'),f2.kp K11 (fun j hj e=>?_),?_,fun a=>?_,fun a ha=>?_,by simp,(cv (Kp.of_none (S:=fun j=>w.heap.size<=j) FV) lw3).grown (fun j hj h=>by omega)⟩
      · have:=jP (l:=q.1 ::out) (m:=L.map Prod.fst) (List.nodup_cons.2 ⟨OS,EL⟩) (fun a ha=>by
          rcases List.mem_cons.1 ha with rfl | ha
          · exact List.mem_map.2 ⟨q,hq,rfl⟩
          · obtain⟨p,h1,h2⟩:=GP a ((DU a).1 ha);exact List.mem_map.2 ⟨p,h1,h2⟩)
        simp only[List.length_cons,List.length_map]at this;omega
      · obtain⟨cur,Em⟩:=f2.block_type j hj;rw[e,HQ]at Em;cases Em
      · rw[List.nodup_append];exact⟨EL,by simp,fun a ha b hb=>by simp at hb;subst hb;exact fun e=>OS (by rw[← e];exact ha)⟩
      · rw[List.mem_append,List.mem_singleton,DU];refine⟨fun h=>?_,fun h=>?_⟩
        · rcases h with h | rfl
          · exact List.mem_cons_of_mem _ h
          · exact List.mem_cons_self
        · exact(List.mem_cons.1 h).elim .inr .inl
      · rcases List.mem_cons.1 ha with rfl | ha
        · exact⟨q,hq,rfl⟩
        · exact GP a ha
end Go.Proofs.YtlieaecnllkefaaGreat
