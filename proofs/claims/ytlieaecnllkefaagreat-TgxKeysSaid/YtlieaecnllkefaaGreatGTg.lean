/- Own texts, packed: Y9, Y10, Y11, Y12, Y13, Y14, Y15, Y16, Y17. -/
import Derived.Test.YtlieaecnllkefaaGreatGSg
import Derived.Test.YtlieaecnllkefaaGreatGPg
import Derived.Laws.Build
import Derived.Test.YtlieaecnllkefaaGreatGNg
import Derived.Test.YtlieaecnllkefaaGreatGWg
import Derived.Test.YtlieaecnllkefaaGreatGCg
set_option linter.unusedVariables false
set_option linter.unusedSimpArgs false
set_option maxHeartbeats 4000000
set_option maxRecDepth 100000
namespace Go.Proofs.YtlieaecnllkefaaGreat
open Go Go.V Go.RowKit
theorem Cq:∀ x y:Edge,gQ x=gQ y->x=y:=fun x y h=>by
 obtain⟨a,b⟩:=x;obtain⟨c,d⟩:=y;simp[gQ]at h;simp[h]
theorem _root_.Go.V.IterAt.nodup{w:World}{r b:Nat}{L:List (Edge×Bool)}{done:List Edge}{last:Option (Edge×Bool)}(h:IterAt gQ Value.bool w r b L done last):(L.map Prod.fst).Nodup:=by
 obtain⟨es,clock,since,seen,c0,h1,h2,h3,h4,h5,h6,G2,_⟩:=h;exact G2
theorem xM{w:World}{base ge n c:Nat}{A:OA}{out:List Edge}(ho:aE w base 45 2 A n c (edges out))(he:w.heap[ge]?=some (.cells #[.slice A n c] 40 (0,0)))(hn:n<50)(G2:out.Nodup):
    Calls P 63 #[.iface 40 (.slice A n c),gf ge] w fun ev w'=>ev=.returned (.tuple #[])/\∃ out',aE w' base 45 2 A n c (edges out')/\w'.heap[ge]?=some (.cells #[.slice A n c] 40 (0,0))/\w.grownBy w' (Value.slice A n c).ownBlock/\out'.Perm out/\fW out':=by
  have hl:n=out.length:=by have:=ho.cases.1;rw[dl]at this;omega
  by_cases h0:n=0
  · subst h0;refine En.mono fun ev w1 hh=>?_;obtain⟨rfl,g1⟩:=hh;have:out=[]:=List.eq_nil_of_length_eq_zero hl.symm;subst this;exact⟨rfl,[],ho.kept g1,aI he g1,⟨g1.os,g1.tape,g1.output,g1.size,fun k hk _=>g1.block k hk (by simp)⟩,List.Perm.refl _,List.Pairwise.nil⟩
  by_cases h1:n=1
  · subst h1;refine Em.mono fun ev w1 hh=>?_;obtain⟨rfl,g1⟩:=hh;refine⟨rfl,out,ho.kept g1,aI he g1,⟨g1.os,g1.tape,g1.output,g1.size,fun k hk _=>g1.block k hk (by simp)⟩,List.Perm.refl _,?_⟩;cases out with
    | nil=>simp at hl
    | cons a t=>cases t with
      | nil=>simp[fW]
      | cons b t=>simp at hl
  obtain⟨_,⟨_,q,_⟩ | ⟨g,cur,rfl,VY,Te,MX,hg,Jc,FM⟩⟩:=ho.cases
  · exact absurd q h0
  have hs:jE w g ge n c out.toArray:=⟨⟨cur,hg,Jc,by simpa using FM⟩,he,by simp;omega,MX⟩;refine(xO hs (by omega) hn).mono fun ev w1 hh=>?_;obtain⟨rfl,d',s1,k1,hp,Hg⟩:=hh;obtain⟨cur',e1,e2,e3⟩:=s1.blk;have Hl:out.toArray.size=n:=by simp;omega
  rw[← Hl]at hp;have Gd:=tW hp;have hr:fW d'.toList:=xL (by rw[s1.sz];exact Hg) (Gd.nodup_iff.2 (by simpa using G2));refine⟨rfl,d'.toList,aE.of_block VY e1 MX Te e2 (by rw[dl];have:=s1.sz;simp;omega) e3,s1.env,?_,by simpa using Gd,hr⟩;exact⟨k1.os,k1.tape,k1.output,k1.size,fun k hk FG=>k1.block k hk (fun e=>FG (by rw[e];rfl))⟩
theorem pJ {w:World} {A:OA} {n c:Nat} {l:List aW} {N k:Int} (hr:aZ w A (cE l)) (hn:n=l.length) (hc:n<=c) (hA:A=none->c=0) (hl:n<50) (hb:uX l) :
    Calls P 35 #[.agg #[.int .u64 N,.slice A n c],.int .i64 k] w fun ev w'=>∃(A':OA)(n' c':Nat),ev=.returned (.tuple #[.slice A' n' c',.int .i64 (dO N l).2])/\aE w' w.heap.size 45 2 A' n' c' (edges (iF N l k))/\w.grownBy w' none:=by
  apply vc35;dsimp only[VC35,rt,Wt,Br,Bb,Rd,Rs,Ix,Ap,Ws,cU,nb,ad,al,iq]
  try simp only[aF]
  obtain⟨w0,Ht,g0,b0⟩:=fZ w #[.int .u64 N,.slice A n c] 25;rw[← Ht];refine⟨_,aB b0 0,_,_,_,aB b0 1,(lT (hr.kept_none g0) hn (by omega) hb).mono fun ev w1 hh=>?_⟩;obtain⟨rfl,g1⟩:=hh;have He:=aA g0 g1;refine⟨_,_,rfl,fun h=>?_,fun h=>?_⟩
  · have:iF N l k=[]:=by rw[iF,if_pos h]
    rw[this];exact⟨_,_,_,rfl,aE.nil _ _ _ _,He⟩
  have hz:(dO N l).2=0:=by omega
  have RA:iF N l k=dH (l.take k.toNat) []:=by rw[iF,if_neg h]
  have NZ:=(nQ.1 hz).2.2;rw[RA,hz];have hM:vx (w1.alloc (.map #[] 0)) w1.heap.size []:=dN.made w1;have g2:=World.grownBy_alloc w1 (.map #[] 0) none;obtain⟨w2,HS⟩:∃ w2,w2=w1.alloc (.map #[] 0):=⟨_,rfl⟩;rw[← HS]at hM g2 ⊢;have b2:=aI (aI b0 g1) g2;have GQ:=aA He g2;obtain⟨K,hK⟩:∃ K:Nat,mn (mx k 0) (n:Int)=(K:Int)/\K<=n/\l.take K=l.take k.toNat:=by
    refine⟨min k.toNat n,by unfold mn mx;split <;>split <;>omega,by omega,?_⟩;by_cases hh:k.toNat<=n
    · rw[Nat.min_eq_left hh]
    · rw[Nat.min_eq_right (by omega),List.take_of_length_le (by omega),List.take_of_length_le (by omega)]
  obtain⟨WE,RN,HZ⟩:=hK;have tK:((K:Nat):Int).toNat=K:=by omega
  refine⟨_,_,_,aB b2 1,_,_,_,aB b2 1,?_⟩;rw[WE,tK,← HZ];refine⟨⟨by omega,by omega⟩,fun m i W=>∃ (p:Nat) (L:List (Edge×Bool)),i=(p:Int)/\p<=K/\m=K-p/\vx W w1.heap.size L/\zo L/\iN L (dH (l.take p) [])/\w.grownBy W none,
    ⟨_,0,[],rfl,by omega,rfl,hM,fun p hp=>(by simp at hp),fun a=>by simp[d8,dH],GQ⟩,?_⟩
  rintro m i w3 ⟨p,L,rfl,hp,rfl,RJ,IE,IU,hg⟩;have tp:(p:Int).toNat=p:=by omega
  rw[tp];refine⟨fun FE=>?_,fun FJ=>?_⟩
  · have lp:p<l.length:=by omega
    have Jd:=hb _ (List.getElem_mem lp);obtain⟨a,e1,e2,e3,e4,e5⟩:=eE (hr.kept_none hg) lp;obtain⟨x,Lz,Pr⟩:=NZ.step lp;obtain⟨w4,hE,pE0,qE0,pE1,qE1,pE2,qE2,pE3,qE3,bE,gE⟩:=nY w3 62 (.int .i64 0) (.int .u32 0) (.int .u32 0) (.bool false) (.int .i64 l[p].t) (.int .u32 l[p].u) (.int .u32 l[p].v) (.bool l[p].add);refine⟨a,e1,by omega,by omega,_,e2,_,e3,_,e4,_,e5,pE0,qE0,pE1,qE1,pE2,qE2,pE3,qE3,?_⟩;rw[← hE];have FS:=aA hg gE;have okk:oS (l[p].u,l[p].v):=⟨Jd.1,Jd.2⟩;have lM:w.heap.size<=w1.heap.size:=He.size;refine⟨_,aB bE 3,fun ha=>?_,fun ha=>?_⟩
    · obtain⟨W2,k1,k2,k3⟩:=dN.update Cf Tryz.underlying114 (RJ.kept gE) okk true;refine⟨_,aB bE 1,_,aB bE 2,W2,k1,⟨by omega,by omega⟩,K-(p+1),by omega,p+1,_,by omega,by omega,rfl,k2,IE.upd _,?_,aN FS k3 (fun k hk=>by cases hk;omega)⟩;rw[Pr];have:=IU.upd Lz;rw[ha]at this;exact this
    · obtain⟨W2,k1,k2,k3⟩:=dN.strike Cf Tryz.underlying114 (RJ.kept gE) okk _;refine⟨_,aB bE 1,_,aB bE 2,W2,k1,⟨by omega,by omega⟩,K-(p+1),by omega,p+1,_,by omega,by omega,rfl,k2,IE.del _,?_,aN FS k3 (fun k hk=>by cases hk;omega)⟩;rw[Pr];exact IU.del Lz ha
  · have UP:p=K:=by omega
    subst UP;have gO:=World.grownBy_alloc w3 (.cells #[.slice none 0 0] 40) none;have bO:(w3.alloc (.cells #[.slice none 0 0] 40)).heap[w3.heap.size]?=some (.cells #[.slice none 0 0] 40 (0,0)):=heap_alloc_new w3 _;obtain⟨w4,Il⟩:∃ w4,w4=w3.alloc (.cells #[.slice none 0 0] 40):=⟨_,rfl⟩;rw[← Il]at gO bO ⊢;obtain⟨o,GC,SM⟩:=dN.range Tryz.underlying114 (RJ.kept gO);have gI:=World.grownBy_alloc w4 o none;have hL:=SM.nodup;have keys:=IU.keys IE;have Q0:=aA (aA hg gO) gI;have lw3:w.heap.size<=w3.heap.size:=hg.size;have lw4:w3.heap.size<w4.heap.size:=(Array.getElem?_eq_some_iff.1 bO).1;refine⟨_,_,GC,fun m W=>∃ (done:List Edge) (last:Option (Edge×Bool)) (out:List Edge) (B:OA) (bn bc:Nat),IterAt gQ Value.bool W w4.heap.size w1.heap.size L done last/\W.heap[w3.heap.size]?=some (.cells #[.slice B bn bc] 40 (0,0))/\aE W w.heap.size 45 2 B bn bc (edges out)/\out.Nodup/\(∀ a,a∈out↔a∈done)/\(∀ a∈done,∃ p∈L,p.1=a)/\m=L.length-out.length/\w.grownBy W none,
      ⟨_,[],none,[],none,0,0,SM,aI bO gI,aE.nil _ _ _ _,List.nodup_nil,fun a=>Iff.rfl,fun a ha=>(by simp at ha),rfl,Q0⟩,?_⟩
    rintro m W ⟨done,last,out,B,bn,bc,hI,hO,Nf,G2,Gf,JJ,rfl,JE⟩;have Jt:bn=out.length:=by have:=Nf.cases.1;rw[dl]at this;omega
    have FI:out.length<=L.length:=by
      have:=kK (l:=out) (m:=L.map Prod.fst) G2 (fun a ha=>by obtain⟨p,h1,h2⟩:=JJ a ((Gf a).1 ha);exact List.mem_map.2 ⟨p,h1,h2⟩);simpa using this
    have IW:out.length<=50:=by
      have h1:=kK G2 (fun a ha=>(keys a).2 (JJ a ((Gf a).1 ha)));have h2:=iW (l.take p) [];rw[List.length_take]at h2;simp only[List.length_nil]at h2;omega
    have apart:∀ j,(Value.slice B bn bc).ownBlock=some j->w.heap.size<=j/\j≠w1.heap.size/\j≠w4.heap.size/\j≠w3.heap.size:=by
      intro j hj;obtain⟨cur,FT⟩:=Nf.block_type j hj;obtain⟨es,clock,since,seen,c0,i1,_,_,_,i5,_⟩:=hI;refine⟨Nf.block_ge j hj,fun e=>?_,fun e=>?_,fun e=>?_⟩
      · rw[e,i1]at FT;cases FT
      · rw[e,i5]at FT;cases FT
      · rw[e,hO]at FT;cases FT
    rcases hI.next Cq 0 with⟨FQ,GC⟩ | ⟨q,hq,Pz,W7,GC,Tw,k7⟩
    · refine⟨W,.inl ⟨GC,fun h=>(by cases h),fun _=>?_⟩⟩;have Od:∀ a,a∈out↔a∈dH (l.take p) []:=fun a=>by
        rw[Gf,keys];exact⟨JJ a,fun⟨q,h1,h2⟩=>by rw[← h2];exact FQ q h1⟩
      have GI:fW (dH (l.take p) []):=((NZ.take p).fold List.Pairwise.nil).1;have JW:=kK G2 (fun a ha=>(Od a).1 ha);have M8:=iW (l.take p) [];rw[List.length_take]at M8;simp only[List.length_nil]at M8;refine⟨_,_,_,aB hO 0,_,fun w=>run_makeInterface (P:=P) w 40 _ (by kernel_rfl),(xM Nf hO (by omega) G2).mono fun ev w8 hh=>?_⟩;obtain⟨rfl,out',o8,e8,g8,Gd,UA⟩:=hh;have VC:out'=dH (l.take p) []:=fW.ext UA GI fun e=>by rw[Gd.mem_iff,Od]
      subst VC;exact⟨by trivial,_,_,_,aB e8 0,_,_,_,rfl,o8,aN JE g8 (fun k hk=>Nf.block_ge k hk)⟩
    · refine⟨W7,.inr ⟨_,_,GC,fun _=>⟨q.1.1,q.1.2,q.2,W7,Tw.entry,?_⟩,fun h=>(by cases h)⟩⟩;have Ro:w1.heap.size≠w3.heap.size:=fun e=>by
        obtain⟨es,clock,since,seen,c0,i1,_⟩:=hI;rw[e,hO]at i1;cases i1
      have Wx:W7.heap[w3.heap.size]?=some (.cells #[.slice B bn bc] 40 (0,0)):=by
        rw[k7.block _ (Array.getElem?_eq_some_iff.1 hO).1 (by omega)];exact hO
      have g7:w.grownBy W7 none:=((Kp.of_none (S:=fun j=>w.heap.size<=j) JE).then k7 (fun j _ h=>by omega)).grown (fun j hj h=>by omega);obtain⟨W8,hE,pE0,qE0,pE1,qE1,bE,gE⟩:=yq W7 45 (.int .u32 0) (.int .u32 0) (.int .u32 q.1.1) (.int .u32 q.1.2);refine⟨pE0,qE0,pE1,qE1,?_⟩;rw[← hE];have Ts:=aI Wx gE;have gA:=World.grownBy_alloc W8 (.cells #[.int .u32 q.1.1,.int .u32 q.1.2] 45) none;have rE:aZ (W8.alloc (.cells #[.int .u32 q.1.1,.int .u32 q.1.2] 45)) (some ⟨W8.heap.size,0,none⟩) (edges [q.1]):=fz _ #[.int .u32 q.1.1,.int .u32 q.1.2] 45 (0,0);have RG:=((Nf.kp k7 (fun j hj e=>(apart j hj).2.2.1 e)).kept gE).kept gA;have g9:=aA (aA g7 gE) gA;obtain⟨B',n',c',FZ,f1,f2,f3,f4⟩:=dI (m:=1) (d:=1) (ys:=[q.1]) RG rE rfl (by simp) (by omega) g9.size;have Ie:=aN g9 f3 (fun k hk=>(apart k hk).1);have Tr:=aI Ts gA;have KU:FZ.heap[w3.heap.size]?=some (.cells #[.slice B bn bc] 40 (0,0)):=by
        rw[f3.block _ (Array.getElem?_eq_some_iff.1 Tr).1 (fun e=>(apart _ e.symm).2.2.2 rfl)];exact Tr
      have WG:=(Tw.kp (S:=fun _=>False) (Kp.of_none gE) (fun h=>h) (fun h=>h)).kp (S:=fun _=>False) (Kp.of_none gA) (fun h=>h) (fun h=>h);have RP:=WG.kp (Kp.of_grown f3) (fun e=>(apart _ e.symm).2.1 rfl) (fun e=>(apart _ e.symm).2.2.1 rfl);have K11:Kp FZ (FZ.setCell ⟨w3.heap.size,0,none⟩ (.slice B' n' c')) (fun k=>k=w3.heap.size):=bK (Kp.refl FZ _) rfl;have Sr:q.1 ∉ out:=fun h=>Pz ((Gf _).1 h);refine⟨_,_,_,aB Ts 0,_,aB bE 0,_,aB bE 1,_,_,_,FZ,f1,⟨_,aB KU 0⟩,aD KU 0,L.length-(out.length+1),?_,q.1 ::done,some q,out++[q.1],B',n',c',RP.kp K11 (fun e=>Ro e) (fun e=>by omega),by simpa using aG KU 0 (.slice B' n' c'),f2.kp K11 (fun j hj e=>?_),?_,fun a=>?_,fun a ha=>?_,by simp,(bK (Kp.of_none (S:=fun j=>w.heap.size<=j) Ie) lw3).grown (fun j hj h=>by omega)⟩
      · have:=kK (l:=q.1 ::out) (m:=L.map Prod.fst) (List.nodup_cons.2 ⟨Sr,G2⟩) (fun a ha=>by
          rcases List.mem_cons.1 ha with rfl | ha
          · exact List.mem_map.2 ⟨q,hq,rfl⟩
          · obtain⟨p,h1,h2⟩:=JJ a ((Gf a).1 ha);exact List.mem_map.2 ⟨p,h1,h2⟩)
        simp only[List.length_cons,List.length_map]at this;omega
      · obtain⟨cur,FT⟩:=f2.block_type j hj;rw[e,KU]at FT;cases FT
      · rw[List.nodup_append];exact⟨G2,by simp,fun a ha b hb=>by simp at hb;subst hb;exact fun e=>Sr (by rw[← e];exact ha)⟩
      · rw[List.mem_append,List.mem_singleton,Gf];refine⟨fun h=>?_,fun h=>?_⟩
        · rcases h with h | rfl
          · exact List.mem_cons_of_mem _ h
          · exact List.mem_cons_self
        · exact(List.mem_cons.1 h).elim .inr .inl
      · rcases List.mem_cons.1 ha with rfl | ha
        · exact⟨q,hq,rfl⟩
        · exact JJ a ha
def pick(e:Edge)(q:Nat):Int:=if q=0 then e.1 else e.2
end Go.Proofs.YtlieaecnllkefaaGreat
