/- Own texts, packed: Y9, Y10, Y11, Y12, Y13, Y14, Y15, Y16, Y17. -/
import Derived.Test.YtlieaecnllkefaaGreatGSg
import Derived.Test.YtlieaecnllkefaaGreatGPg
import Derived.Laws.Build
import Derived.Test.YtlieaecnllkefaaGreatGNg
import Derived.Test.YtlieaecnllkefaaGreatGWg
import Derived.Test.YtlieaecnllkefaaGreatGCg
set_option linter.unusedVariables false
set_option linter.unusedSimpArgs false
set_option maxHeartbeats 4000000
set_option maxRecDepth 100000
namespace Go.Proofs.YtlieaecnllkefaaGreat
open Go Go.V Go.RowKit
theorem CQ:∀ x y:Edge,gU x=gU y->x=y:=fun x y h=>by
 obtain⟨a,b⟩:=x;obtain⟨c,d⟩:=y;simp[gU]at h;simp[h]
theorem _root_.Go.V.IterAt.nodup{w:World}{r b:Nat}{L:List (Edge×Bool)}{done:List Edge}{last:Option (Edge×Bool)}(h:IterAt gU Value.bool w r b L done last):(L.map Prod.fst).Nodup:=by
 obtain⟨es,clock,since,seen,c0,h1,h2,h3,h4,h5,h6,Hv,_⟩:=h;exact Hv
theorem ya{w:World}{base ge n c:Nat}{A:OA}{out:List Edge}(ho:aE w base 45 2 A n c (edges out))(he:w.heap[ge]?=some (.cells #[.slice A n c] 40 (0,0)))(hn:n<50)(Hv:out.Nodup):
    Calls P 63 #[.iface 40 (.slice A n c),fY ge] w fun ev w'=>ev=.returned (.tuple #[])/\∃ out',aE w' base 45 2 A n c (edges out')/\w'.heap[ge]?=some (.cells #[.slice A n c] 40 (0,0))/\w.grownBy w' (Value.slice A n c).ownBlock/\out'.Perm out/\fV out':=by
  have hl:n=out.length:=by have:=ho.cases.1;rw[dp]at this;omega
  by_cases h0:n=0
  · subst h0;refine EM.mono fun ev w1 hh=>?_;obtain⟨rfl,g1⟩:=hh;have:out=[]:=List.eq_nil_of_length_eq_zero hl.symm;subst this;exact⟨rfl,[],ho.kept g1,aF he g1,⟨g1.os,g1.tape,g1.output,g1.size,fun k hk _=>g1.block k hk (by simp)⟩,List.Perm.refl _,List.Pairwise.nil⟩
  by_cases h1:n=1
  · subst h1;refine EL.mono fun ev w1 hh=>?_;obtain⟨rfl,g1⟩:=hh;refine⟨rfl,out,ho.kept g1,aF he g1,⟨g1.os,g1.tape,g1.output,g1.size,fun k hk _=>g1.block k hk (by simp)⟩,List.Perm.refl _,?_⟩;cases out with
    | nil=>simp at hl
    | cons a t=>cases t with
      | nil=>simp[fV]
      | cons b t=>simp at hl
  obtain⟨_,⟨_,q,_⟩ | ⟨g,cur,rfl,Wz,TL,LC,hg,Jy,GY⟩⟩:=ho.cases
  · exact absurd q h0
  have hs:jM w g ge n c out.toArray:=⟨⟨cur,hg,Jy,by simpa using GY⟩,he,by simp;omega,LC⟩;refine(yd hs (by omega) hn).mono fun ev w1 hh=>?_;obtain⟨rfl,d',s1,k1,hp,HG⟩:=hh;obtain⟨cur',e1,e2,e3⟩:=s1.blk;have HF:out.toArray.size=n:=by simp;omega
  rw[← HF]at hp;have GC:=uh hp;have hr:fV d'.toList:=x9 (by rw[s1.sz];exact HG) (GC.nodup_iff.2 (by simpa using Hv));refine⟨rfl,d'.toList,aE.of_block Wz e1 LC TL e2 (by rw[dp];have:=s1.sz;simp;omega) e3,s1.env,?_,by simpa using GC,hr⟩;exact⟨k1.os,k1.tape,k1.output,k1.size,fun k hk Gh=>k1.block k hk (fun e=>Gh (by rw[e];rfl))⟩
theorem pH {w:World} {A:OA} {n c:Nat} {l:List aR} {N k:Int} (hr:aY w A (bB l)) (hn:n=l.length) (hc:n<=c) (hA:A=none->c=0) (hl:n<50) (hb:f9 l) :
    Calls P 35 #[.agg #[.int .u64 N,.slice A n c],.int .i64 k] w fun ev w'=>∃(A':OA)(n' c':Nat),ev=.returned (.tuple #[.slice A' n' c',.int .i64 (dL N l).2])/\aE w' w.heap.size 45 2 A' n' c' (edges (fU N l k))/\w.grownBy w' none:=by
  apply vc35;dsimp only[VC35,rt,Wt,Br,Bb,Rd,Rs,Ix,Ap,Ws,cU,nb,ad,al,iq]
  try simp only[aG]
  obtain⟨w0,Hd,g0,b0⟩:=eT w #[.int .u64 N,.slice A n c] 25;rw[← Hd];refine⟨_,aB b0 0,_,_,_,aB b0 1,(mb (hr.kept_none g0) hn (by omega) hb).mono fun ev w1 hh=>?_⟩;obtain⟨rfl,g1⟩:=hh;have G7:=aA g0 g1;refine⟨_,_,rfl,fun h=>?_,fun h=>?_⟩
  · have:fU N l k=[]:=by rw[fU,if_pos h]
    rw[this];exact⟨_,_,_,rfl,aE.nil _ _ _ _,G7⟩
  have hz:(dL N l).2=0:=by omega
  have R9:fU N l k=dt (l.take k.toNat) []:=by rw[fU,if_neg h]
  have OF:=(lg.1 hz).2.2;rw[R9,hz];have hM:vG (w1.alloc (.map #[] 0)) w1.heap.size []:=dK.made w1;have g2:=World.grownBy_alloc w1 (.map #[] 0) none;obtain⟨w2,IC⟩:∃ w2,w2=w1.alloc (.map #[] 0):=⟨_,rfl⟩;rw[← IC]at hM g2 ⊢;have b2:=aF (aF b0 g1) g2;have GP:=aA G7 g2;obtain⟨K,hK⟩:∃ K:Nat,mn (mx k 0) (n:Int)=(K:Int)/\K<=n/\l.take K=l.take k.toNat:=by
    refine⟨min k.toNat n,by unfold mn mx;split <;>split <;>omega,by omega,?_⟩;by_cases hh:k.toNat<=n
    · rw[Nat.min_eq_left hh]
    · rw[Nat.min_eq_right (by omega),List.take_of_length_le (by omega),List.take_of_length_le (by omega)]
  obtain⟨Xg,Sp,I7⟩:=hK;have tK:((K:Nat):Int).toNat=K:=by omega
  refine⟨_,_,_,aB b2 1,_,_,_,aB b2 1,?_⟩;rw[Xg,tK,← I7];refine⟨⟨by omega,by omega⟩,fun m i W=>∃ (p:Nat) (L:List (Edge×Bool)),i=(p:Int)/\p<=K/\m=K-p/\vG W w1.heap.size L/\zM L/\iM L (dt (l.take p) [])/\w.grownBy W none,
    ⟨_,0,[],rfl,by omega,rfl,hM,fun p hp=>(by simp at hp),fun a=>by simp[ef,dt],GP⟩,?_⟩
  rintro m i w3 ⟨p,L,rfl,hp,rfl,Sm,Iz,I9,hg⟩;have tp:(p:Int).toNat=p:=by omega
  rw[tp];refine⟨fun Ge=>?_,fun Gj=>?_⟩
  · have lp:p<l.length:=by omega
    have Jz:=hb _ (List.getElem_mem lp);obtain⟨a,e1,e2,e3,e4,e5⟩:=dz (hr.kept_none hg) lp;obtain⟨x,L9,PZ⟩:=OF.step lp;obtain⟨w4,hE,pE0,qE0,pE1,qE1,pE2,qE2,pE3,qE3,bE,gE⟩:=sc w3 62 (.int .i64 0) (.int .u32 0) (.int .u32 0) (.bool false) (.int .i64 l[p].t) (.int .u32 l[p].u) (.int .u32 l[p].v) (.bool l[p].add);refine⟨a,e1,by omega,by omega,_,e2,_,e3,_,e4,_,e5,pE0,qE0,pE1,qE1,pE2,qE2,pE3,qE3,?_⟩;rw[← hE];have Gs:=aA hg gE;have okk:oL (l[p].u,l[p].v):=⟨Jz.1,Jz.2⟩;have lM:w.heap.size<=w1.heap.size:=G7.size;refine⟨_,aB bE 3,fun ha=>?_,fun ha=>?_⟩
    · obtain⟨W2,k1,k2,k3⟩:=dK.update CG Tryz.underlying114 (Sm.kept gE) okk true;refine⟨_,aB bE 1,_,aB bE 2,W2,k1,⟨by omega,by omega⟩,K-(p+1),by omega,p+1,_,by omega,by omega,rfl,k2,Iz.upd _,?_,aN Gs k3 (fun k hk=>by cases hk;omega)⟩;rw[PZ];have:=I9.upd L9;rw[ha]at this;exact this
    · obtain⟨W2,k1,k2,k3⟩:=dK.strike CG Tryz.underlying114 (Sm.kept gE) okk _;refine⟨_,aB bE 1,_,aB bE 2,W2,k1,⟨by omega,by omega⟩,K-(p+1),by omega,p+1,_,by omega,by omega,rfl,k2,Iz.del _,?_,aN Gs k3 (fun k hk=>by cases hk;omega)⟩;rw[PZ];exact I9.del L9 ha
  · have Vk:p=K:=by omega
    subst Vk;have gO:=World.grownBy_alloc w3 (.cells #[.slice none 0 0] 40) none;have bO:(w3.alloc (.cells #[.slice none 0 0] 40)).heap[w3.heap.size]?=some (.cells #[.slice none 0 0] 40 (0,0)):=heap_alloc_new w3 _;obtain⟨w4,HU⟩:∃ w4,w4=w3.alloc (.cells #[.slice none 0 0] 40):=⟨_,rfl⟩;rw[← HU]at gO bO ⊢;obtain⟨o,G9,Tq⟩:=dK.range Tryz.underlying114 (Sm.kept gO);have gI:=World.grownBy_alloc w4 o none;have hL:=Tq.nodup;have keys:=I9.keys Iz;have RB:=aA (aA hg gO) gI;have lw3:w.heap.size<=w3.heap.size:=hg.size;have lw4:w3.heap.size<w4.heap.size:=(Array.getElem?_eq_some_iff.1 bO).1;refine⟨_,_,G9,fun m W=>∃ (done:List Edge) (last:Option (Edge×Bool)) (out:List Edge) (B:OA) (bn bc:Nat),IterAt gU Value.bool W w4.heap.size w1.heap.size L done last/\W.heap[w3.heap.size]?=some (.cells #[.slice B bn bc] 40 (0,0))/\aE W w.heap.size 45 2 B bn bc (edges out)/\out.Nodup/\(∀ a,a∈out↔a∈done)/\(∀ a∈done,∃ p∈L,p.1=a)/\m=L.length-out.length/\w.grownBy W none,
      ⟨_,[],none,[],none,0,0,Tq,aF bO gI,aE.nil _ _ _ _,List.nodup_nil,fun a=>Iff.rfl,fun a ha=>(by simp at ha),rfl,RB⟩,?_⟩
    rintro m W ⟨done,last,out,B,bn,bc,hI,hO,Ny,Hv,GF,J4,rfl,JV⟩;have Kr:bn=out.length:=by have:=Ny.cases.1;rw[dp]at this;omega
    have Gi:out.length<=L.length:=by
      have:=kQ (l:=out) (m:=L.map Prod.fst) Hv (fun a ha=>by obtain⟨p,h1,h2⟩:=J4 a ((GF a).1 ha);exact List.mem_map.2 ⟨p,h1,h2⟩);simpa using this
    have Jb:out.length<=50:=by
      have h1:=kQ Hv (fun a ha=>(keys a).2 (J4 a ((GF a).1 ha)));have h2:=fN (l.take p) [];rw[List.length_take]at h2;simp only[List.length_nil]at h2;omega
    have apart:∀ j,(Value.slice B bn bc).ownBlock=some j->w.heap.size<=j/\j≠w1.heap.size/\j≠w4.heap.size/\j≠w3.heap.size:=by
      intro j hj;obtain⟨cur,Gt⟩:=Ny.block_type j hj;obtain⟨es,clock,since,seen,c0,i1,_,_,_,i5,_⟩:=hI;refine⟨Ny.block_ge j hj,fun e=>?_,fun e=>?_,fun e=>?_⟩
      · rw[e,i1]at Gt;cases Gt
      · rw[e,i5]at Gt;cases Gt
      · rw[e,hO]at Gt;cases Gt
    rcases hI.next CQ 0 with⟨Gq,G9⟩ | ⟨q,hq,P8,W7,G9,T0,k7⟩
    · refine⟨W,.inl ⟨G9,fun h=>(by cases h),fun _=>?_⟩⟩;have OK:∀ a,a∈out↔a∈dt (l.take p) []:=fun a=>by
        rw[GF,keys];exact⟨J4 a,fun⟨q,h1,h2⟩=>by rw[← h2];exact Gq q h1⟩
      have Hf:fV (dt (l.take p) []):=((OF.take p).fold List.Pairwise.nil).1;have LK:=kQ Hv (fun a ha=>(OK a).1 ha);have LN:=fN (l.take p) [];rw[List.length_take]at LN;simp only[List.length_nil]at LN;refine⟨_,_,_,aB hO 0,_,fun w=>run_makeInterface (P:=P) w 40 _ (by kernel_rfl),(ya Ny hO (by omega) Hv).mono fun ev w8 hh=>?_⟩;obtain⟨rfl,out',o8,e8,g8,GC,UV⟩:=hh;have V9:out'=dt (l.take p) []:=fV.ext UV Hf fun e=>by rw[GC.mem_iff,OK]
      subst V9;exact⟨by trivial,_,_,_,aB e8 0,_,_,_,rfl,o8,aN JV g8 (fun k hk=>Ny.block_ge k hk)⟩
    · refine⟨W7,.inr ⟨_,_,G9,fun _=>⟨q.1.1,q.1.2,q.2,W7,T0.entry,?_⟩,fun h=>(by cases h)⟩⟩;have RV:w1.heap.size≠w3.heap.size:=fun e=>by
        obtain⟨es,clock,since,seen,c0,i1,_⟩:=hI;rw[e,hO]at i1;cases i1
      have Xc:W7.heap[w3.heap.size]?=some (.cells #[.slice B bn bc] 40 (0,0)):=by
        rw[k7.block _ (Array.getElem?_eq_some_iff.1 hO).1 (by omega)];exact hO
      have g7:w.grownBy W7 none:=((Kp.of_none (S:=fun j=>w.heap.size<=j) JV).then k7 (fun j _ h=>by omega)).grown (fun j hj h=>by omega);obtain⟨W8,hE,pE0,qE0,pE1,qE1,bE,gE⟩:=se W7 45 (.int .u32 0) (.int .u32 0) (.int .u32 q.1.1) (.int .u32 q.1.2);refine⟨pE0,qE0,pE1,qE1,?_⟩;rw[← hE];have TX:=aF Xc gE;have gA:=World.grownBy_alloc W8 (.cells #[.int .u32 q.1.1,.int .u32 q.1.2] 45) none;have rE:aY (W8.alloc (.cells #[.int .u32 q.1.1,.int .u32 q.1.2] 45)) (some ⟨W8.heap.size,0,none⟩) (edges [q.1]):=ff _ #[.int .u32 q.1.1,.int .u32 q.1.2] 45 (0,0);have Se:=((Ny.kp k7 (fun j hj e=>(apart j hj).2.2.1 e)).kept gE).kept gA;have g9:=aA (aA g7 gE) gA;obtain⟨B',n',c',Gx,f1,f2,f3,f4⟩:=dT (m:=1) (d:=1) (ys:=[q.1]) Se rE rfl (by simp) (by omega) g9.size;have HO:=aN g9 f3 (fun k hk=>(apart k hk).1);have TW:=aF TX gA;have Lj:Gx.heap[w3.heap.size]?=some (.cells #[.slice B bn bc] 40 (0,0)):=by
        rw[f3.block _ (Array.getElem?_eq_some_iff.1 TW).1 (fun e=>(apart _ e.symm).2.2.2 rfl)];exact TW
      have Xi:=(T0.kp (S:=fun _=>False) (Kp.of_none gE) (fun h=>h) (fun h=>h)).kp (S:=fun _=>False) (Kp.of_none gA) (fun h=>h) (fun h=>h);have Sr:=Xi.kp (Kp.of_grown f3) (fun e=>(apart _ e.symm).2.1 rfl) (fun e=>(apart _ e.symm).2.2.1 rfl);have K11:Kp Gx (Gx.setCell ⟨w3.heap.size,0,none⟩ (.slice B' n' c')) (fun k=>k=w3.heap.size):=bL (Kp.refl Gx _) rfl;have SU:q.1 ∉ out:=fun h=>P8 ((GF _).1 h);refine⟨_,_,_,aB TX 0,_,aB bE 0,_,aB bE 1,_,_,_,Gx,f1,⟨_,aB Lj 0⟩,aD Lj 0,L.length-(out.length+1),?_,q.1 ::done,some q,out++[q.1],B',n',c',Sr.kp K11 (fun e=>RV e) (fun e=>by omega),by simpa using aI Lj 0 (.slice B' n' c'),f2.kp K11 (fun j hj e=>?_),?_,fun a=>?_,fun a ha=>?_,by simp,(bL (Kp.of_none (S:=fun j=>w.heap.size<=j) HO) lw3).grown (fun j hj h=>by omega)⟩
      · have:=kQ (l:=q.1 ::out) (m:=L.map Prod.fst) (List.nodup_cons.2 ⟨SU,Hv⟩) (fun a ha=>by
          rcases List.mem_cons.1 ha with rfl | ha
          · exact List.mem_map.2 ⟨q,hq,rfl⟩
          · obtain⟨p,h1,h2⟩:=J4 a ((GF a).1 ha);exact List.mem_map.2 ⟨p,h1,h2⟩)
        simp only[List.length_cons,List.length_map]at this;omega
      · obtain⟨cur,Gt⟩:=f2.block_type j hj;rw[e,Lj]at Gt;cases Gt
      · rw[List.nodup_append];exact⟨Hv,by simp,fun a ha b hb=>by simp at hb;subst hb;exact fun e=>SU (by rw[← e];exact ha)⟩
      · rw[List.mem_append,List.mem_singleton,GF];refine⟨fun h=>?_,fun h=>?_⟩
        · rcases h with h | rfl
          · exact List.mem_cons_of_mem _ h
          · exact List.mem_cons_self
        · exact(List.mem_cons.1 h).elim .inr .inl
      · rcases List.mem_cons.1 ha with rfl | ha
        · exact⟨q,hq,rfl⟩
        · exact J4 a ha
def pick(e:Edge)(q:Nat):Int:=if q=0 then e.1 else e.2
theorem yZ:∀(l:List aR)(p:Nat)(hp:p<l.length)(j:Nat)(u:Value)(e:aR),j<4->mF e=(mF l[p]).set j u->bB (l.set p e)=(bB l).set (p*4+j) u
 | a ::l,0,hp,j,u,e,hj,he=>by
  show mF e++bB l=(mF a++bB l).set (0*4+j) u;rw[Nat.zero_mul,Nat.zero_add,List.set_append_left _ _ (by show j<4;exact hj)];rw[show mF e=(mF a).set j u from he]
 | a ::l,p+1,hp,j,u,e,hj,he=>by
  show mF a++bB (l.set p e)=(mF a++bB l).set ((p+1)*4+j) u;rw[List.set_append_right _ _ (by show 4<=_;omega)];rw[yZ l p (by simpa using hp) j u e hj (by simpa using he)];congr 2;show p*4+j=(p+1)*4+j-4;omega
theorem qP{l:List aR}{p:Nat}{e:aR}(h:f9 l)(he:(0<=e.u/\e.u<=4294967295)/\0<=e.v/\e.v<=4294967295):f9 (l.set p e):=fun x hx=>by
 rcases List.mem_or_eq_of_mem_set hx with h1 | h1
 ·exact h x h1
 ·rw[h1];exact he
theorem Bu(x:Int):0<=IntKind.u32.wrap x/\IntKind.u32.wrap x<=4294967295:=by
 simp only[IntKind.wrap,IntKind.bits,IntKind.signed];simp;omega
theorem ws:∀(l:List aR)(p:Nat)(hp:p<l.length)(e:aR),((((bB l).set (p*4) (.int .i64 e.t)).set (p*4+1) (.int .u32 e.u)).set (p*4+2) (.int .u32 e.v)).set (p*4+3) (.bool e.add)=bB (l.set p e)
 | a ::l,0,hp,e=>rfl
 | a ::l,p+1,hp,e=>by
  have ih:=ws l p (by simpa using hp) e;show _=mF a++bB (l.set p e);rw[← ih,show(p+1)*4=p*4+1+1+1+1 by omega];rfl
theorem BI{w W:World}{A:OA}{n c:Nat}{l:List aR}(ho:aE W w.heap.size 62 4 A n c (bB l))(g:w.grownBy W none){p:Nat}(hp:p<l.length)(e:aR):
    ∃ a,A=some a/\((∃ uv_:Value,W.cell? (a.add (p*4))=some uv_)/\W.frozen? (a.add (p*4))=false)/\∃ W1,W1=W.setCell (a.add (p*4)) (.int .i64 e.t)/\((∃ uv_:Value,W1.cell? (a.add (p*4+1))=some uv_)/\W1.frozen? (a.add (p*4+1))=false) ∧
      ∃ W2,W2=W1.setCell (a.add (p*4+1)) (.int .u32 e.u)/\((∃ uv_:Value,W2.cell? (a.add (p*4+2))=some uv_)/\W2.frozen? (a.add (p*4+2))=false)/\∃ W3,W3=W2.setCell (a.add (p*4+2)) (.int .u32 e.v)/\((∃ uv_:Value,W3.cell? (a.add (p*4+3))=some uv_)/\W3.frozen? (a.add (p*4+3))=false) ∧
      ∃ W4,W4=W3.setCell (a.add (p*4+3)) (.bool e.add)/\aE W4 w.heap.size 62 4 A n c (bB (l.set p e))/\w.grownBy W4 none/\∀(b:Nat)(cur:Array Value)(t:TypeId)(fr:Nat×Nat),62≠t->W.heap[b]?=some (.cells cur t fr)->W4.heap[b]?=some (.cells cur t fr):=by
  have Gi:(bB l).length=l.length*4:=dg l;obtain⟨a,q1,q2,q3,q4,q5,q6⟩:=pK ho g (k:=p*4) (by omega) (.int .i64 e.t);obtain⟨a',s1,s2,s3,s4,s5,s6⟩:=pK q4 q5 (k:=p*4+1) (by simp;omega) (.int .u32 e.u);rw[q1]at s1;cases s1;obtain⟨a',t1,t2,t3,t4,t5,t6⟩:=pK s4 s5 (k:=p*4+2) (by simp;omega) (.int .u32 e.v);rw[q1]at t1;cases t1;obtain⟨a',u1,u2,u3,u4,u5,u6⟩:=pK t4 t5 (k:=p*4+3) (by simp;omega) (.bool e.add);rw[q1]at u1;cases u1;rw[ws l p hp e]at u4;exact⟨_,q1,⟨q2,q3⟩,_,rfl,⟨s2,s3⟩,_,rfl,⟨t2,t3⟩,_,rfl,⟨u2,u3⟩,_,rfl,u4,u5,fun b cur t fr ne h=>u6 b cur t fr ne (t6 b cur t fr ne (s6 b cur t fr ne (q6 b cur t fr ne h)))⟩
theorem Bt(x:Int):0<=IntKind.u64.wrap x:=by
 simp only[IntKind.wrap,IntKind.bits,IntKind.signed];simp;omega
def Ep(N N':Int)(l:List aR):Prop:=f9 l/\(0<=N->0<=N')
theorem Bk {w:World} {A:OA} {n c:Nat} {l:List aR} {N what at_ v:Int} (hr:aY w A (bB l)) (hn:n=l.length) (hA:A=none->c=0) (hl:n<=2^20) (hb:f9 l) (hw:0<=what/\what<=255) (Iz:0<=at_/\at_<=255) :
    Calls P 11 #[.agg #[.int .u64 N,.slice A n c],.int .u8 what,.int .u8 at_,.int .i64 v] w fun ev w'=>∃(N':Int)(A':OA)(n' c':Nat)(l':List aR),ev=.returned (.agg #[.int .u64 N',.slice A' n' c'])/\aE w' w.heap.size 62 4 A' n' c' (bB l')/\Ep N N' l'/\l'.length<=l.length/\w.grownBy w' none:=by
  apply vc11;dsimp only[VC11,Wt,Br,Rd,Rs,Ix,Ap,Ws,nb,ad,al,iq]
  try simp only[aG]
  obtain⟨w0,Hd,g0,b0⟩:=eT w #[.int .u64 N,.slice A n c] 25;rw[← Hd];obtain⟨w1,Gf,g1,b1⟩:=eT w0 #[.int .u64 0,.slice none 0 0] 25;rw[← Gf];have G7:=aA g0 g1;obtain⟨A2,n2,c2,w2,r1,r2,r3,r4⟩:=dJ (xs:=[]) (m:=n) (d:=c) (aE.nil w1 w.heap.size 62 4) (hr.kept_none G7) hn hA (by omega) G7.size;rw[List.nil_append]at r2;have gap:w1.grownBy w2 none:=r3;have g2:=aA G7 gap;have Ir:n2=l.length:=by omega
  have b0':=aF (aF b0 g1) gap;have b1':=aF b1 gap;refine⟨_,_,_,aB (aF b0 g1) 1,A2,n2,c2,w2,r1,N,aB b0' 0,?_⟩;obtain⟨w3,hO,pO0,qO0,pO1,qO1,bO,gO⟩:=se w2 25 (.int .u64 0) (.slice none 0 0) (.int .u64 N) (.slice A2 n2 c2);refine⟨pO0,qO0,pO1,qO1,?_⟩;rw[← hO];have g3:=aA g2 gO;have o3:=r2.kept gO;have NK:=aF b1' gO
  -- Mk it ends
  have fin:∀(W:World)(N':Int)(A':OA)(n' c':Nat)(l':List aR),W.heap[w0.heap.size]?=some (.cells #[.int .u64 0,.slice none 0 0] 25 (0,0))->aE W w.heap.size 62 4 A' n' c' (bB l')->w.grownBy W none →
      (∃ uv_:Value,W.cell? ⟨w0.heap.size,0,none⟩=some uv_)/\W.frozen? ⟨w0.heap.size,0,none⟩=false/\(∃ uv_:Value,(W.setCell ⟨w0.heap.size,0,none⟩ (.int .u64 N')).cell? ⟨w0.heap.size,1,none⟩=some uv_)/\(W.setCell ⟨w0.heap.size,0,none⟩ (.int .u64 N')).frozen? ⟨w0.heap.size,1,none⟩=false ∧
      ((W.setCell ⟨w0.heap.size,0,none⟩ (.int .u64 N')).setCell ⟨w0.heap.size,1,none⟩ (.slice A' n' c')).cell? ⟨w0.heap.size,0,none⟩=some (.int .u64 N')/\((W.setCell ⟨w0.heap.size,0,none⟩ (.int .u64 N')).setCell ⟨w0.heap.size,1,none⟩ (.slice A' n' c')).cell? ⟨w0.heap.size,1,none⟩=some (.slice A' n' c') ∧
      aE ((W.setCell ⟨w0.heap.size,0,none⟩ (.int .u64 N')).setCell ⟨w0.heap.size,1,none⟩ (.slice A' n' c')) w.heap.size 62 4 A' n' c' (bB l')/\w.grownBy ((W.setCell ⟨w0.heap.size,0,none⟩ (.int .u64 N')).setCell ⟨w0.heap.size,1,none⟩ (.slice A' n' c')) none:=by
    intro W N' A' n' c' l' Hq ho hg;have s1:=aI Hq 0 (.int .u64 N');have s2:=aI s1 1 (.slice A' n' c');have Gh:=eJ ho Hq (by decide);refine⟨⟨_,aB Hq 0⟩,aD Hq 0,⟨_,aB s1 1⟩,aD s1 1,by rw[aB s2 0];rfl,by rw[aB s2 1];rfl,?_,?_⟩
    · exact aE.kp ho (bL (bL (Kp.refl W (fun q=>q=w0.heap.size)) rfl) rfl) (fun q hq e=>by subst e;exact Gh hq)
    · exact(bL (bL (Kp.of_none (S:=fun q=>w.heap.size<=q) hg) g0.size) g0.size).grown (fun q hq e=>by omega)
  have tcell:∀(W:World)(N':Int)(A':OA)(n' c':Nat),W.heap[w2.heap.size]?=some (.cells #[.int .u64 N',.slice A' n' c'] 25 (0,0))->W.cell? ⟨w2.heap.size,0,none⟩=some (.int .u64 N')/\W.cell? ⟨w2.heap.size,1,none⟩=some (.slice A' n' c'):=fun W N' A' n' c' h=>⟨aB h 0,aB h 1⟩
  have setN:∀(W:World)(x:Int),w.grownBy W none->W.heap[w2.heap.size]?=some (.cells #[.int .u64 N,.slice A2 n2 c2] 25 (0,0))->aE W w.heap.size 62 4 A2 n2 c2 (bB l)->W.heap[w0.heap.size]?=some (.cells #[.int .u64 0,.slice none 0 0] 25 (0,0)) →
      (W.setCell ⟨w2.heap.size,0,none⟩ (.int .u64 x)).heap[w2.heap.size]?=some (.cells #[.int .u64 x,.slice A2 n2 c2] 25 (0,0))/\aE (W.setCell ⟨w2.heap.size,0,none⟩ (.int .u64 x)) w.heap.size 62 4 A2 n2 c2 (bB l)/\(W.setCell ⟨w2.heap.size,0,none⟩ (.int .u64 x)).heap[w0.heap.size]?=some (.cells #[.int .u64 0,.slice none 0 0] 25 (0,0))/\w.grownBy (W.setCell ⟨w2.heap.size,0,none⟩ (.int .u64 x)) none:=by
    intro W x hg h2 ho h0;have Gh:=eJ ho h2 (by decide);have l0:w0.heap.size<w2.heap.size:=Nat.lt_of_lt_of_le (Array.getElem?_eq_some_iff.1 b1).1 gap.size;refine⟨by have:=aI h2 0 (.int .u64 x);simpa using this,aE.kp ho (bL (Kp.refl W (fun q=>q=w2.heap.size)) rfl) (fun q hq e=>by subst e;exact Gh hq),jF h0 (p:=⟨w2.heap.size,0,none⟩) (by show w2.heap.size≠w0.heap.size;omega) _,(bL (Kp.of_none (S:=fun q=>w.heap.size<=q) hg) g2.size).grown (fun q hq e=>by omega)⟩
  refine⟨fun h0=>?_,fun h0=>⟨by omega,⟨by omega,by omega⟩,⟨by omega,by omega⟩,?_⟩⟩
  · obtain⟨q1,q2,q3,q4⟩:=setN w3 (IntKind.wrap .u64 v) g3 bO o3 NK;obtain⟨f1,f2,f3,f4,f5,f6,f7,f8⟩:=fin _ (IntKind.wrap .u64 v) A2 n2 c2 l q3 q2 q4;exact⟨⟨_,aB bO 0⟩,aD bO 0,_,(tcell _ _ _ _ _ q1).1,_,_,_,(tcell _ _ _ _ _ q1).2,f1,f2,f3,f4,_,f5,_,_,_,f6,_,_,_,_,l,rfl,f7,⟨hb,fun _=>Bt v⟩,Nat.le_refl _,f8⟩
  have h1:=Int.emod_nonneg at_ (show(n2:Int)≠0 by omega);have h2:=Int.emod_lt_of_pos at_ (show(0:Int)<(n2:Int) by omega);obtain⟨p,hp⟩:∃ p:Nat,at_ % (n2:Int)=(p:Int):=⟨(at_ % (n2:Int)).toNat,by omega⟩;rw[hp]at h1 h2 ⊢;have tp:(p:Int).toNat=p:=by omega
  have tp1:((p:Int)+1).toNat=p+1:=by omega
  rw[tp,tp1];have lp:p<l.length:=by omega
  have Gi:(bB l).length=l.length*4:=dg l;have hU:=hb _ (List.getElem_mem lp)
  -- one number of an event is another one
  have one:∀(j:Nat)(u:Value)(e:aR),j<4->mF e=(mF l[p]).set j u->((0<=e.u/\e.u<=4294967295)/\0<=e.v/\e.v<=4294967295) →
      ∃ a,A2=some a/\(∃ uv_:Value,w3.cell? (a.add (p*4+j))=some uv_)/\w3.frozen? (a.add (p*4+j))=false/\∃(N':Int)(A':OA)(n' c':Nat)(l':List aR),(w3.setCell (a.add (p*4+j)) u).heap[w2.heap.size]?=some (.cells #[.int .u64 N',.slice A' n' c'] 25 (0,0))/\aE (w3.setCell (a.add (p*4+j)) u) w.heap.size 62 4 A' n' c' (bB l')/\Ep N N' l'/\l'.length<=l.length/\(w3.setCell (a.add (p*4+j)) u).heap[w0.heap.size]?=some (.cells #[.int .u64 0,.slice none 0 0] 25 (0,0))/\w.grownBy (w3.setCell (a.add (p*4+j)) u) none:=by
    intro j u e hj he hu;obtain⟨a,q1,q2,q3,q4,q5,q6⟩:=pK o3 g3 (k:=p*4+j) (by omega) u;rw[← yZ l p lp j u e hj he]at q4;exact⟨a,q1,q2,q3,N,A2,n2,c2,l.set p e,q6 _ _ _ _ (by decide) bO,q4,⟨qP hb hu,id⟩,by simp,q6 _ _ _ _ (by decide) NK,q5⟩
  refine⟨fun W=>∃(N':Int)(A':OA)(n' c':Nat)(l':List aR),W.heap[w2.heap.size]?=some (.cells #[.int .u64 N',.slice A' n' c'] 25 (0,0))/\aE W w.heap.size 62 4 A' n' c' (bB l')/\Ep N N' l'/\l'.length<=l.length/\W.heap[w0.heap.size]?=some (.cells #[.int .u64 0,.slice none 0 0] 25 (0,0))/\w.grownBy W none,⟨fun c0=>?_,fun _=>⟨fun c1=>?_,fun _=>⟨fun c2=>?_,fun _=>⟨fun c3=>?_,fun _=>⟨fun c4=>?_,fun _=>⟨fun c5=>?_,fun _=>⟨fun c6=>?_,fun _=>?_⟩⟩⟩⟩⟩⟩⟩,?_⟩
  · obtain⟨q1,q2,q3,q4⟩:=setN w3 (IntKind.wrap .u64 v) g3 bO o3 NK;exact⟨⟨_,aB bO 0⟩,aD bO 0,_,_,_,_,l,q1,q2,⟨hb,fun _=>Bt v⟩,Nat.le_refl _,q3,q4⟩
  · obtain⟨a,q1,q2,q3,q4⟩:=one 0 (.int .i64 v) ⟨v,l[p].u,l[p].v,l[p].add⟩ (by omega) rfl hU;refine⟨a,q1,by omega,by omega,?_⟩
    try simp only[dw]
    exact⟨q2,q3,q4⟩
  · obtain⟨a,q1,q2,q3,q4⟩:=one 1 (.int .u32 (IntKind.wrap .u32 v)) ⟨l[p].t,IntKind.wrap .u32 v,l[p].v,l[p].add⟩ (by omega) rfl ⟨Bu v,hU.2⟩;refine⟨a,q1,by omega,by omega,?_⟩
    try simp only[dw]
    exact⟨q2,q3,q4⟩
  · obtain⟨a,q1,q2,q3,q4⟩:=one 2 (.int .u32 (IntKind.wrap .u32 v)) ⟨l[p].t,l[p].u,IntKind.wrap .u32 v,l[p].add⟩ (by omega) rfl ⟨hU.1,Bu v⟩;refine⟨a,q1,by omega,by omega,?_⟩
    try simp only[dw]
    exact⟨q2,q3,q4⟩
  · obtain⟨a',e1,e2,e3,e4,e5⟩:=dz o3.row lp;obtain⟨a,q1,q2,q3,q4⟩:=one 3 (.bool (decide (l[p].add=false))) ⟨l[p].t,l[p].u,l[p].v,decide (l[p].add=false)⟩ (by omega) rfl hU;rw[q1]at e1;cases e1;refine⟨a',q1,by omega,by omega,_,e5,a',q1,by omega,by omega,?_⟩;simp only[dw];exact⟨q2,q3,q4⟩
  · -- two events change places
    have gd:=aH (aC w3 none);obtain⟨w4,HU⟩:∃ w4,w4=w3.drew:=⟨_,rfl⟩;rw[← HU]at gd ⊢;have o4:=o3.kept gd;have g4:=aA g3 gd;have lp0:0<l.length:=by omega
    obtain⟨a,e1,e2,e3,e4,e5⟩:=dz o4.row lp;obtain⟨a',d1,d2,d3,d4,d5⟩:=dz o4.row lp0;rw[e1]at d1;cases d1;rw[Nat.zero_mul,FD]at d2 d3 d4 d5;obtain⟨a',q1,q2,W1,Qm,q3,W2,JX,q4,W3,LS,q5,W4,Lg,q6,q7,q8⟩:=BI o4 g4 lp l[0];rw[e1]at q1;cases q1;obtain⟨a',s1,s2,W5,Nx,s3,W6,Ql,s4,W7,MN,s5,W8,Qk,s6,s7,s8⟩:=BI q6 q7 (p:=0) (by simp;omega) l[p];rw[e1]at s1;cases s1;simp only[Nat.zero_mul,Nat.zero_add,FD]at s2 s3 s4 s5 Nx Ql MN Qk;refine⟨a,e1,by omega,by omega,_,d2,_,d3,_,d4,_,d5,a,e1,by omega,by omega,_,e2,_,e3,_,e4,_,e5,a,e1,by omega,by omega,?_⟩;simp only[dw];rw[← Qm,← JX,← LS,← Lg];refine⟨q2.1,q2.2,q3.1,q3.2,q4.1,q4.2,q5.1,q5.2,a,e1,by omega,by omega,?_⟩;rw[← Nx,← Ql,← MN,← Qk];refine⟨s2.1,s2.2,s3.1,s3.2,s4.1,s4.2,s5.1,s5.2,N,A2,n2,c2,(l.set p l[0]).set 0 l[p],s8 _ _ _ _ (by decide) (q8 _ _ _ _ (by decide) (aF bO gd)),s6,⟨qP (qP hb (hb _ (List.getElem_mem lp0))) hU,id⟩,by simp,s8 _ _ _ _ (by decide) (q8 _ _ _ _ (by decide) (aF NK gd)),s7⟩
  · -- one event is left out
    have gd:=aH (aC w3 none);obtain⟨w4,HU⟩:∃ w4,w4=w3.drew:=⟨_,rfl⟩;rw[← HU]at gd ⊢;have o4:=o3.kept gd;have g4:=aA g3 gd;have oc:=jU o4;have ot:aE w4 w.heap.size 62 4 A2 p c2 (bB (l.take p)):=by
      obtain⟨IA,Kx | ⟨b,cur,rfl,h3,h4,h5,h6,h7,h8⟩⟩:=o4.cases
      · omega
      · refine aE.of_block h3 h6 (by omega) h4 h7 (by rw[dg,List.length_take];omega) ?_;rw[← wo,← h8,List.take_take];congr 1;omega
    obtain⟨k1,k2⟩:=AY (k:=p+1) o4.row (cW o4) (by omega);obtain⟨A5,n5,c5,w5,p1,p2,p3,p4⟩:=dJ (m:=n2-(p+1)) (d:=c2-(p+1)) ot k1 (by rw[List.length_drop];omega) k2 (by omega) g4.size;have g5:=aX g4 p3 (fun k hk=>ot.block_ge k hk);have bO4:=aF bO gd;have SH:=aF NK gd;have Nz:w5.heap[w2.heap.size]?=some (.cells #[.int .u64 N,.slice A2 n2 c2] 25 (0,0)):=by
      rw[p3.block _ (Array.getElem?_eq_some_iff.1 bO4).1 (fun h=>eJ ot bO4 (by decide) h.symm)];exact bO4
    have Xv:w5.heap[w0.heap.size]?=some (.cells #[.int .u64 0,.slice none 0 0] 25 (0,0)):=by
      rw[p3.block _ (Array.getElem?_eq_some_iff.1 SH).1 (fun h=>eJ ot SH (by decide) h.symm)];exact SH
    have s1:=aI Nz 1 (.slice A5 n5 c5);have Gh:=eJ p2 Nz (by decide);have l0:w0.heap.size<w2.heap.size:=Nat.lt_of_lt_of_le (Array.getElem?_eq_some_iff.1 b1).1 gap.size;refine⟨⟨by omega,by omega⟩,by omega,⟨by omega,by omega⟩,A5,n5,c5,w5,p1,⟨_,aB Nz 1⟩,aD Nz 1,N,A5,n5,c5,_,by simpa using s1,aE.kp p2 (bL (Kp.refl w5 (fun q=>q=w2.heap.size)) rfl) (fun q hq e=>by subst e;exact Gh hq),⟨fun x hx=>?_,id⟩,by rw[List.length_append,List.length_take,List.length_drop];omega,jF Xv (p:=⟨w2.heap.size,1,none⟩) (by show w2.heap.size≠w0.heap.size;omega) _,(bL (Kp.of_none (S:=fun q=>w.heap.size<=q) g5) g2.size).grown (fun q hq e=>by omega)⟩;rcases List.mem_append.1 hx with h | h
    · exact hb x (List.mem_of_mem_take h)
    · exact hb x (List.mem_of_mem_drop h)
  · -- as many vertices as the second number of an event
    obtain⟨a,e1,e2,e3,e4,e5⟩:=dz o3.row lp;obtain⟨q1,q2,q3,q4⟩:=setN w3 l[p].v g3 bO o3 NK;exact⟨a,e1,by omega,by omega,_,e4,by omega,⟨_,aB bO 0⟩,aD bO 0,_,_,_,_,l,q1,q2,⟨hb,fun _=>hU.2.1⟩,Nat.le_refl _,q3,q4⟩
  · rintro W ⟨N',A',n',c',l',q1,q2,q3,q4,q5,q6⟩;obtain⟨f1,f2,f3,f4,f5,f6,f7,f8⟩:=fin W N' A' n' c' l' q5 q2 q6;exact⟨_,(tcell _ _ _ _ _ q1).1,_,_,_,(tcell _ _ _ _ _ q1).2,f1,f2,f3,f4,_,f5,_,_,_,f6,_,_,_,_,l',rfl,f7,q3,q4,f8⟩
end Go.Proofs.YtlieaecnllkefaaGreat
