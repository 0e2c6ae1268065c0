/- Own texts, packed: Y9, Y10, Y11, Y12, Y13, Y14, Y15, Y16, Y17. -/
import Derived.Test.YtlieaecnllkefaaGreatGSg
import Derived.Test.YtlieaecnllkefaaGreatGPg
import Derived.Laws.Build
import Derived.Test.YtlieaecnllkefaaGreatGNg
import Derived.Test.YtlieaecnllkefaaGreatGWg
import Derived.Test.YtlieaecnllkefaaGreatGCg
namespace Go.Proofs.YtlieaecnllkefaaGreat
open Go Go.V Go.RowKit
set_option linter.unusedVariables false
set_option linter.unusedSimpArgs false
set_option maxHeartbeats 4000000
set_option maxRecDepth 100000
theorem qmq:∀ x y:Edge,nk x=nk y->x=y:=fun x y h=>by
 obtain⟨a,b⟩:=x;obtain⟨c,d⟩:=y
 simp[nk]at h
 simp[h]
theorem _root_.Go.V.IterAt.nodup{w:World}{r b:Nat}{L:List (Edge×Bool)}{done:List Edge}{last:Option (Edge×Bool)}(h:IterAt nk Value.bool w r b L done last):(L.map Prod.fst).Nodup:=by
 obtain⟨es,clock,since,seen,c0,h1,h2,h3,h4,h5,h6,hnd,_⟩:=h
 exact hnd
theorem qf8{w:World}{base ge n c:Nat}{A:Option Addr}{out:List Edge}(ho:am w base 45 2 A n c (edges out))(he:w.heap[ge]?=some (.cells #[.slice A n c] 40 (0,0)))(hn:n<50)(hnd:out.Nodup):
    Calls P 63 #[.iface 40 (.slice A n c),l9 ge] w fun ev w'=>ev=.returned (.tuple #[])/\∃ out',am w' base 45 2 A n c (edges out')/\w'.heap[ge]?=some (.cells #[.slice A n c] 40 (0,0))/\w.grownBy w' (Value.slice A n c).ownBlock/\out'.Perm out/\ri out':=by
  have hl:n=out.length:=by have:=ho.cases.1;rw[dt]at this;omega
  by_cases h0:n=0
  · subst h0
    refine qp1.mono fun ev w1 hh=>?_
    obtain⟨rfl,g1⟩:=hh
    have:out=[]:=List.eq_nil_of_length_eq_zero hl.symm
    subst this
    exact⟨rfl,[],ho.kept g1,ai he g1,⟨g1.os,g1.tape,g1.output,g1.size,fun k hk _=>g1.block k hk (by simp)⟩,List.Perm.refl _,List.Pairwise.nil⟩
  by_cases h1:n=1
  · subst h1
    refine qp0.mono fun ev w1 hh=>?_
    obtain⟨rfl,g1⟩:=hh
    refine⟨rfl,out,ho.kept g1,ai he g1,⟨g1.os,g1.tape,g1.output,g1.size,fun k hk _=>g1.block k hk (by simp)⟩,List.Perm.refl _,?_⟩
    cases out with
    | nil=>simp at hl
    | cons a t=>cases t with
      | nil=>simp[ri]
      | cons b t=>simp at hl
  obtain⟨_,⟨_,q,_⟩ | ⟨g,cur,rfl,hbg,hcm,hnc,hg,hcs,htk⟩⟩:=ho.cases
  · exact absurd q h0
  have hs:Srt w g ge n c out.toArray:=⟨⟨cur,hg,hcs,by simpa using htk⟩,he,by simp;omega,hnc⟩
  refine(qf9 hs (by omega) hn).mono fun ev w1 hh=>?_
  obtain⟨rfl,d',s1,k1,hp,hso⟩:=hh
  obtain⟨cur',e1,e2,e3⟩:=s1.blk
  have hsz:out.toArray.size=n:=by simp;omega
  rw[← hsz]at hp
  have hperm:=qa9 hp
  have hr:ri d'.toList:=qf7 (by rw[s1.sz];exact hso) (hperm.nodup_iff.2 (by simpa using hnd))
  refine⟨rfl,d'.toList,am.of_block hbg e1 hnc hcm e2 (by rw[dt];have:=s1.sz;simp;omega) e3,s1.env,?_,by simpa using hperm,hr⟩
  exact⟨k1.os,k1.tape,k1.output,k1.size,fun k hk hne=>k1.block k hk (fun e=>hne (by rw[e];rfl))⟩
theorem xx {w:World} {A:Option Addr} {n c:Nat} {l:List Evt} {N k:Int} (hr:Row w A (fh l)) (hn:n=l.length) (hc:n<=c) (hA:A=none->c=0) (hl:n<50) (hb:qhi l) :
    Calls P 35 #[.agg #[.int .u64 N,.slice A n c],.int .i64 k] w fun ev w'=>∃(A':Option Addr)(n' c':Nat),ev=.returned (.tuple #[.slice A' n' c',.int .i64 (jw N l).2])/\am w' w.heap.size 45 2 A' n' c' (edges (vo N l k))/\w.grownBy w' none:=by
  apply vc35;dsimp only[VC35,Wt,Br,Bb,Rd,Rc,Rs,Ix,rI_,rB_,rS_]
  try simp only[InK]
  have g0:=World.grownBy_alloc w (.cells #[.int .u64 N,.slice A n c] 25) none
  have b0:(w.alloc (.cells #[.int .u64 N,.slice A n c] 25)).heap[w.heap.size]?=some (.cells #[.int .u64 N,.slice A n c] 25 (0,0)):=heap_alloc_new w _
  obtain⟨w0,hw_w0⟩:∃ w0,w0=w.alloc (.cells #[.int .u64 N,.slice A n c] 25):=⟨_,rfl⟩
  rw[← hw_w0]at g0 b0 ⊢
  refine⟨_,aa b0 0,_,_,_,aa b0 1,(pp (hr.kept_none g0) hn (by omega) hb).mono fun ev w1 hh=>?_⟩
  obtain⟨rfl,g1⟩:=hh
  have g01:=ab g0 g1
  refine⟨_,_,rfl,fun h=>?_,fun h=>?_⟩
  · have:vo N l k=[]:=by rw[vo,if_pos h]
    rw[this];exact⟨_,_,_,rfl,am.nil _ _ _ _,g01⟩
  have hz:(jw N l).2=0:=by omega
  have haf:vo N l k=jr (l.take k.toNat) []:=by rw[vo,if_neg h]
  have hokh:=(vk.1 hz).2.2
  rw[haf,hz]
  have hM:qnj (w1.alloc (.map #[] 0)) w1.heap.size []:=fd.made w1
  have g2:=World.grownBy_alloc w1 (.map #[] 0) none
  obtain⟨w2,hw2⟩:∃ w2,w2=w1.alloc (.map #[] 0):=⟨_,rfl⟩
  rw[← hw2]at hM g2 ⊢
  have b2:=ai (ai b0 g1) g2
  have g02:=ab g01 g2
  obtain⟨K,hK⟩:∃ K:Nat,mn (mx k 0) (n:Int)=(K:Int)/\K<=n/\l.take K=l.take k.toNat:=by
    refine⟨min k.toNat n,by unfold mn mx;split <;>split <;>omega,by omega,?_⟩
    by_cases hh:k.toNat<=n
    · rw[Nat.min_eq_left hh]
    · rw[Nat.min_eq_right (by omega),List.take_of_length_le (by omega),List.take_of_length_le (by omega)]
  obtain⟨hK1,hK2,hK3⟩:=hK
  have tK:((K:Nat):Int).toNat=K:=by omega
  refine⟨_,_,_,aa b2 1,_,_,_,aa b2 1,?_⟩
  rw[hK1,tK,← hK3]
  refine⟨⟨by omega,by omega⟩,fun m i W=>∃ (p:Nat) (L:List (Edge×Bool)),i=(p:Int)/\p<=K/\m=K-p/\qnj W w1.heap.size L/\qpe L/\nv L (jr (l.take p) [])/\w.grownBy W none,
    ⟨_,0,[],rfl,by omega,rfl,hM,fun p hp=>(by simp at hp),fun a=>by simp[jv,jr],g02⟩,?_⟩
  rintro m i w3 ⟨p,L,rfl,hp,rfl,hM3,hat,hth,hg⟩
  have tp:(p:Int).toNat=p:=by omega
  rw[tp]
  refine⟨fun hlt=>?_,fun hge=>?_⟩
  · have lp:p<l.length:=by omega
    have hbe:=hb _ (List.getElem_mem lp)
    obtain⟨a,e1,e2,e3,e4,e5⟩:=jm (hr.kept_none hg) lp
    obtain⟨x,hx1,hx2⟩:=hokh.step lp
    have sE0:(w3.alloc (.cells #[.int .i64 0,.int .u32 0,.int .u32 0,.bool false] 62)).heap[w3.heap.size]?=some (.cells #[.int .i64 0,.int .u32 0,.int .u32 0,.bool false] 62 (0,0)):=heap_alloc_new w3 _
    have sE1:=ah sE0 0 (.int .i64 l[p].t)
    have sE2:=ah sE1 1 (.int .u32 l[p].u)
    have sE3:=ah sE2 2 (.int .u32 l[p].v)
    have sE4:=ah sE3 3 (.bool l[p].add)
    have bE:(((((w3.alloc (.cells #[.int .i64 0,.int .u32 0,.int .u32 0,.bool false] 62)).setCell ⟨w3.heap.size,0,none⟩ (.int .i64 l[p].t)).setCell ⟨w3.heap.size,1,none⟩ (.int .u32 l[p].u)).setCell ⟨w3.heap.size,2,none⟩ (.int .u32 l[p].v)).setCell ⟨w3.heap.size,3,none⟩ (.bool l[p].add)).heap[w3.heap.size]?=some (.cells #[.int .i64 l[p].t,.int .u32 l[p].u,.int .u32 l[p].v,.bool l[p].add] 62 (0,0)):=by simpa using sE4
    have gE:w3.grownBy (((((w3.alloc (.cells #[.int .i64 0,.int .u32 0,.int .u32 0,.bool false] 62)).setCell ⟨w3.heap.size,0,none⟩ (.int .i64 l[p].t)).setCell ⟨w3.heap.size,1,none⟩ (.int .u32 l[p].u)).setCell ⟨w3.heap.size,2,none⟩ (.int .u32 l[p].v)).setCell ⟨w3.heap.size,3,none⟩ (.bool l[p].add)) none:=(Kp.grown (ck (ck (ck (ck (Kp.of_none (S:=fun k=>w3.heap.size<=k) (cf (af w3 none) _)) (Nat.le_refl _)) (Nat.le_refl _)) (Nat.le_refl _)) (Nat.le_refl _)) (fun k hk e=>by omega))
    obtain⟨w4,hE⟩:∃ w4,w4=(((((w3.alloc (.cells #[.int .i64 0,.int .u32 0,.int .u32 0,.bool false] 62)).setCell ⟨w3.heap.size,0,none⟩ (.int .i64 l[p].t)).setCell ⟨w3.heap.size,1,none⟩ (.int .u32 l[p].u)).setCell ⟨w3.heap.size,2,none⟩ (.int .u32 l[p].v)).setCell ⟨w3.heap.size,3,none⟩ (.bool l[p].add)):=⟨_,rfl⟩
    rw[← hE]at bE gE
    refine⟨a,e1,by omega,by omega,_,e2,_,e3,_,e4,_,e5,⟨_,aa sE0 0⟩,ae sE0 0,⟨_,aa sE1 1⟩,ae sE1 1,⟨_,aa sE2 2⟩,ae sE2 2,⟨_,aa sE3 3⟩,ae sE3 3,?_⟩
    rw[← hE]
    have hg4:=ab hg gE
    have okk:qaa (l[p].u,l[p].v):=⟨hbe.1,hbe.2⟩
    have lM:w.heap.size<=w1.heap.size:=g01.size
    refine⟨_,aa bE 3,fun ha=>?_,fun ha=>?_⟩
    · obtain⟨W2,k1,k2,k3⟩:=fd.update qq7 Tryz.underlying114 (hM3.kept gE) okk true
      refine⟨_,aa bE 1,_,aa bE 2,W2,k1,⟨by omega,by omega⟩,K-(p+1),by omega,p+1,_,by omega,by omega,rfl,k2,hat.upd _,?_,ax hg4 k3 (fun k hk=>by cases hk;omega)⟩
      rw[hx2];have:=hth.upd hx1;rw[ha]at this;exact this
    · obtain⟨W2,k1,k2,k3⟩:=fd.strike qq7 Tryz.underlying114 (hM3.kept gE) okk _
      refine⟨_,aa bE 1,_,aa bE 2,W2,k1,⟨by omega,by omega⟩,K-(p+1),by omega,p+1,_,by omega,by omega,rfl,k2,hat.del _,?_,ax hg4 k3 (fun k hk=>by cases hk;omega)⟩
      rw[hx2];exact hth.del hx1 ha
  · have hpK:p=K:=by omega
    subst hpK
    have gO:=World.grownBy_alloc w3 (.cells #[.slice none 0 0] 40) none
    have bO:(w3.alloc (.cells #[.slice none 0 0] 40)).heap[w3.heap.size]?=some (.cells #[.slice none 0 0] 40 (0,0)):=heap_alloc_new w3 _
    obtain⟨w4,hw4⟩:∃ w4,w4=w3.alloc (.cells #[.slice none 0 0] 40):=⟨_,rfl⟩
    rw[← hw4]at gO bO ⊢
    obtain⟨o,hrun,hit⟩:=fd.range Tryz.underlying114 (hM3.kept gO)
    have gI:=World.grownBy_alloc w4 o none
    have hL:=hit.nodup
    have keys:=hth.keys hat
    have hgw:=ab (ab hg gO) gI
    have lw3:w.heap.size<=w3.heap.size:=hg.size
    have lw4:w3.heap.size<w4.heap.size:=(Array.getElem?_eq_some_iff.1 bO).1
    refine⟨_,_,hrun,fun m W=>∃ (done:List Edge) (last:Option (Edge×Bool)) (out:List Edge) (B:Option Addr) (bn bc:Nat),IterAt nk Value.bool W w4.heap.size w1.heap.size L done last/\W.heap[w3.heap.size]?=some (.cells #[.slice B bn bc] 40 (0,0))/\am W w.heap.size 45 2 B bn bc (edges out)/\out.Nodup/\(∀ a,a∈out↔a∈done)/\(∀ a∈done,∃ p∈L,p.1=a)/\m=L.length-out.length/\w.grownBy W none,
      ⟨_,[],none,[],none,0,0,hit,ai bO gI,am.nil _ _ _ _,List.nodup_nil,fun a=>Iff.rfl,fun a ha=>(by simp at ha),rfl,hgw⟩,?_⟩
    rintro m W ⟨done,last,out,B,bn,bc,hI,hO,hOw,hnd,hmem,hsub,rfl,hgW⟩
    have hbn:bn=out.length:=by have:=hOw.cases.1;rw[dt]at this;omega
    have hlen:out.length<=L.length:=by
      have:=pe (l:=out) (m:=L.map Prod.fst) hnd (fun a ha=>by obtain⟨p,h1,h2⟩:=hsub a ((hmem a).1 ha);exact List.mem_map.2 ⟨p,h1,h2⟩)
      simpa using this
    have hout:out.length<=50:=by
      have h1:=pe hnd (fun a ha=>(keys a).2 (hsub a ((hmem a).1 ha)))
      have h2:=pq (l.take p) []
      rw[List.length_take]at h2
      simp only[List.length_nil]at h2
      omega
    have apart:∀ j,(Value.slice B bn bc).ownBlock=some j->w.heap.size<=j/\j≠w1.heap.size/\j≠w4.heap.size/\j≠w3.heap.size:=by
      intro j hj
      obtain⟨cur,hcur⟩:=hOw.block_type j hj
      obtain⟨es,clock,since,seen,c0,i1,_,_,_,i5,_⟩:=hI
      refine⟨hOw.block_ge j hj,fun e=>?_,fun e=>?_,fun e=>?_⟩
      · rw[e,i1]at hcur;cases hcur
      · rw[e,i5]at hcur;cases hcur
      · rw[e,hO]at hcur;cases hcur
    rcases hI.next qmq 0 with⟨hall,hrun⟩ | ⟨q,hq,hqd,W7,hrun,hI7,k7⟩
    · refine⟨W,.inl ⟨hrun,fun h=>(by cases h),fun _=>?_⟩⟩
      have hnow:∀ a,a∈out↔a∈jr (l.take p) []:=fun a=>by
        rw[hmem,keys]
        exact⟨hsub a,fun⟨q,h1,h2⟩=>by rw[← h2];exact hall q h1⟩
      have hrise:ri (jr (l.take p) []):=((hokh.take p).fold List.Pairwise.nil).1
      have hlen2:=pe hnd (fun a ha=>(hnow a).1 ha)
      have hfl:=pq (l.take p) []
      rw[List.length_take]at hfl
      simp only[List.length_nil]at hfl
      refine⟨_,_,_,aa hO 0,_,fun w=>run_makeInterface (P:=P) w 40 _ (by kernel_rfl),(qf8 hOw hO (by omega) hnd).mono fun ev w8 hh=>?_⟩
      obtain⟨rfl,out',o8,e8,g8,hperm,hr8⟩:=hh
      have hex:out'=jr (l.take p) []:=ri.ext hr8 hrise fun e=>by rw[hperm.mem_iff,hnow]
      subst hex
      exact⟨by trivial,_,_,_,aa e8 0,_,_,_,rfl,o8,ax hgW g8 (fun k hk=>hOw.block_ge k hk)⟩
    · refine⟨W7,.inr ⟨_,_,hrun,fun _=>⟨q.1.1,q.1.2,q.2,W7,hI7.entry,?_⟩,fun h=>(by cases h)⟩⟩
      have hbne:w1.heap.size≠w3.heap.size:=fun e=>by
        obtain⟨es,clock,since,seen,c0,i1,_⟩:=hI
        rw[e,hO]at i1;cases i1
      have hO7:W7.heap[w3.heap.size]?=some (.cells #[.slice B bn bc] 40 (0,0)):=by
        rw[k7.block _ (Array.getElem?_eq_some_iff.1 hO).1 (by omega)];exact hO
      have g7:w.grownBy W7 none:=((Kp.of_none (S:=fun j=>w.heap.size<=j) hgW).then k7 (fun j _ h=>by omega)).grown (fun j hj h=>by omega)
      have sE0:(W7.alloc (.cells #[.int .u32 0,.int .u32 0] 45)).heap[W7.heap.size]?=some (.cells #[.int .u32 0,.int .u32 0] 45 (0,0)):=heap_alloc_new W7 _
      have sE1:=ah sE0 0 (.int .u32 q.1.1)
      have sE2:=ah sE1 1 (.int .u32 q.1.2)
      have bE:(((W7.alloc (.cells #[.int .u32 0,.int .u32 0] 45)).setCell ⟨W7.heap.size,0,none⟩ (.int .u32 q.1.1)).setCell ⟨W7.heap.size,1,none⟩ (.int .u32 q.1.2)).heap[W7.heap.size]?=some (.cells #[.int .u32 q.1.1,.int .u32 q.1.2] 45 (0,0)):=by simpa using sE2
      have gE:W7.grownBy (((W7.alloc (.cells #[.int .u32 0,.int .u32 0] 45)).setCell ⟨W7.heap.size,0,none⟩ (.int .u32 q.1.1)).setCell ⟨W7.heap.size,1,none⟩ (.int .u32 q.1.2)) none:=(Kp.grown (ck (ck (Kp.of_none (S:=fun k=>W7.heap.size<=k) (cf (af W7 none) _)) (Nat.le_refl _)) (Nat.le_refl _)) (fun k hk e=>by omega))
      obtain⟨W8,hE⟩:∃ W8,W8=(((W7.alloc (.cells #[.int .u32 0,.int .u32 0] 45)).setCell ⟨W7.heap.size,0,none⟩ (.int .u32 q.1.1)).setCell ⟨W7.heap.size,1,none⟩ (.int .u32 q.1.2)):=⟨_,rfl⟩
      rw[← hE]at bE gE
      refine⟨⟨_,aa sE0 0⟩,ae sE0 0,⟨_,aa sE1 1⟩,ae sE1 1,?_⟩
      rw[← hE]
      have hO8:=ai hO7 gE
      have gA:=World.grownBy_alloc W8 (.cells #[.int .u32 q.1.1,.int .u32 q.1.2] 45) none
      have rE:Row (W8.alloc (.cells #[.int .u32 q.1.1,.int .u32 q.1.2] 45)) (some ⟨W8.heap.size,0,none⟩) (edges [q.1]):=gn _ #[.int .u32 q.1.1,.int .u32 q.1.2] 45 (0,0)
      have hOw9:=((hOw.kp k7 (fun j hj e=>(apart j hj).2.2.1 e)).kept gE).kept gA
      have g9:=ab (ab g7 gE) gA
      obtain⟨B',n',c',w10,f1,f2,f3,f4⟩:=dg (m:=1) (d:=1) (ys:=[q.1]) hOw9 rE rfl (by simp) (by omega) g9.size
      have g10:=ax g9 f3 (fun k hk=>(apart k hk).1)
      have hO9:=ai hO8 gA
      have hO10:w10.heap[w3.heap.size]?=some (.cells #[.slice B bn bc] 40 (0,0)):=by
        rw[f3.block _ (Array.getElem?_eq_some_iff.1 hO9).1 (fun e=>(apart _ e.symm).2.2.2 rfl)];exact hO9
      have hI9:=(hI7.kp (S:=fun _=>False) (Kp.of_none gE) (fun h=>h) (fun h=>h)).kp (S:=fun _=>False) (Kp.of_none gA) (fun h=>h) (fun h=>h)
      have hI10:=hI9.kp (Kp.of_grown f3) (fun e=>(apart _ e.symm).2.1 rfl) (fun e=>(apart _ e.symm).2.2.1 rfl)
      have K11:Kp w10 (w10.setCell ⟨w3.heap.size,0,none⟩ (.slice B' n' c')) (fun k=>k=w3.heap.size):=ck (Kp.refl w10 _) rfl
      have hqo:q.1 ∉ out:=fun h=>hqd ((hmem _).1 h)
      refine⟨_,_,_,aa hO8 0,_,aa bE 0,_,aa bE 1,_,_,_,w10,f1,⟨_,aa hO10 0⟩,ae hO10 0,L.length-(out.length+1),?_,q.1 ::done,some q,out++[q.1],B',n',c',hI10.kp K11 (fun e=>hbne e) (fun e=>by omega),by simpa using ah hO10 0 (.slice B' n' c'),f2.kp K11 (fun j hj e=>?_),?_,fun a=>?_,fun a ha=>?_,by simp,(ck (Kp.of_none (S:=fun j=>w.heap.size<=j) g10) lw3).grown (fun j hj h=>by omega)⟩
      · have:=pe (l:=q.1 ::out) (m:=L.map Prod.fst) (List.nodup_cons.2 ⟨hqo,hnd⟩) (fun a ha=>by
          rcases List.mem_cons.1 ha with rfl | ha
          · exact List.mem_map.2 ⟨q,hq,rfl⟩
          · obtain⟨p,h1,h2⟩:=hsub a ((hmem a).1 ha);exact List.mem_map.2 ⟨p,h1,h2⟩)
        simp only[List.length_cons,List.length_map]at this
        omega
      · obtain⟨cur,hcur⟩:=f2.block_type j hj
        rw[e,hO10]at hcur;cases hcur
      · rw[List.nodup_append]
        exact⟨hnd,by simp,fun a ha b hb=>by simp at hb;subst hb;exact fun e=>hqo (by rw[← e];exact ha)⟩
      · rw[List.mem_append,List.mem_singleton,hmem]
        refine⟨fun h=>?_,fun h=>?_⟩
        · rcases h with h | rfl
          · exact List.mem_cons_of_mem _ h
          · exact List.mem_cons_self
        · exact(List.mem_cons.1 h).elim .inr .inl
      · rcases List.mem_cons.1 ha with rfl | ha
        · exact⟨q,hq,rfl⟩
        · exact hsub a ha
def pick(e:Edge)(q:Nat):Int:=if q=0 then e.1 else e.2
end Go.Proofs.YtlieaecnllkefaaGreat
