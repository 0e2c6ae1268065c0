/- Own texts, packed: U8, U9, U10, U11, U12, U13, U14, U15. -/
import Derived.Test.YtlieaecnllkefaaGreatGOg
import Derived.Test.YtlieaecnllkefaaGreatGPg
import Derived.Test.YtlieaecnllkefaaGreatGQg
import Derived.Test.YtlieaecnllkefaaGreatGYg
import Derived.Test.YtlieaecnllkefaaGreatGNg
namespace Go.Proofs.YtlieaecnllkefaaGreat
open Go Go.V Go.RowKit
set_option linter.unusedVariables false
set_option linter.unusedSimpArgs false
set_option maxHeartbeats 4000000
set_option maxRecDepth 100000
theorem nv.put{L:List (Edge×Bool)}{now:List Edge}{e:Edge}(h:nv L now):nv (xv L e true) (now++[e]):=by
 intro a
 rw[qdo]
 by_cases ha:e=a
 ·rw[if_pos ha];simp[ha]
 ·rw[if_neg ha,h a]
  refine decide_eq_decide.2 ?_
  simp only[List.mem_append,List.mem_singleton]
  exact⟨.inl,fun h=>h.resolve_right fun e'=>ha e'.symm⟩
theorem qj4 {w:World} {A B:Option Addr} {n c m d:Nat} {key:List Edge} {l:List Evt} (hA:Row w A (edges key)) (hn:n=key.length) (hB:Row w B (fh l)) (hm:m=l.length) (hnl:n<=2^30) (hml:m<=2^30) (hk:jp key) (hl:qa4 l) (hrise:ri key) :
    Calls P 68 #[.slice A n c,.slice B m d] w fun ev w'=>ev=.returned (.bool (qds key l))/\w.grownBy w' none:=by
  apply vc68;dsimp only[VC68,Wt,Br,Bb,Rd,Rc,Rs,Ix,rI_,rB_,rS_]
  try simp only[InK]
  have hM:qnj (w.alloc (.map #[] 0)) w.heap.size []:=fd.made w
  have g1:=World.grownBy_alloc w (.map #[] 0) none
  obtain⟨w1,hw1⟩:∃ w1,w1=w.alloc (.map #[] 0):=⟨_,rfl⟩
  rw[← hw1]at hM g1 ⊢
  refine⟨fun mm i w'=>∃ (p:Nat) (L:List (Edge×Bool)),i=(p:Int)/\p<=key.length/\mm=key.length-p/\qnj w' w.heap.size L/\nv L (key.take p)/\w.grownBy w' none,
    ⟨_,0,[],rfl,by omega,rfl,hM,fun a=>by simp[jv],g1⟩,?_⟩
  rintro mm i w2 ⟨p,L,rfl,hp,rfl,hM2,hth,hg⟩
  have tp:(p:Int).toNat=p:=by omega
  rw[tp]
  refine⟨fun hlt=>?_,fun hge=>?_⟩
  · have lp:p<key.length:=by omega
    have hke:=hk _ (List.getElem_mem lp)
    obtain⟨a,e1,e2,e3⟩:=js (hA.kept_none hg) lp
    have sE0:(w2.alloc (.cells #[.int .u32 0,.int .u32 0] 45)).heap[w2.heap.size]?=some (.cells #[.int .u32 0,.int .u32 0] 45 (0,0)):=heap_alloc_new w2 _
    have sE1:=ah sE0 0 (.int .u32 key[p].1)
    have sE2:=ah sE1 1 (.int .u32 key[p].2)
    have bE:(((w2.alloc (.cells #[.int .u32 0,.int .u32 0] 45)).setCell ⟨w2.heap.size,0,none⟩ (.int .u32 key[p].1)).setCell ⟨w2.heap.size,1,none⟩ (.int .u32 key[p].2)).heap[w2.heap.size]?=some (.cells #[.int .u32 key[p].1,.int .u32 key[p].2] 45 (0,0)):=by simpa using sE2
    have gE:w2.grownBy (((w2.alloc (.cells #[.int .u32 0,.int .u32 0] 45)).setCell ⟨w2.heap.size,0,none⟩ (.int .u32 key[p].1)).setCell ⟨w2.heap.size,1,none⟩ (.int .u32 key[p].2)) none:=(Kp.grown (ck (ck (Kp.of_none (S:=fun k=>w2.heap.size<=k) (cf (af w2 none) _)) (Nat.le_refl _)) (Nat.le_refl _)) (fun k hk e=>by omega))
    obtain⟨w3,hE⟩:∃ w3,w3=(((w2.alloc (.cells #[.int .u32 0,.int .u32 0] 45)).setCell ⟨w2.heap.size,0,none⟩ (.int .u32 key[p].1)).setCell ⟨w2.heap.size,1,none⟩ (.int .u32 key[p].2)):=⟨_,rfl⟩
    rw[← hE]at bE gE
    refine⟨a,e1,by omega,by omega,_,e2,_,e3,⟨_,aa sE0 0⟩,ae sE0 0,⟨_,aa sE1 1⟩,ae sE1 1,?_⟩
    rw[← hE]
    have okk:qaa (key[p].1,key[p].2):=⟨hke.1,hke.2⟩
    obtain⟨W2,k1,k2,k3⟩:=fd.update qq7 Tryz.underlying114 (hM2.kept gE) okk true
    refine⟨_,aa bE 0,_,aa bE 1,W2,k1,⟨by omega,by omega⟩,key.length-(p+1),by omega,p+1,xv L key[p] true,by omega,by omega,rfl,k2,?_,ax (ab hg gE) k3 (fun k hk=>by cases hk;omega)⟩
    rw[List.take_succ_eq_append_getElem lp]
    exact hth.put
  · have hpe:p=key.length:=by omega
    subst hpe
    rw[List.take_length]at hth
    refine⟨fun mm i w'=>∃ (p:Nat) (L:List (Edge×Bool)) (now:List Edge),i=(p:Int)/\p<=l.length/\mm=l.length-p/\qnj w' w.heap.size L/\nv L now/\ri now/\w.grownBy w' none/\qds key l=qds now (l.drop p),
      ⟨_,0,L,key,rfl,by omega,rfl,hM2,hth,hrise,hg,rfl⟩,?_⟩
    rintro mm i w4 ⟨p,L,now,rfl,hp,rfl,hM4,hth,hrise,hg,hgo⟩
    have tp:(p:Int).toNat=p:=by omega
    rw[tp]
    refine⟨fun hlt=>?_,fun hge=>?_⟩
    · have lp:p<l.length:=by omega
      rw[List.drop_eq_getElem_cons lp,qds]at hgo
      have hbe:=hl _ (List.getElem_mem lp)
      obtain⟨a,e1,e2,e3,e4,e5⟩:=jm (hB.kept_none hg) lp
      have sE0:(w4.alloc (.cells #[.int .i64 0,.int .u32 0,.int .u32 0,.bool false] 62)).heap[w4.heap.size]?=some (.cells #[.int .i64 0,.int .u32 0,.int .u32 0,.bool false] 62 (0,0)):=heap_alloc_new w4 _
      have sE1:=ah sE0 0 (.int .i64 l[p].t)
      have sE2:=ah sE1 1 (.int .u32 l[p].u)
      have sE3:=ah sE2 2 (.int .u32 l[p].v)
      have sE4:=ah sE3 3 (.bool l[p].add)
      have bE:(((((w4.alloc (.cells #[.int .i64 0,.int .u32 0,.int .u32 0,.bool false] 62)).setCell ⟨w4.heap.size,0,none⟩ (.int .i64 l[p].t)).setCell ⟨w4.heap.size,1,none⟩ (.int .u32 l[p].u)).setCell ⟨w4.heap.size,2,none⟩ (.int .u32 l[p].v)).setCell ⟨w4.heap.size,3,none⟩ (.bool l[p].add)).heap[w4.heap.size]?=some (.cells #[.int .i64 l[p].t,.int .u32 l[p].u,.int .u32 l[p].v,.bool l[p].add] 62 (0,0)):=by simpa using sE4
      have gE:w4.grownBy (((((w4.alloc (.cells #[.int .i64 0,.int .u32 0,.int .u32 0,.bool false] 62)).setCell ⟨w4.heap.size,0,none⟩ (.int .i64 l[p].t)).setCell ⟨w4.heap.size,1,none⟩ (.int .u32 l[p].u)).setCell ⟨w4.heap.size,2,none⟩ (.int .u32 l[p].v)).setCell ⟨w4.heap.size,3,none⟩ (.bool l[p].add)) none:=(Kp.grown (ck (ck (ck (ck (Kp.of_none (S:=fun k=>w4.heap.size<=k) (cf (af w4 none) _)) (Nat.le_refl _)) (Nat.le_refl _)) (Nat.le_refl _)) (Nat.le_refl _)) (fun k hk e=>by omega))
      obtain⟨w5,hE⟩:∃ w5,w5=(((((w4.alloc (.cells #[.int .i64 0,.int .u32 0,.int .u32 0,.bool false] 62)).setCell ⟨w4.heap.size,0,none⟩ (.int .i64 l[p].t)).setCell ⟨w4.heap.size,1,none⟩ (.int .u32 l[p].u)).setCell ⟨w4.heap.size,2,none⟩ (.int .u32 l[p].v)).setCell ⟨w4.heap.size,3,none⟩ (.bool l[p].add)):=⟨_,rfl⟩
      rw[← hE]at bE gE
      refine⟨a,e1,by omega,by omega,_,e2,_,e3,_,e4,_,e5,⟨_,aa sE0 0⟩,ae sE0 0,⟨_,aa sE1 1⟩,ae sE1 1,⟨_,aa sE2 2⟩,ae sE2 2,⟨_,aa sE3 3⟩,ae sE3 3,?_⟩
      rw[← hE]
      have gd:=aj (af w5 none)
      have bEW:=ai bE gd
      have hMW:=(hM4.kept gE).kept gd
      have hgW:=ab (ab hg gE) gd
      have okk:qaa (l[p].u,l[p].v):=⟨hbe.1.1,hbe.1.2⟩
      refine⟨_,aa bEW 1,_,aa bEW 2,_,lookE hMW okk,_,aa bEW 3,_,fun w=>qc2 _ _ _ _ w,fun h5=>?_,fun h5=>?_⟩
      · have:=(hth.turn (e:=l[p]) hrise).2 (of_decide_eq_true h5)
        rw[hgo,this]
        exact⟨rfl,hgW⟩
      · have hne:cr now l[p]≠none:=fun h=>of_decide_eq_false h5 ((hth.turn (e:=l[p]) hrise).1 h)
        obtain⟨x,hx⟩:∃ x,cr now l[p]=some x:=by
          cases hq:cr now l[p]with
          | none=>exact absurd hq hne
          | some x=>exact⟨x,rfl⟩
        obtain⟨W2,k1,k2,k3⟩:=fd.update qq7 Tryz.underlying114 hMW okk l[p].add
        refine⟨_,aa bEW 1,_,aa bEW 2,_,aa bEW 3,W2,k1,⟨by omega,by omega⟩,l.length-(p+1),by omega,p+1,xv L (l[p].u,l[p].v) l[p].add,x,by omega,by omega,rfl,k2,hth.upd hx,(ki hx).1,ax hgW k3 (fun k hk=>by cases hk;omega),?_⟩
        rw[hgo,hx]
    · have hpe:p=l.length:=by omega
      subst hpe
      rw[List.drop_length]at hgo
      rw[hgo]
      exact⟨rfl,hg⟩
theorem add0(a:Addr):a.add 0=a:=by cases a;unfold Addr.add;split <;>simp_all
theorem qcl{w:World}{A B:Option Addr}{n c m d:Nat}{key:List Edge}{l:List Evt}(hA:Row w A (edges key))(hn:n=key.length)(hB:Row w B (fh l))(hm:m=l.length)(hnl:n<=2^20)(hml:m<=2^19)(hk:jp key)(hl:qa4 l)
    (ha:qfx key=true->(qdx key).length<=2^20) (hd:qci (t0E l) none l=true->(iv (t0E l) l).length<=2^20) :
    Calls P 36 #[.slice A n c,.slice B m d] w fun ev w'=>∃(A':Option Addr)(n' c':Nat),ev=.returned (.tuple #[.slice A' n' c',.int .i64 (kw key l)])/\am w' w.heap.size 5 1 A' n' c' (u8s (if kw key l=0 then mu (t0E l) key l else []))/\w.grownBy w' none:=by
  apply vc36;dsimp only[VC36,Wt,Br,Bb,Rd,Rc,Rs,Ix,rI_,rB_,rS_]
  try simp only[InK]
  have bad:∀(e:Int)(w':World),kw key l=e->e≠0->w.grownBy w' none->∃(A':Option Addr)(n' c':Nat),Ending.returned (.tuple #[.slice none 0 0,.int .i64 e])=.returned (.tuple #[.slice A' n' c',.int .i64 (kw key l)])/\am w' w.heap.size 5 1 A' n' c' (u8s (if kw key l=0 then mu (t0E l) key l else []))/\w.grownBy w' none:=by
    intro e w' he h0 g
    rw[he,if_neg h0]
    exact⟨_,_,_,rfl,am.nil _ _ _ _,g⟩
  refine(qcp hA hn hnl hk).mono fun ev w1 hh=>?_
  obtain⟨A1,n1,c1,rfl,o1,g1⟩:=hh
  refine⟨_,_,_,_,rfl,fun h=>?_,fun h=>?_⟩
  · have hadj:¬ qfx key=true:=fun e=>h (if_pos e)
    exact bad 23 _ (by unfold kw;rw[if_pos (.inl (by simpa using hadj))]) (by omega) g1
  have hadj:qfx key=true:=by
    by_cases e:qfx key=true
    · exact e
    · rw[if_neg e]at h;omega
  rw[if_pos hadj]at o1
  refine⟨fun h0=>?_,fun h0=>?_⟩
  · have:l=[]:=List.eq_nil_of_length_eq_zero (by omega)
    exact bad 23 _ (by unfold kw;rw[if_pos (.inr this)]) (by omega) g1
  have l0:0<l.length:=by omega
  have hne:l≠[]:=fun e=>by subst e;simp at l0
  obtain⟨a,e1,e2,_⟩:=jm (hB.kept_none g1) l0
  rw[Nat.zero_mul,add0]at e2
  have ht0:l[0].t=t0E l:=by cases l with | nil=>exact absurd rfl hne | cons e l=>rfl
  rw[ht0]at e2
  refine⟨a,e1,by omega,by omega,_,e2,(qch (t0:=t0E l) (hB.kept_none g1) hm (by omega) hl).mono fun ev w2 hh=>?_⟩
  obtain⟨A2,n2,c2,rfl,o2,g2⟩:=hh
  have g02:=ab g1 g2
  refine⟨_,_,_,_,rfl,fun h=>?_,fun h=>?_⟩
  · have hdel:¬ qci (t0E l) none l=true:=fun e=>h (if_pos e)
    rw[if_neg hdel]
    exact bad 23 _ (by unfold kw;rw[if_neg (by rw[hadj];simp[hne]),if_pos (by simpa using hdel)]) (by omega) g02
  have hdel:qci (t0E l) none l=true:=by
    by_cases e:qci (t0E l) none l=true
    · exact e
    · rw[if_neg e]at h;omega
  rw[if_pos hdel]at o2
  have hao:=(y8 hk (by omega)).1 hadj
  refine(qj4 (hA.kept_none g02) hn (hB.kept_none g02) hm (by omega) (by omega) hk hl hao.rise).mono fun ev w3 hh=>?_
  obtain⟨rfl,g3⟩:=hh
  have g03:=ab g02 g3
  refine⟨_,rfl,fun h=>?_,fun h=>?_⟩
  · exact bad 25 _ (by unfold kw;rw[if_neg (by rw[hadj];simp[hne]),if_neg (by rw[hdel];simp),if_pos h]) (by omega) g03
  have hok:kw key l=0:=by unfold kw;rw[if_neg (by rw[hadj];simp[hne]),if_neg (by rw[hdel];simp),if_neg h]
  rw[hok,if_pos rfl]
  have la:=ha hadj
  have ld:=hd hdel
  have o1':=(o1.kept g2).kept g3
  have pa:=mi (ff key) (by omega)
  have pd:=mi (df (t0E l) l) (by omega)
  refine(wz o1'.row (d8 o1) (ff key) (by rw[d8 o1];omega)).mono fun ev w4 hh=>?_
  obtain⟨A4,n4,c4,rfl,o4,g4⟩:=hh
  have n4l:=d8 o4
  refine⟨_,_,_,rfl,by omega,?_⟩
  have ga:=World.grownBy_alloc w4 (.cells #[.int .u64 (n4:Int)] 22) none
  have hra:Row (w4.alloc (.cells #[.int .u64 (n4:Int)] 22)) (some ⟨w4.heap.size,0,none⟩) (qpn [n4]):=ey w4 _ 22
  refine(kb (l:=[n4]) hra rfl (by simp;omega) (by simp)).mono fun ev w5 hh=>?_
  obtain⟨A5,n5,c5,rfl,o5,g5⟩:=hh
  rw[ou]at o5
  have g45:=ab ga g5
  replace o5:=o5.mono (base':=w4.heap.size) ga.size
  have n5l:=d8 o5
  have p5:=dh (v:=n4) (by omega)
  obtain⟨A6,n6,c6,w6,f1,o6,f3,_⟩:=bk o5 (o4.kept g45).row n4l (dr o4) (by omega) g45.size
  have g46:=ax g45 f3 o5.block_ge
  have n6l:=d8 o6
  refine⟨_,_,_,rfl,_,_,_,w6,f1,?_⟩
  have o2':=((o2.kept g3).kept g4).kept g46
  refine(wz o2'.row (d8 o2) (df _ _) (by rw[d8 o2];omega)).mono fun ev w7 hh=>?_
  obtain⟨A7,n7,c7,rfl,o7,g7⟩:=hh
  have n7l:=d8 o7
  have g47:=ab g46 g7
  rw[List.length_append]at n6l
  obtain⟨A8,n8,c8,w8,q1,o8,q3,_⟩:=bk (o6.kept g7) o7.row n7l (dr o7) (by omega) g47.size
  have g48:=ax g47 q3 o6.block_ge
  refine⟨_,_,_,rfl,_,_,_,w8,q1,_,_,_,rfl,?_,ab (ab g03 g4) g48⟩
  have:=o8.mono (base':=w.heap.size) (Nat.le_trans g03.size g4.size)
  rw[n4l,List.append_assoc]at this
  exact this
theorem qgd {w:World} {A:Option Addr} {n c:Nat} {x:List Int} (hr:Row w A (u8s x)) (hn:n=x.length) (hc:n<=c) (hb:bf x) (hl:x.length<=2^16) :
    Calls P 86 #[.slice A n c] w fun ev w'=>∃(A1:Option Addr)(n1 c1:Nat)(A2:Option Addr)(n2 c2:Nat)(ok:Bool),ev=.returned (.tuple #[.slice A1 n1 c1,.slice A2 n2 c2,.bool ok])/\w.grownBy w' none ∧
      (ok=true->∃ a d:List Int,Row w' A1 (u8s a)/\n1=a.length/\n1<=c1/\bf a/\a.length<=8*x.length/\Row w' A2 (u8s d)/\n2=d.length/\n2<=c2/\bf d/\d.length<=8*x.length/\∀ a0 d0,bf a0->bf d0->x=fk (gy a0).length++(gy a0++gy d0)->a=a0/\d=d0) ∧
      (ok=false->∀ a0 d0,bf a0->bf d0->x=fk (gy a0).length++(gy a0++gy d0)->False):=by
  apply vc86;dsimp only[VC86,Wt,Br,Bb,Rd,Rc,Rs,Ix,rI_,rB_,rS_]
  try simp only[InK]
  refine(rv (most:=9223372036854775807) hr hn hb (by omega)).mono fun ev w1 hh=>?_
  obtain⟨rfl,g1⟩:=hh
  have ht:=mw (most:=9223372036854775807) (b:=x) (fun y hy=>(hb y hy).1)
  have canon:∀ a0 d0,bf a0->bf d0->x=fk (gy a0).length++(gy a0++gy d0)->d9 9223372036854775807 x=(((gy a0).length:Int),(fk (gy a0).length).length,0):=by
    intro a0 d0 h1 h2 hx
    have hs:(gy a0).length<=x.length:=by rw[hx];simp only[List.length_append];omega
    rw[hx]
    exact ij (by omega) (by omega) _
  obtain⟨v,k,e,hv⟩:∃ v k e,d9 9223372036854775807 x=(v,k,e):=⟨_,_,_,rfl⟩
  rw[hv]at ht canon ⊢
  simp only at ht
  refine⟨v,(k:Int),e,rfl,⟨by omega,by omega⟩,fun he=>?_,fun he=>?_⟩
  · refine⟨_,_,_,_,_,_,_,rfl,g1,fun h=>(by cases h),fun _ a0 d0 h1 h2 hx=>?_⟩
    have:=canon a0 d0 h1 h2 hx
    simp only[Prod.mk.injEq]at this
    exact he this.2.2
  have tk:(k:Int).toNat=k:=by omega
  rw[tk]
  refine⟨by omega,fun hgt=>?_,fun hle=>?_⟩
  · refine⟨_,_,_,_,_,_,_,rfl,g1,fun h=>(by cases h),fun _ a0 d0 h1 h2 hx=>?_⟩
    have:=canon a0 d0 h1 h2 hx
    simp only[Prod.mk.injEq]at this
    have hxl:=congrArg List.length hx
    simp only[List.length_append]at hxl
    omega
  obtain⟨q,rfl⟩:∃ q:Nat,v=(q:Int):=⟨v.toNat,by omega⟩
  have tq:(q:Int).toNat=q:=by omega
  rw[tq]
  have hkn:k<=n:=by omega
  have r1:Row w1 (dz A c k 1) (u8s (x.drop k)):=qkc (hr.kept_none g1) (by omega)
  have r1':Row w1 (dz A c k 1) (u8s ((x.drop k).take q)):=by
    intro j u hj
    rw[show u8s ((x.drop k).take q)=(u8s (x.drop k)).take q by rw[u8s,List.map_take],List.getElem?_take]at hj
    split at hj
    · exact r1 j u hj
    · cases hj
  have ldk:(x.drop k).length=x.length-k:=List.length_drop
  have hbd:bf (x.drop k):=fun y hy=>hb y (List.mem_of_mem_drop hy)
  refine⟨⟨by omega,by omega⟩,(sr r1' (by rw[List.length_take];omega) (by omega) (fun y hy=>hbd y (List.mem_of_mem_take hy)) (by rw[List.length_take];omega)).mono fun ev w2 hh=>?_⟩
  obtain⟨g2,hr2⟩:=hh
  have r2:Row w2 (dz (dz A c k 1) (c-k) q 1) (u8s ((x.drop k).drop q)):=qkc (r1.kept_none g2) (by omega)
  -- what the parts are, if there are any
  have parts:∀ a0 d0,bf a0->bf d0->x=fk (gy a0).length++(gy a0++gy d0)->(x.drop k).take q=gy a0/\(x.drop k).drop q=gy d0/\a0.length<2^62/\d0.length<2^62:=by
    intro a0 d0 h1 h2 hx
    have:=canon a0 d0 h1 h2 hx
    simp only[Prod.mk.injEq]at this
    have hs:=qop h1 h2 hx
    have hq:q=(gy a0).length:=by omega
    have hdr:x.drop k=gy a0++gy d0:=by rw[this.2.1,hx];exact List.drop_left' rfl
    rw[hdr,hq]
    exact⟨List.take_left' rfl,List.drop_left' rfl,by omega,by omega⟩
  have go:∀ (A1:Option Addr) (n1 c1:Nat) (e1:Int) (hform:qng ((x.drop k).take q) (.returned (.tuple #[.slice A1 n1 c1,.int .i64 e1])) w2),∃(x32A:Option Addr)(x32n x32c:Nat)(x32:Int),Ending.returned (.tuple #[.slice A1 n1 c1,.int .i64 e1])=.returned (.tuple #[.slice x32A x32n x32c,.int .i64 x32])/\True:=fun A1 n1 c1 e1 _=>⟨_,_,_,_,rfl,trivial⟩
  have gd2:=ab g1 g2
  rcases hr2 with⟨A3,n3,c3,o,rfl,ro,hno,hbo,hol,hput⟩ | ⟨rfl,hbad⟩
  · have hso:=ut hbo hput
    rw[List.length_take]at hso
    refine⟨_,_,_,_,rfl,⟨by omega,by omega⟩,(sr r2 (by rw[List.length_drop];omega) (by omega) (fun y hy=>hbd y (List.mem_of_mem_drop hy)) (by rw[List.length_drop];omega)).mono fun ev w3 hh=>?_⟩
    obtain⟨g3,hr3⟩:=hh
    have g03:=ab gd2 g3
    rcases hr3 with⟨A4,n4,c4,o',rfl,ro',hno',hbo',hol',hput'⟩ | ⟨rfl,hbad'⟩
    · have hso':=ut hbo' hput'
      rw[List.length_drop]at hso'
      refine⟨_,_,_,_,rfl,fun _=>⟨_,_,_,_,_,_,_,rfl,g03,fun _=>⟨o,o',ro.kept_none g3,hno.1,hno.2,hbo,by omega,ro',hno'.1,hno'.2,hbo',by omega,fun a0 d0 h1 h2 hx=>?_⟩,fun h=>?_⟩,fun h=>absurd rfl h⟩
      · obtain⟨p1,p2,p3,p4⟩:=parts a0 d0 h1 h2 hx
        exact⟨qhv hbo h1 (by omega) (by omega) (by rw[hput,p1]),qhv hbo' h2 (by omega) (by omega) (by rw[hput',p2])⟩
      · simp at h
    · refine⟨_,_,_,_,rfl,fun _=>⟨_,_,_,_,_,_,_,rfl,g03,fun h=>(by simp at h),fun _ a0 d0 h1 h2 hx=>?_⟩,fun h=>absurd rfl h⟩
      obtain⟨p1,p2,p3,p4⟩:=parts a0 d0 h1 h2 hx
      exact hbad' d0 h2 p4 p2.symm
  · refine⟨_,_,_,_,rfl,⟨by omega,by omega⟩,(sr r2 (by rw[List.length_drop];omega) (by omega) (fun y hy=>hbd y (List.mem_of_mem_drop hy)) (by rw[List.length_drop];omega)).mono fun ev w3 hh=>?_⟩
    obtain⟨g3,hr3⟩:=hh
    have g03:=ab gd2 g3
    have fin:∀(A4:Option Addr)(n4 c4:Nat),∃(A1:Option Addr)(n1 c1:Nat)(A2:Option Addr)(n2 c2:Nat)(ok:Bool),Ending.returned (.tuple #[.slice none 0 0,.slice A4 n4 c4,.bool false])=.returned (.tuple #[.slice A1 n1 c1,.slice A2 n2 c2,.bool ok])/\w.grownBy w3 none ∧
      (ok=true->∃ a d:List Int,Row w3 A1 (u8s a)/\n1=a.length/\n1<=c1/\bf a/\a.length<=8*x.length/\Row w3 A2 (u8s d)/\n2=d.length/\n2<=c2/\bf d/\d.length<=8*x.length/\∀ a0 d0,bf a0->bf d0->x=fk (gy a0).length++(gy a0++gy d0)->a=a0/\d=d0) ∧
      (ok=false->∀ a0 d0,bf a0->bf d0->x=fk (gy a0).length++(gy a0++gy d0)->False):=by
      intro A4 n4 c4
      refine⟨_,_,_,_,_,_,_,rfl,g03,fun h=>(by cases h),fun _ a0 d0 h1 h2 hx=>?_⟩
      obtain⟨p1,p2,p3,p4⟩:=parts a0 d0 h1 h2 hx
      exact hbad a0 h1 p3 p1.symm
    rcases hr3 with⟨A4,n4,c4,o',rfl,_⟩ | ⟨rfl,_⟩
    · exact⟨_,_,_,_,rfl,fun h=>absurd h (by omega),fun _=>fin _ _ _⟩
    · exact⟨_,_,_,_,rfl,fun h=>absurd h (by omega),fun _=>fin _ _ _⟩
abbrev badBlk:Value:=.tuple #[.slice none 0 0,.slice none 0 0,.int .i64 21]
def qq3(x:List Int)(n t0 count:Int)(ev:Ending)(w':World):Prop :=
 (∃(A1:Option Addr)(n1 c1:Nat)(A2:Option Addr)(n2 c2:Nat)(key:List Edge)(l:List Evt),ev=.returned (.tuple #[.slice A1 n1 c1,.slice A2 n2 c2,.int .i64 0])/\(Row w' A1 (edges key)/\n1=key.length/\n1<=c1/\(A1=none->c1=0))/\(Row w' A2 (fh l)/\n2=l.length/\n2<=c2/\(A2=none->c2=0))/\l.length<=2^20/\qf1 x n t0 count key l) ∨
 (ev=.returned badBlk/\∀ key l,¬ qf1 x n t0 count key l)
theorem qha {w:World} {A:Option Addr} {k c:Nat} {x:List Int} {n t0 count:Int} (hr:Row w A (u8s x)) (hk:k=x.length) (hc:k<=c) (hb:bf x) (hl:x.length<2^13) (hcount:count<=9223372036854775807) :
    Calls P 49 #[.slice A k c,.int .u64 n,.int .i64 t0,.int .i64 count] w fun ev w'=>w.grownBy w' none/\qq3 x n t0 count ev w':=by
  apply vc49;dsimp only[VC49,Wt,Br,Bb,Rd,Rc,Rs,Ix,rI_,rB_,rS_]
  try simp only[InK]
  refine(qgd hr hk hc hb (by omega)).mono fun ev w1 hh=>?_
  obtain⟨A1,n1,c1,A2,n2,c2,ok,rfl,g1,hgood,hbad⟩:=hh
  refine⟨_,_,_,_,_,_,_,rfl,fun h=>⟨g1,.inr ⟨rfl,fun key l hk=>?_⟩⟩,fun h=>⟨fun hc1=>⟨g1,.inr ⟨rfl,fun key l hk=>?_⟩⟩,fun hc1=>?_⟩⟩
  · exact hbad h _ _ (ff key) (df t0 l) hk.eq
  · have h1:=hk.len
    have h2:=hk.ok.ne
    have:l.length≠0:=fun e=>h2 (List.eq_nil_of_length_eq_zero e)
    omega
  obtain⟨a,d,ra,ha,hac,hba,hal,rd,hd,hdc,hbd,hdl,huniq⟩:=hgood (by simpa using h)
  refine(qhf (n:=n) ra ha hac hba (by omega)).mono fun ev w2 hh=>?_
  obtain⟨g2,hr2⟩:=hh
  have g02:=ab g1 g2
  rcases hr2 with⟨A3,n3,c3,key,rfl,rk,hn3,hc3,hA3,hkis⟩ | ⟨rfl,hno⟩
  · refine⟨_,_,_,_,rfl,(qau (t0:=t0) (count:=count) (n:=n) (rd.kept_none g2) hd hdc hbd (by omega) hcount).mono fun ev w3 hh=>?_⟩
    obtain⟨g3,hr3⟩:=hh
    have g03:=ab g02 g3
    rcases hr3 with⟨A4,n4,c4,l,rfl,rl,hn4,hc4,hA4,hlis⟩ | ⟨rfl,hno⟩
    · refine⟨_,_,_,_,rfl,fun h=>absurd rfl h,fun _=>⟨fun h=>absurd rfl h,fun _=>?_⟩⟩
      obtain⟨k1,k2,k3⟩:=hkis
      obtain⟨l1,l2,l3,l4⟩:=hlis
      have hkl:=qqy key
      have hll:=(mr l1).2
      rw[← k3]at hkl
      rw[← l4]at hll
      have hne:l≠[]:=fun e=>by rw[e]at l2;simp at l2;omega
      have ht:=l1.t0 hne
      refine(qcl (rk.kept_none g3) hn3 rl hn4 (by omega) (by omega) k1.edgesB l1.evtsB (fun _=>by rw[← k3];omega) (fun _=>by rw[ht,← l4];omega)).mono fun ev w4 hh=>?_
      obtain⟨A5,n5,c5,rfl,o5,g4⟩:=hh
      have g04:=ab g03 g4
      have hB:=qfs k1.edgesB k1.len l1.evtsB
      rw[ht]at hB o5
      have same:∀ key' l',qf1 x n t0 count key' l'->key'=key/\l'=l:=by
        intro key' l' hk'
        obtain⟨e1,e2⟩:=huniq _ _ (ff key') (df t0 l') hk'.eq
        exact⟨qi0 hk'.ok.adj k1 (by rw[← e1,k3]),xo hk'.ok.del l1 (by rw[← e2,l4])⟩
      refine⟨_,_,_,_,rfl,fun h=>⟨g04,.inr ⟨rfl,fun key' l' hk'=>?_⟩⟩,fun h=>?_⟩
      · obtain⟨rfl,rfl⟩:=same _ _ hk'
        exact h (hB.2 hk'.ok)
      have hz:kw key l=0:=by simpa using h
      have hok:=hB.1 hz
      rw[if_pos hz]at o5
      refine(kv o5.row (d8 o5) (hr.kept_none g04) hk (qa _ _ _) hb).mono fun ev w5 hh=>?_
      obtain⟨rfl,rfl⟩:=hh
      refine⟨_,rfl,fun h=>⟨g04,.inr ⟨rfl,fun key' l' hk'=>?_⟩⟩,fun h=>⟨g04,.inl ⟨_,_,_,_,_,_,key,l,rfl,⟨(rk.kept_none g3).kept_none g4,hn3,hc3,hA3⟩,⟨rl.kept_none g4,hn4,hc4,hA4⟩,by omega,hok,k2,l3,l2,?_⟩⟩⟩
      · obtain⟨rfl,rfl⟩:=same _ _ hk'
        exact of_decide_eq_false h hk'.eq.symm
      · have:decide (mu t0 key l=x)=true:=by simpa using h
        exact(of_decide_eq_true this).symm
    · refine⟨_,_,_,_,rfl,fun h=>absurd rfl h,fun _=>⟨fun _=>⟨g03,.inr ⟨rfl,fun key' l' hk'=>?_⟩⟩,fun h=>absurd (by omega) h⟩⟩
      obtain⟨e1,e2⟩:=huniq _ _ (ff key') (df t0 l') hk'.eq
      exact hno l' ⟨hk'.ok.del,hk'.len,hk'.evtV,e2⟩
  · have fin:∀ key' l',¬ qf1 x n t0 count key' l':=fun key' l' hk'=>by
      obtain⟨e1,e2⟩:=huniq _ _ (ff key') (df t0 l') hk'.eq
      exact hno key' ⟨hk'.ok.adj,hk'.keyV,e1⟩
    refine⟨_,_,_,_,rfl,(qau (t0:=t0) (count:=count) (n:=n) (rd.kept_none g2) hd hdc hbd (by omega) hcount).mono fun ev w3 hh=>?_⟩
    obtain⟨g3,hr3⟩:=hh
    have g03:=ab g02 g3
    rcases hr3 with⟨A4,n4,c4,l,rfl,_⟩ | ⟨rfl,_⟩
    · exact⟨_,_,_,_,rfl,fun _=>⟨g03,.inr ⟨rfl,fin⟩⟩,fun h=>absurd (by omega) h⟩
    · exact⟨_,_,_,_,rfl,fun _=>⟨g03,.inr ⟨rfl,fin⟩⟩,fun h=>absurd (by omega) h⟩
end Go.Proofs.YtlieaecnllkefaaGreat
