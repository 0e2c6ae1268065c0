/- Own texts, packed: W18, W19, W20. -/
import Derived.Test.YtlieaecnllkefaaGreatGWDg
import Derived.Test.YtlieaecnllkefaaGreatGWYg
set_option linter.unusedVariables false
set_option linter.unusedSimpArgs false
set_option maxHeartbeats 8000000
set_option maxRecDepth 100000
namespace Go.Proofs.YtlieaecnllkefaaGreat
open Go Go.V Go.RowKit
theorem sV{W:World}(l:List Nat)(hb:∀ x∈l,x<2^64)(hl:l.length<=8)(vs:Array Value)(hv:vs=(pD l).toArray):
    Calls P 80 #[.slice (some ⟨W.heap.size,0,none⟩) l.length l.length] (W.alloc (.cells vs 22)) fun ev w'=>∃(A':OA)(n' c':Nat),ev=.returned (.slice A' n' c')/\aE w' W.heap.size 5 1 A' n' c' (cy (bF l))/\W.grownBy w' none:=by
  subst hv;have gA:=World.grownBy_alloc W (.cells (pD l).toArray 22) none;have rA:=im W (pD l).toArray 22;refine(kg (n:=l.length) (by simpa using rA) rfl hb (by omega)).mono fun ev w1 hh=>?_;obtain⟨A',n',c',rfl,o,g⟩:=hh;exact⟨_,_,_,rfl,o.mono gA.size,aA gA g⟩
theorem Ab {w:World} {A:OA} {n c:Nat} {l:List Edge} (hr:aY w A (edges l)) (hn:n=l.length) (hl:n<=2^18) (h:oe l) :
    Calls P 77 #[.slice A n c] w fun ev w'=>∃(A':OA)(n' c':Nat),ev=.returned (.tuple #[.slice A' n' c',.int .i64 0])/\aE w' w.heap.size 5 1 A' n' c' (cy (jt l))/\w.grownBy w' none:=by
  apply vc77;dsimp only[VC77,rt,Br,Rd,Ix,Ap,cB,cS,nb,ad,al,iq]
  try simp only[aG]
  have hE:=h.edgesB;have Ge:=xQ (-1) 0 l (by omega) (by omega) hE h.len;refine⟨fun m rA rn rc us u i W=>∃(p k:Nat)(dn:List Nat)(v:Int),i=(p:Int)/\p<=l.length/\m=l.length-p/\us=(k:Int)/\k<=p/\(p=0/\u=-1/\v=0∨0<p/\∃ h:p-1<l.length,u=l[p-1].1/\v=l[p-1].2)/\dR (-1) 0 l=dn++dR u v (l.drop p)/\eQ (-1) l=k+eQ u (l.drop p)/\dn.length<=3*p/\aE W w.heap.size 5 1 rA rn rc (cy (bF dn))/\w.grownBy W none,
    ⟨_,0,0,[],0,rfl,by omega,rfl,rfl,by omega,.inl ⟨rfl,rfl,rfl⟩,by simp,by simp,by simp,aE.nil _ _ _ _,aC _ _⟩,?_⟩
  rintro m rA rn rc us u i W ⟨p,k,dn,v,rfl,hp,rfl,rfl,hk,hu,hG,hC,LO,oR,g⟩;have tp:(p:Int).toNat=p:=by omega
  rw[tp];have Qi:∀ x∈dn,x<2^64:=fun x hx=>by
    have:=Ge x (by rw[hG];exact List.mem_append.2 (.inl hx));omega
  have J8:=fI Qi;have Om:rn=(bF dn).length:=by have h':=oR.cases.1;unfold cy at h';rw[List.length_map]at h';omega
  refine⟨fun Je=>?_,fun Gj=>?_⟩
  · have lp:p<l.length:=by omega
    have re:=h.right _ (List.getElem_mem lp);have GI:=List.drop_eq_getElem_cons lp;have gd:∀ {X Y:World},X.grownBy Y none->X.grownBy Y.drew none:=fun h=>aA h (aH (aC _ none));have at0:∀ {X:World},W.grownBy X none->∃ a,A=some a/\X.cell? (a.add (p*2))=some (.int .u32 l[p].1)/\X.cell? ((a.add (p*2)).add 1)=some (.int .u32 l[p].2):=fun hX=>eE (hr.kept_none (aA g hX)) lp;have at1:0<p->∃ h1:p-1<l.length,∀ {X:World},W.grownBy X none->∃ a,A=some a/\X.cell? (a.add ((((p:Int)-1).toNat)*2))=some (.int .u32 l[p-1].1)/\X.cell? ((a.add ((((p:Int)-1).toNat)*2)).add 1)=some (.int .u32 l[p-1].2):=fun Gm=>⟨by omega,fun hX=>by
      have e:((p:Int)-1).toNat=p-1:=by omega
      rw[e];exact eE (hr.kept_none (aA g hX)) (by omega)⟩
    have Kf:∀(Gm:0<p),aM (l[p-1]'(by omega)) l[p]=true:=fun Gm=>List.pairwise_iff_getElem.1 h.rise (p-1) p _ _ (by omega);refine⟨fun X=>W.grownBy X none,?_,fun w3 g3=>?_⟩
    · obtain⟨a,e1,e2,e3⟩:=at0 (gd (aC W none));refine⟨a,e1,by omega,by omega,_,e2,a,e1,by omega,by omega,_,e3,fun IK=>by omega,fun _=>⟨fun Gm=>?_,fun _=>gd (aC W none)⟩⟩;obtain⟨h1,at1⟩:=at1 (by omega);obtain⟨b,b1,b2,b3⟩:=at1 (gd (aC W none));refine⟨by omega,b,b1,by omega,by omega,_,b2,_,b3,a,e1,by omega,by omega,_,e2,_,e3,(lQ l[p-1] l[p]).mono fun ev w2 hh=>?_⟩;obtain⟨rfl,g2⟩:=hh;rw[Kf (by omega)];exact⟨_,rfl,fun h=>(by cases h),fun _=>aA (gd (aC W none)) g2⟩
    refine⟨fun A' n' c' X=>A'=rA/\n'=rn/\c'=rc/\W.grownBy X none/\l[p].1≠u,⟨fun Gm=>?_,fun hz=>⟨rfl,rfl,rfl,gd g3,by omega⟩⟩,?_⟩
    · obtain⟨h1,at1⟩:=at1 (by omega);obtain⟨a,e1,e2,e3⟩:=at0 (gd g3);obtain⟨b,b1,b2,b3⟩:=at1 (gd g3);obtain⟨Yc,KE⟩:u=l[p-1].1/\v=l[p-1].2:=by
        rcases hu with h | ⟨_,_,h⟩
        · omega
        · exact h
      refine⟨by omega,b,b1,by omega,by omega,_,b2,a,e1,by omega,by omega,_,e2,fun GG=>?_,fun TB=>⟨rfl,rfl,rfl,gd g3,by omega⟩⟩;have Iu:=dO.1 (Kf (by omega));have re1:=h.right _ (List.getElem_mem h1);obtain⟨a',e1',e2',e3'⟩:=at0 (gd (gd g3));obtain⟨b',b1',b2',b3'⟩:=at1 (gd (gd g3));obtain⟨x,hx⟩:∃ x:Nat,x=(l[p].2-v-1).toNat:=⟨_,rfl⟩;have KQ:l[p].2-l[p-1].2-1=(x:Int):=by omega
      refine⟨a',e1',by omega,by omega,_,e3',by omega,b',b1',by omega,by omega,_,b3',by omega,by omega,by omega,?_⟩;rw[KQ];have gW2:=gd (gd g3);obtain⟨W2,JX⟩:∃ W2,W2=w3.drew.drew:=⟨_,rfl⟩;rw[← JX]at gW2 ⊢;have Uu:x<2^32:=by omega
      refine(sV [x] (by simp;omega) (by simp) _ rfl).mono fun ev w4 hh=>?_;obtain⟨B,nB,cB,rfl,oB,g4⟩:=hh;have Qe:nB=(bF [x]).length:=by have h':=oB.cases.1;unfold cy at h';rw[List.length_map]at h';omega
      have IB:=fI (l:=[x]) (by simp;omega);have gW4:=aA gW2 g4;have oR4:=oR.kp (S:=fun _=>False) (Kp.of_none gW4) (fun _ _ e=>e);obtain⟨A5,n5,c5,w5,r5,o5,g5,_⟩:=aO oR4 oB.row Qe (bC oB) (by simp at IB;omega) (aA g gW4).size;have Ss:dR (-1) 0 l=(dn++[x])++dR u l[p].2 (l.drop (p+1)):=by
        rw[hG,GI,lu _ _ _ _ (by omega),← hx,List.append_assoc];rfl
      have M8:eQ (-1) l=k+eQ u (l.drop (p+1)):=by
        rw[hC,GI,eQ,if_pos (by omega)]
      refine⟨_,_,_,rfl,A5,n5,c5,w5,r5,by omega,_,?_,p+1,k,dn++[x],l[p].2,by omega,by omega,rfl,rfl,by omega,.inr ⟨by omega,by simpa using lp,by simp;omega,by simp⟩,Ss,M8,by simp;omega,by rw[io];exact o5,aX (aA g gW4) g5 fun q hq=>(World.ownsRow.lt oR4 q hq).1⟩;omega
    rintro A' n' c' w6 ⟨rfl,rfl,rfl,g6,Gh⟩;refine⟨fun n1 X=>n1=(il l[p].1 (l.drop p):Int)/\W.grownBy X none,⟨fun m2 q X=>∃ q':Nat,q=(q':Int)/\p+q'<=l.length/\m2=l.length-q'/\il l[p].1 (l.drop p)=q'+il l[p].1 (l.drop (p+q'))/\W.grownBy X none,⟨_,0,rfl,by omega,rfl,by simp,g6⟩,?_⟩,?_⟩
    · rintro m2 q w7 ⟨q',rfl,hq,rfl,G9,g7⟩;refine⟨by omega,fun GK=>?_,fun IS=>⟨?_,gd g7⟩⟩
      · have lq:p+q'<l.length:=by omega
        obtain⟨a,e1,e2,e3⟩:=eE (hr.kept_none (aA g (gd g7))) lq;obtain⟨b,b1,b2,b3⟩:=at0 (gd g7);have e:((p:Int)+(q':Int)).toNat=p+q':=by omega
        have TJ:=List.drop_eq_getElem_cons lq;rw[e];refine⟨by omega,a,e1,by omega,by omega,_,e2,b,b1,by omega,by omega,_,b2,fun hs=>⟨by omega,_,?_,q'+1,by omega,by omega,rfl,?_,gd g7⟩,fun hd=>⟨?_,gd g7⟩⟩
        · omega
        · rw[TJ,fj,if_pos hs]at G9;rw[G9,show p+(q'+1)=p+q'+1 by omega];omega
        · rw[TJ,fj,if_neg hd]at G9;omega
      · have:p+q'=l.length:=by omega
        rw[this,List.drop_length]at G9;simp[il]at G9 ⊢;omega
    rintro n1 w8 ⟨rfl,g8⟩;have I3:=wO l[p].1 (l.drop p);rw[List.length_drop]at I3;obtain⟨a,e1,e2,e3⟩:=at0 (gd g8);have UG:-1<=u/\u<l[p].1:=by
      rcases hu with⟨h0,h1,_⟩ | ⟨h0,h1,h2,_⟩
      · omega
      · have:=dO.1 (Kf h0);have:=h.right _ (List.getElem_mem h1);omega
    obtain⟨x,hx⟩:∃ x:Nat,x=(l[p].1-u-1).toNat:=⟨_,rfl⟩;obtain⟨y,hy⟩:∃ y:Nat,y=il l[p].1 (l.drop p):=⟨_,rfl⟩;obtain⟨z,hz⟩:∃ z:Nat,z=(l[p].2-l[p].1-1).toNat:=⟨_,rfl⟩;have KQ:l[p].1-u-1=(x:Int):=by omega
    have Un:l[p].2-l[p].1-1=(z:Int):=by omega
    rw[← hy]at I3 ⊢;refine⟨a,e1,by omega,by omega,_,e2,by omega,by omega,by omega,by omega,by omega,a,e1,by omega,by omega,_,e3,a,e1,by omega,by omega,_,e2,by omega,by omega,by omega,?_⟩;rw[KQ,Un];have g8':=gd g8;obtain⟨W4,Lg⟩:∃ W4,W4=w8.drew:=⟨_,rfl⟩;rw[← Lg]at g8' ⊢;have Nw:∀ t∈[x,y,z],t<2^64:=by
      intro t ht;simp at ht;rcases ht with rfl | rfl | rfl <;>omega
    refine(sV [x,y,z] Nw (by simp) _ rfl).mono fun ev w9 hh=>?_;obtain⟨B,nB,cB,rfl,oB,g9⟩:=hh;have Qe:nB=(bF [x,y,z]).length:=by have h':=oB.cases.1;unfold cy at h';rw[List.length_map]at h';omega
    have IB:=fI Nw;have gW9:=aA g8' g9;have oR9:=oR.kp (S:=fun _=>False) (Kp.of_none gW9) (fun _ _ e=>e);obtain⟨A5,n5,c5,w5,r5,o5,g5,_⟩:=aO oR9 oB.row Qe (bC oB) (by simp at IB;omega) (aA g gW9).size;have gW5:=aX (aA g gW9) g5 fun q hq=>(World.ownsRow.lt oR9 q hq).1;obtain⟨a',e1',e2',e3'⟩:=eE (hr.kept_none (gd gW5)) lp;have Ss:dR (-1) 0 l=(dn++[x,y,z])++dR l[p].1 l[p].2 (l.drop (p+1)):=by
      rw[hG,GI,qZ _ _ _ _ Gh,lu _ _ _ _ rfl,← GI,← hx,← hy,← hz,List.append_assoc];rfl
    have M8:eQ (-1) l=(k+1)+eQ l[p].1 (l.drop (p+1)):=by
      rw[hC,GI,eQ,if_neg Gh];omega
    refine⟨_,_,_,rfl,A5,n5,c5,w5,r5,by omega,a',e1',by omega,by omega,_,e2',by omega,by omega,_,?_,p+1,k+1,dn++[x,y,z],l[p].2,by omega,by omega,rfl,by omega,by omega,.inr ⟨by omega,by simpa using lp,by simp,by simp⟩,Ss,M8,by simp;omega,?_,gd gW5⟩
    · omega
    · rw[io];exact o5.kp (S:=fun _=>False) (Kp.of_none (aH (aC _ none))) (fun _ _ e=>e)
  · have Ig:p=l.length:=by omega
    subst Ig;rw[List.drop_length]at hG hC;simp only[dR,eQ,List.append_nil,Nat.add_zero]at hG hC;refine⟨by omega,(sV [k] (by simp;omega) (by simp) _ rfl).mono fun ev w4 hh=>?_⟩;obtain⟨B,nB,cB,rfl,oB,g4⟩:=hh;have Qe:nB=(bF [k]).length:=by have h':=oB.cases.1;unfold cy at h';rw[List.length_map]at h';omega
    have IB:=fI (l:=[k]) (by simp;omega);have oR4:=oR.kp (S:=fun _=>False) (Kp.of_none g4) (fun _ _ e=>e);obtain⟨A5,n5,c5,w5,r5,o5,g5,_⟩:=aO oB oR4.row Om (bC oR4) (by simp at IB;omega) g4.size;refine⟨_,_,_,rfl,A5,n5,c5,w5,r5,A5,n5,c5,rfl,?_,aX (aA g g4) g5 fun q hq=>Nat.le_trans g.size (World.ownsRow.lt oB q hq).1⟩;have:jt l=bF [k]++bF dn:=by
      unfold jt vF;rw[hG,hC,dN,dN,nJ,List.append_nil]
    rw[this];exact o5.mono g.size
theorem vm{w:World}{v:Nat}(hv:v<2^64):Calls P 158 #[.int .u64 (v:Int)] w fun ev w'=>ev=.returned (.int .i64 (blen v:Int))/\w'=w:=by
 apply vc158;dsimp only[VC158,Br,iq]
 try simp only[aG]
 have hb:=ku (v:=v) (k:=64) hv;refine⟨fun m u n W=>∃ x k:Nat,u=(x:Int)/\n=(k:Int)/\m=x/\blen v=k+blen x/\W=w,⟨_,v,0,rfl,rfl,rfl,by omega,rfl⟩,?_⟩;rintro m u n W ⟨x,k,rfl,rfl,rfl,hk,rfl⟩;refine⟨fun hp=>?_,fun hz=>?_⟩
 ·rw[u7 (v:=m) (by omega)]at hk;refine⟨by omega,by omega,m / 2,by omega,m / 2,k+1,by omega,by omega,rfl,by omega,rfl⟩
 ·have:m=0:=by omega
  subst this;rw[lr]at hk;exact⟨by rw[hk];rfl,rfl⟩
theorem yo{w:World}{base g v:Nat}{bits:List Bool}(h:zH w base g bits)(hv:0<v/\v<2^64)(hl:bits.length<=2^29)(Gl:base<=w.heap.size):
    Calls P 114 #[.pointer (some ⟨g,0,none⟩),.int .u64 (v:Int)] w fun ev w'=>ev=.returned (.tuple #[])/\zH w' base g (bits++dW v)/\Kp w w' (vg w base [178,4]):=by
  apply vc114;dsimp only[VC114,rt,Br,cI,cU,iq]
  try simp only[aG]
  have hb:=(gj v).2 hv.1;have GD:=ku (v:=v) (k:=64) hv.2;refine(vm hv.2).mono fun ev w1 hh=>?_;obtain⟨rfl,rfl⟩:=hh;have e:(blen v:Int)-1=((blen v-1:Nat):Int):=by omega
  refine⟨_,rfl,fun _=>⟨by omega,?_⟩,fun h=>absurd h (by omega)⟩;rw[e];refine(lF (v:=0) (n:=blen v-1) h (by omega) (by omega) (by omega) Gl).mono fun ev w2 hh=>?_;obtain⟨rfl,h2,k2⟩:=hh;rw[nw]at h2;refine⟨rfl,(lF (v:=(v:Int)) (n:=blen v) h2 (by omega) GD (by simp;omega) (Nat.le_trans Gl k2.size)).mono fun ev w3 hh=>?_⟩;obtain⟨rfl,h3,k3⟩:=hh;refine⟨rfl,by trivial,?_,k2.tysThen k3⟩;unfold dW;rw[← List.append_assoc];exact h3
structure zK(w X:World)(gL gE:Nat)(q e:aR)(bits:List Bool):Prop where
 wr:zH X w.heap.size w.heap.size bits
 last:X.heap[gL]?=some (.cells #[.int .i64 q.t,.int .u32 q.u,.int .u32 q.v,.bool q.add] 62 (0,0))
 cur:X.heap[gE]?=some (.cells #[.int .i64 e.t,.int .u32 e.u,.int .u32 e.v,.bool e.add] 62 (0,0))
 gr:w.grownBy X none
theorem AT:62 ∉ [178,4]:=by decide
theorem zK.kept{w X Y:World}{gL gE:Nat}{q e:aR}{bits:List Bool}(h:zK w X gL gE q e bits)(hg:X.grownBy Y none):zK w Y gL gE q e bits:=⟨h.wr.kept hg,aF h.last hg,aF h.cur hg,aA h.gr hg⟩
theorem zK.to{w X Y:World}{gL gE:Nat}{q e:aR}{bits bits':List Bool}(h:zK w X gL gE q e bits)(h2:zH Y w.heap.size w.heap.size bits')(K:Kp X Y (vg X w.heap.size [178,4])):zK w Y gL gE q e bits' :=
 ⟨h2,by rw[K.block gL (Array.getElem?_eq_some_iff.1 h.last).1 (pM h.last AT)];exact h.last,by rw[K.block gE (Array.getElem?_eq_some_iff.1 h.cur).1 (pM h.cur AT)];exact h.cur,((Kp.of_none (S:=fun k=>w.heap.size<=k) h.gr).then K (fun k _ h=>h.1)).grown (fun k hk e=>by omega)⟩
theorem zK.gam{w X:World}{gL gE v:Nat}{q e:aR}{bits:List Bool}(h:zK w X gL gE q e bits)(hv:0<v/\v<2^64)(hl:bits.length<=2^29):
    Calls P 114 #[.pointer (some ⟨w.heap.size,0,none⟩),.int .u64 (v:Int)] X fun ev Y=>ev=.returned (.tuple #[])/\zK w Y gL gE q e (bits++dW v) :=
  (yo h.wr hv hl h.gr.size).mono fun ev Y hh=>⟨hh.1,h.to hh.2.1 hh.2.2⟩
theorem zK.bit{w X:World}{gL gE:Nat}{q e:aR}{bits:List Bool}(h:zK w X gL gE q e bits)(b:Bool)(hl:bits.length<=2^29):
    Calls P 115 #[.pointer (some ⟨w.heap.size,0,none⟩),.int .u64 (fv b),.int .i64 1] X fun ev Y=>ev=.returned (.tuple #[])/\zK w Y gL gE q e (bits++[b]):=by
  have hb:=fO b;refine(lF (v:=fv b) (n:=1) h.wr (by omega) (by omega) (by omega) h.gr.size).mono fun ev Y hh=>⟨hh.1,?_⟩;have Iq:cN (fv b) 1=[b]:=by cases b <;>rfl
  rw[← Iq];exact h.to hh.2.1 hh.2.2
theorem yq {w:World} {A:OA} {n c:Nat} {l:List aR} {t0:Int} (hr:aY w A (bB l)) (hn:n=l.length) (hl:n<=2^19) (hD:eg t0 none l) :
    Calls P 78 #[.int .i64 t0,.slice A n c] w fun ev w'=>∃(A':OA)(n' c':Nat),ev=.returned (.tuple #[.slice A' n' c',.int .i64 0])/\aE w' w.heap.size 5 1 A' n' c' (cy (eP t0 l))/\w.grownBy w' none:=by
  apply vc78;dsimp only[VC78,rt,Wt,Br,Bb,Rd,Ix,Ws,cB,cS,cU,nb,ad,al,iq]
  try simp only[aG]
  have Gi:=jL (fun q hq=>by cases hq) hD;have hb:=hD.evtsB;obtain⟨w1,Gf,g1,b1⟩:=eT w #[.slice none 0 0] 178;rw[← Gf];have s0:=heap_alloc_new w1 (.cells #[.int .i64 0,.int .u32 0,.int .u32 0,.bool false] 62);have s1:=aI s0 0 (.int .i64 t0);have s2:=aI s1 1 (.int .u32 0);have s3:=aI s2 2 (.int .u32 0);have s4:=aI s3 3 (.bool false);have g2:w1.grownBy (((((w1.alloc (.cells #[.int .i64 0,.int .u32 0,.int .u32 0,.bool false] 62)).setCell ⟨w1.heap.size,0,none⟩ (.int .i64 t0)).setCell ⟨w1.heap.size,1,none⟩ (.int .u32 0)).setCell ⟨w1.heap.size,2,none⟩ (.int .u32 0)).setCell ⟨w1.heap.size,3,none⟩ (.bool false)) none:=(bL (bL (bL (bL (Kp.of_none (S:=fun k=>w1.heap.size<=k) (gP (aC w1 none) _)) (Nat.le_refl _)) (Nat.le_refl _)) (Nat.le_refl _)) (Nat.le_refl _)).grown (fun k hk e=>by omega);refine⟨⟨_,aB s0 0⟩,aD s0 0,⟨_,aB s1 1⟩,aD s1 1,⟨_,aB s2 2⟩,aD s2 2,⟨_,aB s3 3⟩,aD s3 3,?_⟩;obtain⟨w2,IC⟩:∃ w2,w2=((((w1.alloc (.cells #[.int .i64 0,.int .u32 0,.int .u32 0,.bool false] 62)).setCell ⟨w1.heap.size,0,none⟩ (.int .i64 t0)).setCell ⟨w1.heap.size,1,none⟩ (.int .u32 0)).setCell ⟨w1.heap.size,2,none⟩ (.int .u32 0)).setCell ⟨w1.heap.size,3,none⟩ (.bool false):=⟨_,rfl⟩;have b2:w2.heap[w1.heap.size]?=some (.cells #[.int .i64 t0,.int .u32 0,.int .u32 0,.bool false] 62 (0,0)):=by rw[IC];simpa using s4
  rw[← IC]at g2 ⊢;have R2:zH w2 w.heap.size w.heap.size []:=⟨none,0,0,aF b1 g2,Nat.le_refl _,aE.nil _ _ _ _⟩;refine⟨fun m i W=>∃ p:Nat,i=(p:Int)/\p<=l.length/\m=l.length-p/\w.grownBy W none/\zH W w.heap.size w.heap.size (dV t0 none (l.take p))/\W.heap[w1.heap.size]?=some (.cells #[.int .i64 (bU t0 (ej (l.take p) none)).t,.int .u32 (bU t0 (ej (l.take p) none)).u,.int .u32 (bU t0 (ej (l.take p) none)).v,.bool (bU t0 (ej (l.take p) none)).add] 62 (0,0)),
    ⟨_,0,rfl,by omega,rfl,aA g1 g2,by simpa[dV]using R2,by simpa[ej,bU]using b2⟩,?_⟩
  rintro m i w4 ⟨p,rfl,hp,rfl,hg,hW,hL⟩;have tp:(p:Int).toNat=p:=by omega
  rw[tp];refine⟨fun Ge=>?_,fun Gj=>?_⟩
  · have lp:p<l.length:=by omega
    have Og:l=l.take p++(l[p] ::l.drop (p+1)):=by rw[← List.drop_eq_getElem_cons lp,List.take_append_drop]
    have LV:=hD;rw[Og,eg.append]at LV;obtain⟨Sv,Ll,_⟩:=LV;have OT:=jL (fun q hq=>by cases hq) Sv;have JR:(l.take p).length<=2^19:=by rw[List.length_take];omega
    have Hg:∀ q,ej (l.take p) none=some q->q∈l:=by
      intro q hq;cases p with
      | zero=>simp[ej]at hq
      | succ p =>
        rw[List.take_succ_eq_append_getElem (show p<l.length by omega),gm]at hq;cases hq;exact List.getElem_mem _
    have J5:p≠0->(ej (l.take p) none).isSome=true:=by
      intro h0;cases p with
      | zero=>omega
      | succ p=>rw[List.take_succ_eq_append_getElem (show p<l.length by omega),gm];rfl
    have Hx:p=0->(ej (l.take p) none).isSome=false:=by rintro rfl;simp[ej]
    have hd:kC t0 none l=true:=(k8 hb).2 hD;have Li:ju (ej (l.take p) none):=by
      intro q hq;have h1:=hb.mem (Hg q hq);have h2:=(jW.1 hd).1 _ (Hg _ hq);omega
    have GZ:∀ q,ej (l.take p) none=some q->q.u<=4294967295/\q.v<=4294967295:=fun q hq=>by have:=hb.mem (Hg q hq);omega
    obtain⟨e,he⟩:∃ e,e=l[p]:=⟨_,rfl⟩;rw[← he]at Ll;have I2:l.take (p+1)=l.take p++[e]:=by rw[List.take_succ_eq_append_getElem lp,he]
    obtain⟨a,e1,e2,e3,e4,e5⟩:=dz (hr.kept_none hg) lp;rw[← he]at e2 e3 e4 e5;generalize Ve:ej (l.take p) none=pv at *;have G6:=Ll.nums Li;have Pc:=xF Li Ll;have Jz:ju pv->(pv.isSome=true->bP (bU t0 pv) e=true)/\(pv.isSome=false->e.t=t0):=fun _=>by
      have h3:=Ll.2.2;cases pv with
      | none=>exact⟨fun h=>(by cases h),fun _=>h3⟩
      | some q=>exact⟨fun _=>h3,fun h=>by cases h⟩
    obtain⟨Jz,IF⟩:=Jz Li;obtain⟨h1,h2,h3⟩:=Ll;have hq:0<=(bU t0 pv).t/\0<=(bU t0 pv).u/\(bU t0 pv).u<=4294967295/\0<=(bU t0 pv).v/\(bU t0 pv).v<=4294967295/\(bU t0 pv).t<=e.t/\(pv.isSome=true->e.t=(bU t0 pv).t->(bU t0 pv).u<e.u∨(bU t0 pv).u=e.u/\(bU t0 pv).v<e.v):=by
      cases pv with
      | none=>simp only at h3;simp[bU];omega
      | some q =>
        have a1:=Li q rfl;have a2:=GZ q rfl;simp only[eo]at h3;simp only[bU,Option.getD_some];refine⟨by omega,by omega,by omega,by omega,by omega,by omega,fun _ _=>by omega⟩
    have hG:=po t0 pv e;have hF:=pp t0 pv e;have hS:=pk t0 pv e;generalize Va:bU t0 pv=q at *;generalize Jj:pv.isSome=any at *;obtain⟨bits,GN⟩:∃ bits,bits=dV t0 none (l.take p):=⟨_,rfl⟩;obtain⟨gap,Pb⟩:∃ x,x=gQ t0 pv e:=⟨_,rfl⟩;obtain⟨fst,Ki⟩:∃ x,x=jx pv e:=⟨_,rfl⟩;obtain⟨snd,J6⟩:∃ x,x=jk pv e:=⟨_,rfl⟩;have MD:xG t0 pv e=dW gap++(e.add ::(dW fst++dW snd)):=by unfold xG;rw[Pb,Ki,J6]
    rw[← Pb]at hG G6;rw[← Ki]at hF G6;rw[← J6]at hS G6;rw[MD]at Pc;simp only[List.length_append,List.length_cons]at Pc;rw[← GN]at OT hW;have RF:0<gap:=by rw[hG];omega
    obtain⟨w5,hE,pE0,qE0,pE1,qE1,pE2,qE2,pE3,qE3,bE,gE⟩:=sc w4 62 (.int .i64 0) (.int .u32 0) (.int .u32 0) (.bool false) (.int .i64 e.t) (.int .u32 e.u) (.int .u32 e.v) (.bool e.add);refine⟨a,e1,by omega,by omega,_,e2,_,e3,_,e4,_,e5,pE0,qE0,pE1,qE1,pE2,qE2,pE3,qE3,?_⟩;rw[← hE];have D0:zK w w5 w1.heap.size w4.heap.size q e bits:=⟨hW.kept gE,aF hL gE,bE,aA hg gE⟩;refine⟨fun X=>w5.grownBy X none,⟨_,aB D0.cur 0,fun h=>by omega,fun _=>⟨_,aB D0.cur 0,fun h=>by omega,fun _=>⟨_,aB D0.cur 1,_,aB D0.cur 2,fun h=>by omega,fun _=>⟨fun h0=>?_,fun h0=>⟨fun Gm=>?_,fun h=>by omega⟩⟩⟩⟩⟩,?_⟩
    · have:=IF (Hx (by omega));exact⟨_,aB D0.cur 0,fun h=>absurd this h,fun _=>⟨fun h=>by omega,fun _=>aC _ _⟩⟩
    · refine⟨_,aB D0.last 0,_,aB D0.last 1,_,aB D0.last 2,_,aB D0.last 3,_,aB D0.cur 0,_,aB D0.cur 1,_,aB D0.cur 2,_,aB D0.cur 3,(mu q e).mono fun ev w6 hh=>?_⟩;obtain⟨rfl,g6⟩:=hh;rw[Jz (J5 (by omega))];exact⟨_,rfl,fun h=>(by cases h),fun _=>g6⟩
    intro w6 g6;have D6:=D0.kept g6;have kgap:e.t-q.t+1=(gap:Int):=by rw[hG];omega
    refine⟨_,aB D6.cur 0,_,aB D6.last 0,by omega,by omega,by omega,?_⟩;rw[kgap];refine(D6.gam ⟨RF,by omega⟩ (by omega)).mono fun ev w7 hh=>?_;obtain⟨rfl,D7⟩:=hh;refine⟨rfl,fun s w'=>s=fv e.add/\w'=w7,⟨_,aB D7.cur 3,fun ha=>⟨by rw[ha];rfl,rfl⟩,fun ha=>⟨by rw[ha];rfl,rfl⟩⟩,?_⟩;rintro s w7' ⟨rfl,rfl⟩;refine(D7.bit e.add (by simp;omega)).mono fun ev w8 hh=>?_;obtain⟨rfl,D8⟩:=hh;have D9:=D8.kept (aH (aC w8 none));obtain⟨w9,Mc⟩:∃ w9,w9=w8.drew:=⟨_,rfl⟩;rw[← Mc]at D9 ⊢;have l9:(bits++dW gap++[e.add]).length+(dW fst).length<=2^29:=by simp;omega
    have two:∀ {u v:Int},u=(fst:Int)->v=(snd:Int)->∀ {X:World} {R:World->Prop},zK w X w1.heap.size w4.heap.size q e (bits++dW gap++[e.add]++dW fst)->(∀ Y,zK w Y w1.heap.size w4.heap.size q e (bits++dW gap++[e.add]++dW fst++dW snd)->R Y)->Calls P 114 #[.pointer (some ⟨w.heap.size,0,none⟩),.int .u64 v] X fun ev Y=>ev=.returned (.tuple #[])/\R Y:=by
      rintro u v rfl rfl X R hX hR;exact(hX.gam ⟨G6.2.2.1,by omega⟩ (by rw[List.length_append];exact l9)).mono fun ev Y hh=>⟨hh.1,hR Y hh.2⟩
    have one:∀ {u:Int},u=(fst:Int)->∀ {R:World->Prop},(∀ Y,zK w Y w1.heap.size w4.heap.size q e (bits++dW gap++[e.add]++dW fst)->R Y)->Calls P 114 #[.pointer (some ⟨w.heap.size,0,none⟩),.int .u64 u] w9 fun ev Y=>ev=.returned (.tuple #[])/\R Y:=by
      rintro u rfl R hR;exact(D9.gam ⟨G6.2.1.1,by omega⟩ (by omega)).mono fun ev Y hh=>⟨hh.1,hR Y hh.2⟩
    refine⟨rfl,_,aB D9.cur 1,by omega,_,aB D9.cur 2,by omega,fun Y=>zK w Y w1.heap.size w4.heap.size q e (bits++dW gap++[e.add]++dW fst++dW snd),⟨fun h0=>?_,fun h0=>⟨_,aB D9.cur 0,_,aB D9.last 0,fun Gh=>?_,fun Hu=>⟨_,aB D9.cur 1,_,aB D9.last 1,fun hs=>?_,fun hs=>?_⟩⟩⟩,?_⟩
    · have Ih:=Hx (by omega);rw[Ih]at hF hS;simp only[Bool.false_eq_true,false_and,if_false]at hF hS;exact⟨by omega,one (by omega) fun Y D=>⟨by omega,two (u:=fst) rfl (by omega) D fun Z D=>D⟩⟩
    · rw[if_neg (fun h=>Gh h.2)]at hF hS;exact⟨by omega,one (by omega) fun Y D=>⟨by omega,two (u:=fst) rfl (by omega) D fun Z D=>D⟩⟩
    · have Hu:e.t=q.t:=by omega
      have HG:=J5 (by omega);have ho:=hq.2.2.2.2.2.2 HG Hu;rw[if_pos ⟨HG,Hu⟩]at hF hS;rw[if_pos hs]at hS;exact one (by omega) fun Y D=>⟨_,aB D.last 2,by omega,by omega,two (u:=fst) rfl (by omega) D fun Z D=>D⟩
    · have Hu:e.t=q.t:=by omega
      have HG:=J5 (by omega);have ho:=hq.2.2.2.2.2.2 HG Hu;rw[if_pos ⟨HG,Hu⟩]at hF hS;rw[if_neg hs]at hS;exact⟨_,aB D9.last 1,by omega,by omega,by omega,one (by omega) fun Y D=>⟨by omega,two (u:=fst) rfl (by omega) D fun Z D=>D⟩⟩
    intro X D;have t1:=aI D.last 0 (.int .i64 e.t);have t2:=aI t1 1 (.int .u32 e.u);have t3:=aI t2 2 (.int .u32 e.v);have t4:=aI t3 3 (.bool e.add);have K:Kp X ((((X.setCell ⟨w1.heap.size,0,none⟩ (.int .i64 e.t)).setCell ⟨w1.heap.size,1,none⟩ (.int .u32 e.u)).setCell ⟨w1.heap.size,2,none⟩ (.int .u32 e.v)).setCell ⟨w1.heap.size,3,none⟩ (.bool e.add)) (fun k=>k=w1.heap.size):=bL (bL (bL (bL (Kp.refl X _) rfl) rfl) rfl) rfl;refine⟨_,aB D.cur 0,_,aB D.cur 1,_,aB D.cur 2,_,aB D.cur 3,⟨_,aB D.last 0⟩,aD D.last 0,⟨_,aB t1 1⟩,aD t1 1,⟨_,aB t2 2⟩,aD t2 2,⟨_,aB t3 3⟩,aD t3 3,by omega,_,?_,p+1,by omega,by omega,rfl,?_,?_,?_⟩
    · omega
    · have hz:=g1.size;exact((Kp.of_none (S:=fun k=>w.heap.size<=k) D.gr).then K (fun k _ h=>by omega)).grown (fun k hk e=>by omega)
    · rw[I2,mi,Ve];have:dV t0 pv [e]=xG t0 pv e:=by simp[dV]
      rw[this,MD,← GN];have:bits++(dW gap++(e.add ::(dW fst++dW snd)))=bits++dW gap++[e.add]++dW fst++dW snd:=by simp[List.append_assoc]
      rw[this];refine D.wr.kp K (fun k hk ht e=>?_);subst e;exact pM D.last AT ht
    · rw[I2,gm];simp only[bU,Option.getD_some];simpa using t4
  · have:p=l.length:=by omega
    subst this;rw[List.take_length]at hW;refine(pI hW (by omega) hg.size).mono fun ev w5 hh=>?_;obtain⟨A',n',c',rfl,o,g⟩:=hh;exact⟨_,_,_,rfl,_,_,_,rfl,o.mono hg.size,aA hg g⟩
theorem yB{W:World}{bs n c:Nat}{A:OA}{l:List Edge}(h:aE W bs 45 2 A n c (edges l)):n=l.length/\n<=c/\(A=none->c=0):=by
 have h':=h.cases.1;rw[dp]at h';refine⟨by omega,?_,bC h⟩;rcases h.cases.2 with⟨_,h1,h2,_⟩ | ⟨_,_,_,_,_,h1,_⟩ <;>omega
theorem AQ{key:List Edge}{l:List aR}{e:aR}:fi key (l++[e])=(fi key l && (cA (dt l key) e).isSome):=by
 rw[mh];congr 1;unfold fi;cases cA (dt l key) e <;>simp[fi]
theorem AP{key:List Edge}{l:List aR}(p:Nat)(h:fi key (l.take p)=false):fi key l=false:=by
 have:=mh (l:=l.take p) (m:=l.drop p) (now:=key);rw[List.take_append_drop,h]at this;simpa using this
def CY(key:List Edge)(l:List aR):Int:=if fi key l=true then 0 else 25
def CX(t0:Int)(key:List Edge)(l:List aR):List Int:=if fi key l=true then fy t0 key l else []
theorem Aa{w:World}{A B:OA}{n c m d:Nat}{key:List Edge}{l:List aR}{t0:Int}(hA:aY w A (edges key))(hn:n=key.length)(LC:n<=c)(Xn:A=none->c=0)(hB:aY w B (bB l))(hm:m=l.length)(I4:n<=2^14)(Qg:m<=2^12)
    (hk:oe key) (hD:eg t0 none l) (Gh:l≠[]) :
    Calls P 41 #[.slice A n c,.slice B m d] w fun ev w'=>∃(A':OA)(n' c':Nat),ev=.returned (.tuple #[.slice A' n' c',.int .i64 (CY key l)])/\aE w' w.heap.size 5 1 A' n' c' (cy (CX t0 key l))/\w.grownBy w' none:=by
  apply vc41;dsimp only[VC41,rt,Br,Rd,Ix,Ap,cS,cT,nb,ad,al,iq]
  try simp only[aG]
  refine(Ab hA hn (by omega) hk).mono fun ev w1 hh=>?_;obtain⟨A1,n1,c1,rfl,o1,g1⟩:=hh;have Gm:0<l.length:=List.length_pos_iff.2 Gh;have Ng:=hD.t0 Gh;have JN:∃ b,B=some b:=by obtain⟨b,e,_⟩:=dz hB Gm;exact⟨b,e⟩
  obtain⟨b,hb⟩:=JN;have IF:=xC (hb▸hB) Gh g1;rw[Ng]at IF;refine⟨_,_,_,_,rfl,fun h=>absurd rfl h,fun _=>⟨fun h=>by omega,fun _=>⟨b,hb,by omega,by omega,t0,IF,(yq (hB.kept_none g1) hm (by omega) hD).mono fun ev w2 hh=>?_⟩⟩⟩;obtain⟨A2,n2,c2,rfl,o2,g2⟩:=hh;have GP:=aA g1 g2;have WF:=nz hk.edgesB hk.len;have LO:=(iV hD).1;have IR:n1=(jt key).length:=by have h':=o1.cases.1;unfold cy at h';rw[List.length_map]at h';omega
  have Ir:n2=(eP t0 l).length:=by have h':=o2.cases.1;unfold cy at h';rw[List.length_map]at h';omega
  refine⟨_,_,_,_,rfl,fun h=>absurd rfl h,fun _=>⟨fun q nA nn nc i W=>∃ p:Nat,i=(p:Int)/\p<=l.length/\q=l.length-p/\fi key (l.take p)=true/\aY W nA (edges (dt (l.take p) key))/\nn=(dt (l.take p) key).length/\nn<=nc/\(nA=none->nc=0)/\w.grownBy W none/\w2.grownBy W none,⟨_,0,rfl,by omega,rfl,by simp[fi],by simpa[dt]using hA.kept_none GP,by simpa[dt]using hn,LC,Xn,GP,aC _ _⟩,?_⟩⟩;rintro q nA nn nc i W ⟨p,rfl,hp,rfl,H0,GM,IE,Q8,Vu,gW,g2W⟩;have tp:(p:Int).toNat=p:=by omega
  rw[tp];have LN:=fN (l.take p) key;rw[List.length_take]at LN;refine⟨fun Ge=>?_,fun Gj=>?_⟩
  · have lp:p<l.length:=by omega
    obtain⟨a,e1,e2,e3,e4,e5⟩:=dz (hB.kept_none gW) lp;have I2:l.take (p+1)=l.take p++[l[p]]:=List.take_succ_eq_append_getElem lp;have HJ:=AQ (key:=key) (l:=l.take p) (e:=l[p]);rw[← I2,H0,Bool.true_and]at HJ;refine⟨a,e1,by omega,by omega,_,e2,_,e3,_,e4,_,e5,(jN (e:=l[p]) GM IE Q8 Vu (by omega)).mono fun ev w4 hh=>?_⟩;obtain⟨A4,n4,c4,rfl,o4,g4⟩:=hh;refine⟨_,_,_,_,rfl,fun Ih=>?_,fun QC=>⟨by omega,_,?_,p+1,by omega,by omega,rfl,?_,?_,?_,?_,bC o4,aA gW g4,aA g2W g4⟩⟩
    · rw[Ih]at HJ;have:=AP _ HJ;refine⟨none,0,0,?_,?_,aA gW g4⟩
      · unfold CY;rw[if_neg (by rw[this];simp)]
      · unfold CX;rw[if_neg (by rw[this];simp)];exact aE.nil _ _ _ _
    · omega
    · rw[HJ];exact eq_true_of_ne_false QC
    · rw[I2,md];exact o4.row
    · have h':=o4.cases.1;rw[dp]at h';rw[I2,md];omega
    · rcases o4.cases.2 with⟨_,h1,h2,_⟩ | ⟨_,_,_,_,_,h1,_⟩ <;>omega
  · have Ig:p=l.length:=by omega
    subst Ig;rw[List.take_length]at H0;have Su:CY key l=0:=by unfold CY;rw[if_pos H0]
    have Sd:CX t0 key l=fy t0 key l:=by unfold CX;rw[if_pos H0]
    rw[Su,Sd];have o1W:=o1.kp (S:=fun _=>False) (Kp.of_none (aA g2 g2W)) (fun _ _ e=>e);refine(rx o1W.row IR (d8 _) (by omega)).mono fun ev w5 hh=>?_;obtain⟨A5,n5,c5,rfl,o5,g5⟩:=hh;have HR:n5=(dj (jt key)).length:=by have h':=o5.cases.1;unfold cy at h';rw[List.length_map]at h';omega
    have Mu:=gK (d8 key) (by omega);refine⟨_,_,_,rfl,by omega,(sV [n5] (by simp;omega) (by simp) _ rfl).mono fun ev w6 hh=>?_⟩;obtain⟨A6,n6,c6,rfl,o6,g6⟩:=hh;have J0:=o5.kp (S:=fun _=>False) (Kp.of_none g6) (fun _ _ e=>e);have J8:=fI (l:=[n5]) (by simp;omega);simp only[List.length_cons,List.length_nil]at J8;have Js:n6=(bF [n5]).length:=by have h':=o6.cases.1;unfold cy at h';rw[List.length_map]at h';omega
    obtain⟨A7,n7,c7,w7,r7,o7,g7,e7⟩:=aO o6 J0.row HR (bC J0) (by omega) g6.size;have SD:=aX g6 g7 fun q hq=>(World.ownsRow.lt o6 q hq).1;have o2W:=o2.kp (S:=fun _=>False) (Kp.of_none (aA g2W (aA g5 SD))) (fun _ _ e=>e);refine⟨_,_,_,rfl,A7,n7,c7,w7,r7,(rx o2W.row Ir (dv _ _) (by omega)).mono fun ev w8 hh=>?_⟩;obtain⟨A8,n8,c8,rfl,o8,g8⟩:=hh;have Jr:n8=(dj (eP t0 l)).length:=by have h':=o8.cases.1;unfold cy at h';rw[List.length_map]at h';omega
    have Yl:=gK (dv t0 l) (by omega);have Lq:=o7.kp (S:=fun _=>False) (Kp.of_none g8) (fun _ _ e=>e);have Tu:=aA SD g8;obtain⟨A9,n9,c9,w9,r9,o9,g9,_⟩:=aO Lq o8.row Jr (bC o8) (by omega) Tu.size;have Xx:=aX Tu g9 fun q hq=>(World.ownsRow.lt Lq q hq).1;have Lb:fy t0 key l=bF [n5]++dj (jt key)++dj (eP t0 l):=by
      unfold fy;rw[dN,nJ,List.append_nil,HR,List.append_assoc]
    refine⟨_,_,_,rfl,A9,n9,c9,w9,r9,A9,n9,c9,rfl,?_,aA gW (aA g5 Xx)⟩;rw[Lb];exact o9.mono (aA gW g5).size
end Go.Proofs.YtlieaecnllkefaaGreat
