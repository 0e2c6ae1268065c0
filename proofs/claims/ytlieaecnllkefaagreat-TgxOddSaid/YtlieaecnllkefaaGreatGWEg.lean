/- Own texts, packed: W18, W19, W20. -/
import Derived.Test.YtlieaecnllkefaaGreatGWDg
import Derived.Test.YtlieaecnllkefaaGreatGWYg
set_option linter.unusedVariables false
set_option linter.unusedSimpArgs false
set_option maxHeartbeats 8000000
set_option maxRecDepth 100000
namespace Go.Proofs.YtlieaecnllkefaaGreat
open Go Go.V Go.RowKit
theorem s8{W:World}(l:List Nat)(hb:∀ x∈l,x<2^64)(hl:l.length<=8)(vs:Array Value)(hv:vs=(pN l).toArray):
    Calls P 80 #[.slice (some ⟨W.heap.size,0,none⟩) l.length l.length] (W.alloc (.cells vs 22)) fun ev w'=>∃(A':OA)(n' c':Nat),ev=.returned (.slice A' n' c')/\aE w' W.heap.size 5 1 A' n' c' (bY (bC l))/\W.grownBy w' none:=by
  subst hv;have gA:=World.grownBy_alloc W (.cells (pN l).toArray 22) none;have rA:=iB W (pN l).toArray 22;refine(kq (n:=l.length) (by simpa using rA) rfl hb (by omega)).mono fun ev w1 hh=>?_;obtain⟨A',n',c',rfl,o,g⟩:=hh;exact⟨_,_,_,rfl,o.mono gA.size,aA gA g⟩
theorem z5 {w:World} {A:OA} {n c:Nat} {l:List Edge} (hr:aZ w A (edges l)) (hn:n=l.length) (hl:n<=2^18) (h:nG l) :
    Calls P 77 #[.slice A n c] w fun ev w'=>∃(A':OA)(n' c':Nat),ev=.returned (.tuple #[.slice A' n' c',.int .i64 0])/\aE w' w.heap.size 5 1 A' n' c' (bY (js l))/\w.grownBy w' none:=by
  apply vc77;dsimp only[VC77,rt,Br,Rd,Ix,Ap,cB,cS,nb,ad,al,iq]
  try simp only[aG]
  have hE:=h.edgesB;have FP:=xO (-1) 0 l (by omega) (by omega) hE h.len;refine⟨fun m rA rn rc us u i W=>∃(p k:Nat)(dn:List Nat)(v:Int),i=(p:Int)/\p<=l.length/\m=l.length-p/\us=(k:Int)/\k<=p/\(p=0/\u=-1/\v=0∨0<p/\∃ h:p-1<l.length,u=l[p-1].1/\v=l[p-1].2)/\dL (-1) 0 l=dn++dL u v (l.drop p)/\eR (-1) l=k+eR u (l.drop p)/\dn.length<=3*p/\aE W w.heap.size 5 1 rA rn rc (bY (bC dn))/\w.grownBy W none,
    ⟨_,0,0,[],0,rfl,by omega,rfl,rfl,by omega,.inl ⟨rfl,rfl,rfl⟩,by simp,by simp,by simp,aE.nil _ _ _ _,aC _ _⟩,?_⟩
  rintro m rA rn rc us u i W ⟨p,k,dn,v,rfl,hp,rfl,rfl,hk,hu,hG,hC,LA,oR,g⟩;have tp:(p:Int).toNat=p:=by omega
  rw[tp];have PR:∀ x∈dn,x<2^64:=fun x hx=>by
    have:=FP x (by rw[hG];exact List.mem_append.2 (.inl hx));omega
  have JP:=fN PR;have NN:rn=(bC dn).length:=by have h':=oR.cases.1;unfold bY at h';rw[List.length_map]at h';omega
  refine⟨fun IV=>?_,fun FU=>?_⟩
  · have lp:p<l.length:=by omega
    have re:=h.right _ (List.getElem_mem lp);have Gp:=List.drop_eq_getElem_cons lp;have gd:∀ {X Y:World},X.grownBy Y none->X.grownBy Y.drew none:=fun h=>aA h (aI (aC _ none));have at0:∀ {X:World},W.grownBy X none->∃ a,A=some a/\X.cell? (a.add (p*2))=some (.int .u32 l[p].1)/\X.cell? ((a.add (p*2)).add 1)=some (.int .u32 l[p].2):=fun hX=>eT (hr.kept_none (aA g hX)) lp;have at1:0<p->∃ h1:p-1<l.length,∀ {X:World},W.grownBy X none->∃ a,A=some a/\X.cell? (a.add ((((p:Int)-1).toNat)*2))=some (.int .u32 l[p-1].1)/\X.cell? ((a.add ((((p:Int)-1).toNat)*2)).add 1)=some (.int .u32 l[p-1].2):=fun FX=>⟨by omega,fun hX=>by
      have e:((p:Int)-1).toNat=p-1:=by omega
      rw[e];exact eT (hr.kept_none (aA g hX)) (by omega)⟩
    have JY:∀(FX:0<p),aM (l[p-1]'(by omega)) l[p]=true:=fun FX=>List.pairwise_iff_getElem.1 h.rise (p-1) p _ _ (by omega);refine⟨fun X=>W.grownBy X none,?_,fun w3 g3=>?_⟩
    · obtain⟨a,e1,e2,e3⟩:=at0 (gd (aC W none));refine⟨a,e1,by omega,by omega,_,e2,a,e1,by omega,by omega,_,e3,fun Iq=>by omega,fun _=>⟨fun FX=>?_,fun _=>gd (aC W none)⟩⟩;obtain⟨h1,at1⟩:=at1 (by omega);obtain⟨b,b1,b2,b3⟩:=at1 (gd (aC W none));refine⟨by omega,b,b1,by omega,by omega,_,b2,_,b3,a,e1,by omega,by omega,_,e2,_,e3,(md l[p-1] l[p]).mono fun ev w2 hh=>?_⟩;obtain⟨rfl,g2⟩:=hh;rw[JY (by omega)];exact⟨_,rfl,fun h=>(by cases h),fun _=>aA (gd (aC W none)) g2⟩
    refine⟨fun A' n' c' X=>A'=rA/\n'=rn/\c'=rc/\W.grownBy X none/\l[p].1≠u,⟨fun FX=>?_,fun hz=>⟨rfl,rfl,rfl,gd g3,by omega⟩⟩,?_⟩
    · obtain⟨h1,at1⟩:=at1 (by omega);obtain⟨a,e1,e2,e3⟩:=at0 (gd g3);obtain⟨b,b1,b2,b3⟩:=at1 (gd g3);obtain⟨WZ,Kn⟩:u=l[p-1].1/\v=l[p-1].2:=by
        rcases hu with h | ⟨_,_,h⟩
        · omega
        · exact h
      refine⟨by omega,b,b1,by omega,by omega,_,b2,a,e1,by omega,by omega,_,e2,fun Gm=>?_,fun SY=>⟨rfl,rfl,rfl,gd g3,by omega⟩⟩;have IY:=dI.1 (JY (by omega));have re1:=h.right _ (List.getElem_mem h1);obtain⟨a',e1',e2',e3'⟩:=at0 (gd (gd g3));obtain⟨b',b1',b2',b3'⟩:=at1 (gd (gd g3));obtain⟨x,hx⟩:∃ x:Nat,x=(l[p].2-v-1).toNat:=⟨_,rfl⟩;have Ky:l[p].2-l[p-1].2-1=(x:Int):=by omega
      refine⟨a',e1',by omega,by omega,_,e3',by omega,b',b1',by omega,by omega,_,b3',by omega,by omega,by omega,?_⟩;rw[Ky];have gW2:=gd (gd g3);obtain⟨W2,KT⟩:∃ W2,W2=w3.drew.drew:=⟨_,rfl⟩;rw[← KT]at gW2 ⊢;have T5:x<2^32:=by omega
      refine(s8 [x] (by simp;omega) (by simp) _ rfl).mono fun ev w4 hh=>?_;obtain⟨B,nB,cB,rfl,oB,g4⟩:=hh;have PN:nB=(bC [x]).length:=by have h':=oB.cases.1;unfold bY at h';rw[List.length_map]at h';omega
      have Ie:=fN (l:=[x]) (by simp;omega);have gW4:=aA gW2 g4;have oR4:=oR.kp (S:=fun _=>False) (Kp.of_none gW4) (fun _ _ e=>e);obtain⟨A5,n5,c5,w5,r5,o5,g5,_⟩:=aO oR4 oB.row PN (bI oB) (by simp at Ie;omega) (aA g gW4).size;have RZ:dL (-1) 0 l=(dn++[x])++dL u l[p].2 (l.drop (p+1)):=by
        rw[hG,Gp,lE _ _ _ _ (by omega),← hx,List.append_assoc];rfl
      have MK:eR (-1) l=k+eR u (l.drop (p+1)):=by
        rw[hC,Gp,eR,if_pos (by omega)]
      refine⟨_,_,_,rfl,A5,n5,c5,w5,r5,by omega,_,?_,p+1,k,dn++[x],l[p].2,by omega,by omega,rfl,rfl,by omega,.inr ⟨by omega,by simpa using lp,by simp;omega,by simp⟩,RZ,MK,by simp;omega,by rw[iD];exact o5,aY (aA g gW4) g5 fun q hq=>(World.ownsRow.lt oR4 q hq).1⟩;omega
    rintro A' n' c' w6 ⟨rfl,rfl,rfl,g6,FS⟩;refine⟨fun n1 X=>n1=(iz l[p].1 (l.drop p):Int)/\W.grownBy X none,⟨fun m2 q X=>∃ q':Nat,q=(q':Int)/\p+q'<=l.length/\m2=l.length-q'/\iz l[p].1 (l.drop p)=q'+iz l[p].1 (l.drop (p+q'))/\W.grownBy X none,⟨_,0,rfl,by omega,rfl,by simp,g6⟩,?_⟩,?_⟩
    · rintro m2 q w7 ⟨q',rfl,hq,rfl,GL,g7⟩;refine⟨by omega,fun GI=>?_,fun Ju=>⟨?_,gd g7⟩⟩
      · have lq:p+q'<l.length:=by omega
        obtain⟨a,e1,e2,e3⟩:=eT (hr.kept_none (aA g (gd g7))) lq;obtain⟨b,b1,b2,b3⟩:=at0 (gd g7);have e:((p:Int)+(q':Int)).toNat=p+q':=by omega
        have Tc:=List.drop_eq_getElem_cons lq;rw[e];refine⟨by omega,a,e1,by omega,by omega,_,e2,b,b1,by omega,by omega,_,b2,fun hs=>⟨by omega,_,?_,q'+1,by omega,by omega,rfl,?_,gd g7⟩,fun hd=>⟨?_,gd g7⟩⟩
        · omega
        · rw[Tc,fm,if_pos hs]at GL;rw[GL,show p+(q'+1)=p+q'+1 by omega];omega
        · rw[Tc,fm,if_neg hd]at GL;omega
      · have:p+q'=l.length:=by omega
        rw[this,List.drop_length]at GL;simp[iz]at GL ⊢;omega
    rintro n1 w8 ⟨rfl,g8⟩;have Hs:=wP l[p].1 (l.drop p);rw[List.length_drop]at Hs;obtain⟨a,e1,e2,e3⟩:=at0 (gd g8);have Uh:-1<=u/\u<l[p].1:=by
      rcases hu with⟨h0,h1,_⟩ | ⟨h0,h1,h2,_⟩
      · omega
      · have:=dI.1 (JY h0);have:=h.right _ (List.getElem_mem h1);omega
    obtain⟨x,hx⟩:∃ x:Nat,x=(l[p].1-u-1).toNat:=⟨_,rfl⟩;obtain⟨y,hy⟩:∃ y:Nat,y=iz l[p].1 (l.drop p):=⟨_,rfl⟩;obtain⟨z,hz⟩:∃ z:Nat,z=(l[p].2-l[p].1-1).toNat:=⟨_,rfl⟩;have Ky:l[p].1-u-1=(x:Int):=by omega
    have TU:l[p].2-l[p].1-1=(z:Int):=by omega
    rw[← hy]at Hs ⊢;refine⟨a,e1,by omega,by omega,_,e2,by omega,by omega,by omega,by omega,by omega,a,e1,by omega,by omega,_,e3,a,e1,by omega,by omega,_,e2,by omega,by omega,by omega,?_⟩;rw[Ky,TU];have g8':=gd g8;obtain⟨W4,PV⟩:∃ W4,W4=w8.drew:=⟨_,rfl⟩;rw[← PV]at g8' ⊢;have Mr:∀ t∈[x,y,z],t<2^64:=by
      intro t ht;simp at ht;rcases ht with rfl | rfl | rfl <;>omega
    refine(s8 [x,y,z] Mr (by simp) _ rfl).mono fun ev w9 hh=>?_;obtain⟨B,nB,cB,rfl,oB,g9⟩:=hh;have PN:nB=(bC [x,y,z]).length:=by have h':=oB.cases.1;unfold bY at h';rw[List.length_map]at h';omega
    have Ie:=fN Mr;have gW9:=aA g8' g9;have oR9:=oR.kp (S:=fun _=>False) (Kp.of_none gW9) (fun _ _ e=>e);obtain⟨A5,n5,c5,w5,r5,o5,g5,_⟩:=aO oR9 oB.row PN (bI oB) (by simp at Ie;omega) (aA g gW9).size;have gW5:=aY (aA g gW9) g5 fun q hq=>(World.ownsRow.lt oR9 q hq).1;obtain⟨a',e1',e2',e3'⟩:=eT (hr.kept_none (gd gW5)) lp;have RZ:dL (-1) 0 l=(dn++[x,y,z])++dL l[p].1 l[p].2 (l.drop (p+1)):=by
      rw[hG,Gp,rj _ _ _ _ FS,lE _ _ _ _ rfl,← Gp,← hx,← hy,← hz,List.append_assoc];rfl
    have MK:eR (-1) l=(k+1)+eR l[p].1 (l.drop (p+1)):=by
      rw[hC,Gp,eR,if_neg FS];omega
    refine⟨_,_,_,rfl,A5,n5,c5,w5,r5,by omega,a',e1',by omega,by omega,_,e2',by omega,by omega,_,?_,p+1,k+1,dn++[x,y,z],l[p].2,by omega,by omega,rfl,by omega,by omega,.inr ⟨by omega,by simpa using lp,by simp,by simp⟩,RZ,MK,by simp;omega,?_,gd gW5⟩
    · omega
    · rw[iD];exact o5.kp (S:=fun _=>False) (Kp.of_none (aI (aC _ none))) (fun _ _ e=>e)
  · have HO:p=l.length:=by omega
    subst HO;rw[List.drop_length]at hG hC;simp only[dL,eR,List.append_nil,Nat.add_zero]at hG hC;refine⟨by omega,(s8 [k] (by simp;omega) (by simp) _ rfl).mono fun ev w4 hh=>?_⟩;obtain⟨B,nB,cB,rfl,oB,g4⟩:=hh;have PN:nB=(bC [k]).length:=by have h':=oB.cases.1;unfold bY at h';rw[List.length_map]at h';omega
    have Ie:=fN (l:=[k]) (by simp;omega);have oR4:=oR.kp (S:=fun _=>False) (Kp.of_none g4) (fun _ _ e=>e);obtain⟨A5,n5,c5,w5,r5,o5,g5,_⟩:=aO oB oR4.row NN (bI oR4) (by simp at Ie;omega) g4.size;refine⟨_,_,_,rfl,A5,n5,c5,w5,r5,A5,n5,c5,rfl,?_,aY (aA g g4) g5 fun q hq=>Nat.le_trans g.size (World.ownsRow.lt oB q hq).1⟩;have:js l=bC [k]++bC dn:=by
      unfold js vI;rw[hG,hC,dH,dH,nO,List.append_nil]
    rw[this];exact o5.mono g.size
theorem vr{w:World}{v:Nat}(hv:v<2^64):Calls P 158 #[.int .u64 (v:Int)] w fun ev w'=>ev=.returned (.int .i64 (blen v:Int))/\w'=w:=by
 apply vc158;dsimp only[VC158,Br,iq]
 try simp only[aG]
 have hb:=kA (v:=v) (k:=64) hv;refine⟨fun m u n W=>∃ x k:Nat,u=(x:Int)/\n=(k:Int)/\m=x/\blen v=k+blen x/\W=w,⟨_,v,0,rfl,rfl,rfl,by omega,rfl⟩,?_⟩;rintro m u n W ⟨x,k,rfl,rfl,rfl,hk,rfl⟩;refine⟨fun hp=>?_,fun hz=>?_⟩
 ·rw[vc (v:=m) (by omega)]at hk;refine⟨by omega,by omega,m / 2,by omega,m / 2,k+1,by omega,by omega,rfl,by omega,rfl⟩
 ·have:m=0:=by omega
  subst this;rw[lD]at hk;exact⟨by rw[hk];rfl,rfl⟩
theorem ym{w:World}{base g v:Nat}{bits:List Bool}(h:zC w base g bits)(hv:0<v/\v<2^64)(hl:bits.length<=2^29)(FW:base<=w.heap.size):
    Calls P 114 #[.pointer (some ⟨g,0,none⟩),.int .u64 (v:Int)] w fun ev w'=>ev=.returned (.tuple #[])/\zC w' base g (bits++dT v)/\Kp w w' (vl w base [178,4]):=by
  apply vc114;dsimp only[VC114,rt,Br,cI,cU,iq]
  try simp only[aG]
  have hb:=(gn v).2 hv.1;have Gf:=kA (v:=v) (k:=64) hv.2;refine(vr hv.2).mono fun ev w1 hh=>?_;obtain⟨rfl,rfl⟩:=hh;have e:(blen v:Int)-1=((blen v-1:Nat):Int):=by omega
  refine⟨_,rfl,fun _=>⟨by omega,?_⟩,fun h=>absurd h (by omega)⟩;rw[e];refine(lO (v:=0) (n:=blen v-1) h (by omega) (by omega) (by omega) FW).mono fun ev w2 hh=>?_;obtain⟨rfl,h2,k2⟩:=hh;rw[nz]at h2;refine⟨rfl,(lO (v:=(v:Int)) (n:=blen v) h2 (by omega) Gf (by simp;omega) (Nat.le_trans FW k2.size)).mono fun ev w3 hh=>?_⟩;obtain⟨rfl,h3,k3⟩:=hh;refine⟨rfl,by trivial,?_,k2.tysThen k3⟩;unfold dT;rw[← List.append_assoc];exact h3
structure zF(w X:World)(gL gE:Nat)(q e:aS)(bits:List Bool):Prop where
 wr:zC X w.heap.size w.heap.size bits
 last:X.heap[gL]?=some (.cells #[.int .i64 q.t,.int .u32 q.u,.int .u32 q.v,.bool q.add] 62 (0,0))
 cur:X.heap[gE]?=some (.cells #[.int .i64 e.t,.int .u32 e.u,.int .u32 e.v,.bool e.add] 62 (0,0))
 gr:w.grownBy X none
theorem AM:62 ∉ [178,4]:=by decide
theorem zF.kept{w X Y:World}{gL gE:Nat}{q e:aS}{bits:List Bool}(h:zF w X gL gE q e bits)(hg:X.grownBy Y none):zF w Y gL gE q e bits:=⟨h.wr.kept hg,aF h.last hg,aF h.cur hg,aA h.gr hg⟩
theorem zF.to{w X Y:World}{gL gE:Nat}{q e:aS}{bits bits':List Bool}(h:zF w X gL gE q e bits)(h2:zC Y w.heap.size w.heap.size bits')(K:Kp X Y (vl X w.heap.size [178,4])):zF w Y gL gE q e bits' :=
 ⟨h2,by rw[K.block gL (Array.getElem?_eq_some_iff.1 h.last).1 (pW h.last AM)];exact h.last,by rw[K.block gE (Array.getElem?_eq_some_iff.1 h.cur).1 (pW h.cur AM)];exact h.cur,((Kp.of_none (S:=fun k=>w.heap.size<=k) h.gr).then K (fun k _ h=>h.1)).grown (fun k hk e=>by omega)⟩
theorem zF.gam{w X:World}{gL gE v:Nat}{q e:aS}{bits:List Bool}(h:zF w X gL gE q e bits)(hv:0<v/\v<2^64)(hl:bits.length<=2^29):
    Calls P 114 #[.pointer (some ⟨w.heap.size,0,none⟩),.int .u64 (v:Int)] X fun ev Y=>ev=.returned (.tuple #[])/\zF w Y gL gE q e (bits++dT v) :=
  (ym h.wr hv hl h.gr.size).mono fun ev Y hh=>⟨hh.1,h.to hh.2.1 hh.2.2⟩
theorem zF.bit{w X:World}{gL gE:Nat}{q e:aS}{bits:List Bool}(h:zF w X gL gE q e bits)(b:Bool)(hl:bits.length<=2^29):
    Calls P 115 #[.pointer (some ⟨w.heap.size,0,none⟩),.int .u64 (fy b),.int .i64 1] X fun ev Y=>ev=.returned (.tuple #[])/\zF w Y gL gE q e (bits++[b]):=by
  have hb:=fS b;refine(lO (v:=fy b) (n:=1) h.wr (by omega) (by omega) (by omega) h.gr.size).mono fun ev Y hh=>⟨hh.1,?_⟩;have HX:cK (fy b) 1=[b]:=by cases b <;>rfl
  rw[← HX];exact h.to hh.2.1 hh.2.2
theorem yo {w:World} {A:OA} {n c:Nat} {l:List aS} {t0:Int} (hr:aZ w A (cE l)) (hn:n=l.length) (hl:n<=2^19) (hD:dZ t0 none l) :
    Calls P 78 #[.int .i64 t0,.slice A n c] w fun ev w'=>∃(A':OA)(n' c':Nat),ev=.returned (.tuple #[.slice A' n' c',.int .i64 0])/\aE w' w.heap.size 5 1 A' n' c' (bY (eL t0 l))/\w.grownBy w' none:=by
  apply vc78;dsimp only[VC78,rt,Wt,Br,Bb,Rd,Ix,Ws,cB,cS,cU,nb,ad,al,iq]
  try simp only[aG]
  have FT:=jR (fun q hq=>by cases hq) hD;have hb:=hD.evtsB;obtain⟨w1,FQ,g1,b1⟩:=fQ w #[.slice none 0 0] 178;rw[← FQ];have s0:=heap_alloc_new w1 (.cells #[.int .i64 0,.int .u32 0,.int .u32 0,.bool false] 62);have s1:=aH s0 0 (.int .i64 t0);have s2:=aH s1 1 (.int .u32 0);have s3:=aH s2 2 (.int .u32 0);have s4:=aH s3 3 (.bool false);have g2:w1.grownBy (((((w1.alloc (.cells #[.int .i64 0,.int .u32 0,.int .u32 0,.bool false] 62)).setCell ⟨w1.heap.size,0,none⟩ (.int .i64 t0)).setCell ⟨w1.heap.size,1,none⟩ (.int .u32 0)).setCell ⟨w1.heap.size,2,none⟩ (.int .u32 0)).setCell ⟨w1.heap.size,3,none⟩ (.bool false)) none:=(cA (cA (cA (cA (Kp.of_none (S:=fun k=>w1.heap.size<=k) (ic (aC w1 none) _)) (Nat.le_refl _)) (Nat.le_refl _)) (Nat.le_refl _)) (Nat.le_refl _)).grown (fun k hk e=>by omega);refine⟨⟨_,aB s0 0⟩,aD s0 0,⟨_,aB s1 1⟩,aD s1 1,⟨_,aB s2 2⟩,aD s2 2,⟨_,aB s3 3⟩,aD s3 3,?_⟩;obtain⟨w2,Ig⟩:∃ w2,w2=((((w1.alloc (.cells #[.int .i64 0,.int .u32 0,.int .u32 0,.bool false] 62)).setCell ⟨w1.heap.size,0,none⟩ (.int .i64 t0)).setCell ⟨w1.heap.size,1,none⟩ (.int .u32 0)).setCell ⟨w1.heap.size,2,none⟩ (.int .u32 0)).setCell ⟨w1.heap.size,3,none⟩ (.bool false):=⟨_,rfl⟩;have b2:w2.heap[w1.heap.size]?=some (.cells #[.int .i64 t0,.int .u32 0,.int .u32 0,.bool false] 62 (0,0)):=by rw[Ig];simpa using s4
  rw[← Ig]at g2 ⊢;have R2:zC w2 w.heap.size w.heap.size []:=⟨none,0,0,aF b1 g2,Nat.le_refl _,aE.nil _ _ _ _⟩;refine⟨fun m i W=>∃ p:Nat,i=(p:Int)/\p<=l.length/\m=l.length-p/\w.grownBy W none/\zC W w.heap.size w.heap.size (dS t0 none (l.take p))/\W.heap[w1.heap.size]?=some (.cells #[.int .i64 (bS t0 (d9 (l.take p) none)).t,.int .u32 (bS t0 (d9 (l.take p) none)).u,.int .u32 (bS t0 (d9 (l.take p) none)).v,.bool (bS t0 (d9 (l.take p) none)).add] 62 (0,0)),
    ⟨_,0,rfl,by omega,rfl,aA g1 g2,by simpa[dS]using R2,by simpa[d9,bS]using b2⟩,?_⟩
  rintro m i w4 ⟨p,rfl,hp,rfl,hg,hW,hL⟩;have tp:(p:Int).toNat=p:=by omega
  rw[tp];refine⟨fun FP=>?_,fun FU=>?_⟩
  · have lp:p<l.length:=by omega
    have NJ:l=l.take p++(l[p] ::l.drop (p+1)):=by rw[← List.drop_eq_getElem_cons lp,List.take_append_drop]
    have LH:=hD;rw[NJ,dZ.append]at LH;obtain⟨R0,KY,_⟩:=LH;have Ow:=jR (fun q hq=>by cases hq) R0;have Jj:(l.take p).length<=2^19:=by rw[List.length_take];omega
    have GS:∀ q,d9 (l.take p) none=some q->q∈l:=by
      intro q hq;cases p with
      | zero=>simp[d9]at hq
      | succ p =>
        rw[List.take_succ_eq_append_getElem (show p<l.length by omega),gx]at hq;cases hq;exact List.getElem_mem _
    have JM:p≠0->(d9 (l.take p) none).isSome=true:=by
      intro h0;cases p with
      | zero=>omega
      | succ p=>rw[List.take_succ_eq_append_getElem (show p<l.length by omega),gx];rfl
    have Hd:p=0->(d9 (l.take p) none).isSome=false:=by rintro rfl;simp[d9]
    have hd:kG t0 none l=true:=(ly hb).2 hD;have KV:jy (d9 (l.take p) none):=by
      intro q hq;have h1:=hb.mem (GS q hq);have h2:=(j6.1 hd).1 _ (GS _ hq);omega
    have GF:∀ q,d9 (l.take p) none=some q->q.u<=4294967295/\q.v<=4294967295:=fun q hq=>by have:=hb.mem (GS q hq);omega
    obtain⟨e,he⟩:∃ e,e=l[p]:=⟨_,rfl⟩;rw[← he]at KY;have JA:l.take (p+1)=l.take p++[e]:=by rw[List.take_succ_eq_append_getElem lp,he]
    obtain⟨a,e1,e2,e3,e4,e5⟩:=ey (hr.kept_none hg) lp;rw[← he]at e2 e3 e4 e5;generalize UE:d9 (l.take p) none=pv at *;have GG:=KY.nums KV;have OL:=xE KV KY;have Jf:jy pv->(pv.isSome=true->bN (bS t0 pv) e=true)/\(pv.isSome=false->e.t=t0):=fun _=>by
      have h3:=KY.2.2;cases pv with
      | none=>exact⟨fun h=>(by cases h),fun _=>h3⟩
      | some q=>exact⟨fun _=>h3,fun h=>by cases h⟩
    obtain⟨Jf,Ij⟩:=Jf KV;obtain⟨h1,h2,h3⟩:=KY;have hq:0<=(bS t0 pv).t/\0<=(bS t0 pv).u/\(bS t0 pv).u<=4294967295/\0<=(bS t0 pv).v/\(bS t0 pv).v<=4294967295/\(bS t0 pv).t<=e.t/\(pv.isSome=true->e.t=(bS t0 pv).t->(bS t0 pv).u<e.u∨(bS t0 pv).u=e.u/\(bS t0 pv).v<e.v):=by
      cases pv with
      | none=>simp only at h3;simp[bS];omega
      | some q =>
        have a1:=KV q rfl;have a2:=GF q rfl;simp only[eg]at h3;simp only[bS,Option.getD_some];refine⟨by omega,by omega,by omega,by omega,by omega,by omega,fun _ _=>by omega⟩
    have hG:=px t0 pv e;have hF:=pz t0 pv e;have hS:=pw t0 pv e;generalize UA:bS t0 pv=q at *;generalize I2:pv.isSome=any at *;obtain⟨bits,Gv⟩:∃ bits,bits=dS t0 none (l.take p):=⟨_,rfl⟩;obtain⟨gap,OK⟩:∃ x,x=ii t0 pv e:=⟨_,rfl⟩;obtain⟨fst,J3⟩:∃ x,x=jB pv e:=⟨_,rfl⟩;obtain⟨snd,JN⟩:∃ x,x=jr pv e:=⟨_,rfl⟩;have Mi:xF t0 pv e=dT gap++(e.add ::(dT fst++dT snd)):=by unfold xF;rw[OK,J3,JN]
    rw[← OK]at hG GG;rw[← J3]at hF GG;rw[← JN]at hS GG;rw[Mi]at OL;simp only[List.length_append,List.length_cons]at OL;rw[← Gv]at Ow hW;have Rb:0<gap:=by rw[hG];omega
    obtain⟨w5,hE,pE0,qE0,pE1,qE1,pE2,qE2,pE3,qE3,bE,gE⟩:=uC w4 62 (.int .i64 0) (.int .u32 0) (.int .u32 0) (.bool false) (.int .i64 e.t) (.int .u32 e.u) (.int .u32 e.v) (.bool e.add);refine⟨a,e1,by omega,by omega,_,e2,_,e3,_,e4,_,e5,pE0,qE0,pE1,qE1,pE2,qE2,pE3,qE3,?_⟩;rw[← hE];have D0:zF w w5 w1.heap.size w4.heap.size q e bits:=⟨hW.kept gE,aF hL gE,bE,aA hg gE⟩;refine⟨fun X=>w5.grownBy X none,⟨_,aB D0.cur 0,fun h=>by omega,fun _=>⟨_,aB D0.cur 0,fun h=>by omega,fun _=>⟨_,aB D0.cur 1,_,aB D0.cur 2,fun h=>by omega,fun _=>⟨fun h0=>?_,fun h0=>⟨fun FX=>?_,fun h=>by omega⟩⟩⟩⟩⟩,?_⟩
    · have:=Ij (Hd (by omega));exact⟨_,aB D0.cur 0,fun h=>absurd this h,fun _=>⟨fun h=>by omega,fun _=>aC _ _⟩⟩
    · refine⟨_,aB D0.last 0,_,aB D0.last 1,_,aB D0.last 2,_,aB D0.last 3,_,aB D0.cur 0,_,aB D0.cur 1,_,aB D0.cur 2,_,aB D0.cur 3,(mC q e).mono fun ev w6 hh=>?_⟩;obtain⟨rfl,g6⟩:=hh;rw[Jf (JM (by omega))];exact⟨_,rfl,fun h=>(by cases h),fun _=>g6⟩
    intro w6 g6;have D6:=D0.kept g6;have kgap:e.t-q.t+1=(gap:Int):=by rw[hG];omega
    refine⟨_,aB D6.cur 0,_,aB D6.last 0,by omega,by omega,by omega,?_⟩;rw[kgap];refine(D6.gam ⟨Rb,by omega⟩ (by omega)).mono fun ev w7 hh=>?_;obtain⟨rfl,D7⟩:=hh;refine⟨rfl,fun s w'=>s=fy e.add/\w'=w7,⟨_,aB D7.cur 3,fun ha=>⟨by rw[ha];rfl,rfl⟩,fun ha=>⟨by rw[ha];rfl,rfl⟩⟩,?_⟩;rintro s w7' ⟨rfl,rfl⟩;refine(D7.bit e.add (by simp;omega)).mono fun ev w8 hh=>?_;obtain⟨rfl,D8⟩:=hh;have D9:=D8.kept (aI (aC w8 none));obtain⟨w9,LP⟩:∃ w9,w9=w8.drew:=⟨_,rfl⟩;rw[← LP]at D9 ⊢;have l9:(bits++dT gap++[e.add]).length+(dT fst).length<=2^29:=by simp;omega
    have two:∀ {u v:Int},u=(fst:Int)->v=(snd:Int)->∀ {X:World} {R:World->Prop},zF w X w1.heap.size w4.heap.size q e (bits++dT gap++[e.add]++dT fst)->(∀ Y,zF w Y w1.heap.size w4.heap.size q e (bits++dT gap++[e.add]++dT fst++dT snd)->R Y)->Calls P 114 #[.pointer (some ⟨w.heap.size,0,none⟩),.int .u64 v] X fun ev Y=>ev=.returned (.tuple #[])/\R Y:=by
      rintro u v rfl rfl X R hX hR;exact(hX.gam ⟨GG.2.2.1,by omega⟩ (by rw[List.length_append];exact l9)).mono fun ev Y hh=>⟨hh.1,hR Y hh.2⟩
    have one:∀ {u:Int},u=(fst:Int)->∀ {R:World->Prop},(∀ Y,zF w Y w1.heap.size w4.heap.size q e (bits++dT gap++[e.add]++dT fst)->R Y)->Calls P 114 #[.pointer (some ⟨w.heap.size,0,none⟩),.int .u64 u] w9 fun ev Y=>ev=.returned (.tuple #[])/\R Y:=by
      rintro u rfl R hR;exact(D9.gam ⟨GG.2.1.1,by omega⟩ (by omega)).mono fun ev Y hh=>⟨hh.1,hR Y hh.2⟩
    refine⟨rfl,_,aB D9.cur 1,by omega,_,aB D9.cur 2,by omega,fun Y=>zF w Y w1.heap.size w4.heap.size q e (bits++dT gap++[e.add]++dT fst++dT snd),⟨fun h0=>?_,fun h0=>⟨_,aB D9.cur 0,_,aB D9.last 0,fun FS=>?_,fun Ha=>⟨_,aB D9.cur 1,_,aB D9.last 1,fun hs=>?_,fun hs=>?_⟩⟩⟩,?_⟩
    · have Hm:=Hd (by omega);rw[Hm]at hF hS;simp only[Bool.false_eq_true,false_and,if_false]at hF hS;exact⟨by omega,one (by omega) fun Y D=>⟨by omega,two (u:=fst) rfl (by omega) D fun Z D=>D⟩⟩
    · rw[if_neg (fun h=>FS h.2)]at hF hS;exact⟨by omega,one (by omega) fun Y D=>⟨by omega,two (u:=fst) rfl (by omega) D fun Z D=>D⟩⟩
    · have Ha:e.t=q.t:=by omega
      have Hl:=JM (by omega);have ho:=hq.2.2.2.2.2.2 Hl Ha;rw[if_pos ⟨Hl,Ha⟩]at hF hS;rw[if_pos hs]at hS;exact one (by omega) fun Y D=>⟨_,aB D.last 2,by omega,by omega,two (u:=fst) rfl (by omega) D fun Z D=>D⟩
    · have Ha:e.t=q.t:=by omega
      have Hl:=JM (by omega);have ho:=hq.2.2.2.2.2.2 Hl Ha;rw[if_pos ⟨Hl,Ha⟩]at hF hS;rw[if_neg hs]at hS;exact⟨_,aB D9.last 1,by omega,by omega,by omega,one (by omega) fun Y D=>⟨by omega,two (u:=fst) rfl (by omega) D fun Z D=>D⟩⟩
    intro X D;have t1:=aH D.last 0 (.int .i64 e.t);have t2:=aH t1 1 (.int .u32 e.u);have t3:=aH t2 2 (.int .u32 e.v);have t4:=aH t3 3 (.bool e.add);have K:Kp X ((((X.setCell ⟨w1.heap.size,0,none⟩ (.int .i64 e.t)).setCell ⟨w1.heap.size,1,none⟩ (.int .u32 e.u)).setCell ⟨w1.heap.size,2,none⟩ (.int .u32 e.v)).setCell ⟨w1.heap.size,3,none⟩ (.bool e.add)) (fun k=>k=w1.heap.size):=cA (cA (cA (cA (Kp.refl X _) rfl) rfl) rfl) rfl;refine⟨_,aB D.cur 0,_,aB D.cur 1,_,aB D.cur 2,_,aB D.cur 3,⟨_,aB D.last 0⟩,aD D.last 0,⟨_,aB t1 1⟩,aD t1 1,⟨_,aB t2 2⟩,aD t2 2,⟨_,aB t3 3⟩,aD t3 3,by omega,_,?_,p+1,by omega,by omega,rfl,?_,?_,?_⟩
    · omega
    · have hz:=g1.size;exact((Kp.of_none (S:=fun k=>w.heap.size<=k) D.gr).then K (fun k _ h=>by omega)).grown (fun k hk e=>by omega)
    · rw[JA,my,UE];have:dS t0 pv [e]=xF t0 pv e:=by simp[dS]
      rw[this,Mi,← Gv];have:bits++(dT gap++(e.add ::(dT fst++dT snd)))=bits++dT gap++[e.add]++dT fst++dT snd:=by simp[List.append_assoc]
      rw[this];refine D.wr.kp K (fun k hk ht e=>?_);subst e;exact pW D.last AM ht
    · rw[JA,gx];simp only[bS,Option.getD_some];simpa using t4
  · have:p=l.length:=by omega
    subst this;rw[List.take_length]at hW;refine(pT hW (by omega) hg.size).mono fun ev w5 hh=>?_;obtain⟨A',n',c',rfl,o,g⟩:=hh;exact⟨_,_,_,rfl,_,_,_,rfl,o.mono hg.size,aA hg g⟩
theorem ownE{W:World}{bs n c:Nat}{A:OA}{l:List Edge}(h:aE W bs 45 2 A n c (edges l)):n=l.length/\n<=c/\(A=none->c=0):=by
 have h':=h.cases.1;rw[dk]at h';refine⟨by omega,?_,bI h⟩;rcases h.cases.2 with⟨_,h1,h2,_⟩ | ⟨_,_,_,_,_,h1,_⟩ <;>omega
theorem AI{key:List Edge}{l:List aS}{e:aS}:eQ key (l++[e])=(eQ key l && (ct (dA l key) e).isSome):=by
 rw[mw];congr 1;unfold eQ;cases ct (dA l key) e <;>simp[eQ]
theorem AH{key:List Edge}{l:List aS}(p:Nat)(h:eQ key (l.take p)=false):eQ key l=false:=by
 have:=mw (l:=l.take p) (m:=l.drop p) (now:=key);rw[List.take_append_drop,h]at this;simpa using this
def DR(key:List Edge)(l:List aS):Int:=if eQ key l=true then 0 else 25
def CL(t0:Int)(key:List Edge)(l:List aS):List Int:=if eQ key l=true then fk t0 key l else []
theorem z4{w:World}{A B:OA}{n c m d:Nat}{key:List Edge}{l:List aS}{t0:Int}(hA:aZ w A (edges key))(hn:n=key.length)(MZ:n<=c)(WH:A=none->c=0)(hB:aZ w B (cE l))(hm:m=l.length)(II:n<=2^14)(PP:m<=2^12)
    (hk:nG key) (hD:dZ t0 none l) (FS:l≠[]) :
    Calls P 41 #[.slice A n c,.slice B m d] w fun ev w'=>∃(A':OA)(n' c':Nat),ev=.returned (.tuple #[.slice A' n' c',.int .i64 (DR key l)])/\aE w' w.heap.size 5 1 A' n' c' (bY (CL t0 key l))/\w.grownBy w' none:=by
  apply vc41;dsimp only[VC41,rt,Br,Rd,Ix,Ap,cS,cT,nb,ad,al,iq]
  try simp only[aG]
  refine(z5 hA hn (by omega) hk).mono fun ev w1 hh=>?_;obtain⟨A1,n1,c1,rfl,o1,g1⟩:=hh;have FX:0<l.length:=List.length_pos_iff.2 FS;have MR:=hD.t0 FS;have Jx:∃ b,B=some b:=by obtain⟨b,e,_⟩:=ey hB FX;exact⟨b,e⟩
  obtain⟨b,hb⟩:=Jx;have Ij:=xC (hb▸hB) FS g1;rw[MR]at Ij;refine⟨_,_,_,_,rfl,fun h=>absurd rfl h,fun _=>⟨fun h=>by omega,fun _=>⟨b,hb,by omega,by omega,t0,Ij,(yo (hB.kept_none g1) hm (by omega) hD).mono fun ev w2 hh=>?_⟩⟩⟩;obtain⟨A2,n2,c2,rfl,o2,g2⟩:=hh;have GH:=aA g1 g2;have VZ:=nD hk.edgesB hk.len;have LA:=(i9 hD).1;have Ii:n1=(js key).length:=by have h':=o1.cases.1;unfold bY at h';rw[List.length_map]at h';omega
  have IT:n2=(eL t0 l).length:=by have h':=o2.cases.1;unfold bY at h';rw[List.length_map]at h';omega
  refine⟨_,_,_,_,rfl,fun h=>absurd rfl h,fun _=>⟨fun q nA nn nc i W=>∃ p:Nat,i=(p:Int)/\p<=l.length/\q=l.length-p/\eQ key (l.take p)=true/\aZ W nA (edges (dA (l.take p) key))/\nn=(dA (l.take p) key).length/\nn<=nc/\(nA=none->nc=0)/\w.grownBy W none/\w2.grownBy W none,⟨_,0,rfl,by omega,rfl,by simp[eQ],by simpa[dA]using hA.kept_none GH,by simpa[dA]using hn,MZ,WH,GH,aC _ _⟩,?_⟩⟩;rintro q nA nn nc i W ⟨p,rfl,hp,rfl,G9,Gj,Iy,QJ,UU,gW,g2W⟩;have tp:(p:Int).toNat=p:=by omega
  rw[tp];have Mf:=ig (l.take p) key;rw[List.length_take]at Mf;refine⟨fun FP=>?_,fun FU=>?_⟩
  · have lp:p<l.length:=by omega
    obtain⟨a,e1,e2,e3,e4,e5⟩:=ey (hB.kept_none gW) lp;have JA:l.take (p+1)=l.take p++[l[p]]:=List.take_succ_eq_append_getElem lp;have Hq:=AI (key:=key) (l:=l.take p) (e:=l[p]);rw[← JA,G9,Bool.true_and]at Hq;refine⟨a,e1,by omega,by omega,_,e2,_,e3,_,e4,_,e5,(jT (e:=l[p]) Gj Iy QJ UU (by omega)).mono fun ev w4 hh=>?_⟩;obtain⟨A4,n4,c4,rfl,o4,g4⟩:=hh;refine⟨_,_,_,_,rfl,fun Hm=>?_,fun IM=>⟨by omega,_,?_,p+1,by omega,by omega,rfl,?_,?_,?_,?_,bI o4,aA gW g4,aA g2W g4⟩⟩
    · rw[Hm]at Hq;have:=AH _ Hq;refine⟨none,0,0,?_,?_,aA gW g4⟩
      · unfold DR;rw[if_neg (by rw[this];simp)]
      · unfold CL;rw[if_neg (by rw[this];simp)];exact aE.nil _ _ _ _
    · omega
    · rw[Hq];exact eq_true_of_ne_false IM
    · rw[JA,pt];exact o4.row
    · have h':=o4.cases.1;rw[dk]at h';rw[JA,pt];omega
    · rcases o4.cases.2 with⟨_,h1,h2,_⟩ | ⟨_,_,_,_,_,h1,_⟩ <;>omega
  · have HO:p=l.length:=by omega
    subst HO;rw[List.take_length]at G9;have WC:DR key l=0:=by unfold DR;rw[if_pos G9]
    have RN:CL t0 key l=fk t0 key l:=by unfold CL;rw[if_pos G9]
    rw[WC,RN];have o1W:=o1.kp (S:=fun _=>False) (Kp.of_none (aA g2 g2W)) (fun _ _ e=>e);refine(rH o1W.row Ii (dX _) (by omega)).mono fun ev w5 hh=>?_;obtain⟨A5,n5,c5,rfl,o5,g5⟩:=hh;have HP:n5=(de (js key)).length:=by have h':=o5.cases.1;unfold bY at h';rw[List.length_map]at h';omega
    have M7:=hZ (dX key) (by omega);refine⟨_,_,_,rfl,by omega,(s8 [n5] (by simp;omega) (by simp) _ rfl).mono fun ev w6 hh=>?_⟩;obtain⟨A6,n6,c6,rfl,o6,g6⟩:=hh;have JH:=o5.kp (S:=fun _=>False) (Kp.of_none g6) (fun _ _ e=>e);have JP:=fN (l:=[n5]) (by simp;omega);simp only[List.length_cons,List.length_nil]at JP;have IK:n6=(bC [n5]).length:=by have h':=o6.cases.1;unfold bY at h';rw[List.length_map]at h';omega
    obtain⟨A7,n7,c7,w7,r7,o7,g7,e7⟩:=aO o6 JH.row HP (bI JH) (by omega) g6.size;have R9:=aY g6 g7 fun q hq=>(World.ownsRow.lt o6 q hq).1;have o2W:=o2.kp (S:=fun _=>False) (Kp.of_none (aA g2W (aA g5 R9))) (fun _ _ e=>e);refine⟨_,_,_,rfl,A7,n7,c7,w7,r7,(rH o2W.row IT (dp _ _) (by omega)).mono fun ev w8 hh=>?_⟩;obtain⟨A8,n8,c8,rfl,o8,g8⟩:=hh;have IJ:n8=(de (eL t0 l)).length:=by have h':=o8.cases.1;unfold bY at h';rw[List.length_map]at h';omega
    have Xi:=hZ (dp t0 l) (by omega);have Le:=o7.kp (S:=fun _=>False) (Kp.of_none g8) (fun _ _ e=>e);have SS:=aA R9 g8;obtain⟨A9,n9,c9,w9,r9,o9,g9,_⟩:=aO Le o8.row IJ (bI o8) (by omega) SS.size;have WP:=aY SS g9 fun q hq=>(World.ownsRow.lt Le q hq).1;have KN:fk t0 key l=bC [n5]++de (js key)++de (eL t0 l):=by
      unfold fk;rw[dH,nO,List.append_nil,HP,List.append_assoc]
    refine⟨_,_,_,rfl,A9,n9,c9,w9,r9,A9,n9,c9,rfl,?_,aA gW (aA g5 WP)⟩;rw[KN];exact o9.mono (aA gW g5).size
end Go.Proofs.YtlieaecnllkefaaGreat
