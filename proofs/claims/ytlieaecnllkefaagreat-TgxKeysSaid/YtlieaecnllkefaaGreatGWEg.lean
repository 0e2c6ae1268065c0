/- Own texts, packed: W18, W19, W20. -/
import Derived.Test.YtlieaecnllkefaaGreatGWDg
import Derived.Test.YtlieaecnllkefaaGreatGWYg
set_option linter.unusedVariables false
set_option linter.unusedSimpArgs false
set_option maxHeartbeats 8000000
set_option maxRecDepth 100000
namespace Go.Proofs.YtlieaecnllkefaaGreat
open Go Go.V Go.RowKit
theorem sN{W:World}(l:List Nat)(hb:∀ x∈l,x<2^64)(hl:l.length<=8)(vs:Array Value)(hv:vs=(kr l).toArray):
    Calls P 80 #[.slice (some ⟨W.heap.size,0,none⟩) l.length l.length] (W.alloc (.cells vs 22)) fun ev w'=>∃(A':OA)(n' c':Nat),ev=.returned (.slice A' n' c')/\aE w' W.heap.size 5 1 A' n' c' (bV (aX l))/\W.grownBy w' none:=by
  subst hv;have gA:=World.grownBy_alloc W (.cells (kr l).toArray 22) none;have rA:=jr W (kr l).toArray 22;refine(j4 (n:=l.length) (by simpa using rA) rfl hb (by omega)).mono fun ev w1 hh=>?_;obtain⟨A',n',c',rfl,o,g⟩:=hh;exact⟨_,_,_,rfl,o.mono gA.size,aA gA g⟩
theorem tP {w:World} {A:OA} {n c:Nat} {l:List Edge} (hr:aZ w A (edges l)) (hn:n=l.length) (hl:n<=2^18) (h:nz l) :
    Calls P 77 #[.slice A n c] w fun ev w'=>∃(A':OA)(n' c':Nat),ev=.returned (.tuple #[.slice A' n' c',.int .i64 0])/\aE w' w.heap.size 5 1 A' n' c' (bV (fF l))/\w.grownBy w' none:=by
  apply vc77;dsimp only[VC77,rt,Br,Rd,Ix,Ap,cB,cS,nb,ad,al,iq]
  try simp only[aF]
  have hE:=h.edgesB;have FE:=xz (-1) 0 l (by omega) (by omega) hE h.len;refine⟨fun m rA rn rc us u i W=>∃(p k:Nat)(dn:List Nat)(v:Int),i=(p:Int)/\p<=l.length/\m=l.length-p/\us=(k:Int)/\k<=p/\(p=0/\u=-1/\v=0∨0<p/\∃ h:p-1<l.length,u=l[p-1].1/\v=l[p-1].2)/\dA (-1) 0 l=dn++dA u v (l.drop p)/\eR (-1) l=k+eR u (l.drop p)/\dn.length<=3*p/\aE W w.heap.size 5 1 rA rn rc (bV (aX dn))/\w.grownBy W none,
    ⟨_,0,0,[],0,rfl,by omega,rfl,rfl,by omega,.inl ⟨rfl,rfl,rfl⟩,by simp,by simp,by simp,aE.nil _ _ _ _,aC _ _⟩,?_⟩
  rintro m rA rn rc us u i W ⟨p,k,dn,v,rfl,hp,rfl,rfl,hk,hu,hG,hC,I2,oR,g⟩;have tp:(p:Int).toNat=p:=by omega
  rw[tp];have PK:∀ x∈dn,x<2^64:=fun x hx=>by
    have:=FE x (by rw[hG];exact List.mem_append.2 (.inl hx));omega
  have JM:=fO PK;have NK:rn=(aX dn).length:=by have h':=oR.cases.1;unfold bV at h';rw[List.length_map]at h';omega
  refine⟨fun Iw=>?_,fun FJ=>?_⟩
  · have lp:p<l.length:=by omega
    have re:=h.right _ (List.getElem_mem lp);have F9:=List.drop_eq_getElem_cons lp;have gd:∀ {X Y:World},X.grownBy Y none->X.grownBy Y.drew none:=fun h=>aA h (aH (aC _ none));have at0:∀ {X:World},W.grownBy X none->∃ a,A=some a/\X.cell? (a.add (p*2))=some (.int .u32 l[p].1)/\X.cell? ((a.add (p*2)).add 1)=some (.int .u32 l[p].2):=fun hX=>ez (hr.kept_none (aA g hX)) lp;have at1:0<p->∃ h1:p-1<l.length,∀ {X:World},W.grownBy X none->∃ a,A=some a/\X.cell? (a.add ((((p:Int)-1).toNat)*2))=some (.int .u32 l[p-1].1)/\X.cell? ((a.add ((((p:Int)-1).toNat)*2)).add 1)=some (.int .u32 l[p-1].2):=fun FO=>⟨by omega,fun hX=>by
      have e:((p:Int)-1).toNat=p-1:=by omega
      rw[e];exact ez (hr.kept_none (aA g hX)) (by omega)⟩
    have JV:∀(FO:0<p),aO (l[p-1]'(by omega)) l[p]=true:=fun FO=>List.pairwise_iff_getElem.1 h.rise (p-1) p _ _ (by omega);refine⟨fun X=>W.grownBy X none,?_,fun w3 g3=>?_⟩
    · obtain⟨a,e1,e2,e3⟩:=at0 (gd (aC W none));refine⟨a,e1,by omega,by omega,_,e2,a,e1,by omega,by omega,_,e3,fun HB=>by omega,fun _=>⟨fun FO=>?_,fun _=>gd (aC W none)⟩⟩;obtain⟨h1,at1⟩:=at1 (by omega);obtain⟨b,b1,b2,b3⟩:=at1 (gd (aC W none));refine⟨by omega,b,b1,by omega,by omega,_,b2,_,b3,a,e1,by omega,by omega,_,e2,_,e3,(lK l[p-1] l[p]).mono fun ev w2 hh=>?_⟩;obtain⟨rfl,g2⟩:=hh;rw[JV (by omega)];exact⟨_,rfl,fun h=>(by cases h),fun _=>aA (gd (aC W none)) g2⟩
    refine⟨fun A' n' c' X=>A'=rA/\n'=rn/\c'=rc/\W.grownBy X none/\l[p].1≠u,⟨fun FO=>?_,fun hz=>⟨rfl,rfl,rfl,gd g3,by omega⟩⟩,?_⟩
    · obtain⟨h1,at1⟩:=at1 (by omega);obtain⟨a,e1,e2,e3⟩:=at0 (gd g3);obtain⟨b,b1,b2,b3⟩:=at1 (gd g3);obtain⟨Un,Io⟩:u=l[p-1].1/\v=l[p-1].2:=by
        rcases hu with h | ⟨_,_,h⟩
        · omega
        · exact h
      refine⟨by omega,b,b1,by omega,by omega,_,b2,a,e1,by omega,by omega,_,e2,fun FV=>?_,fun SY=>⟨rfl,rfl,rfl,gd g3,by omega⟩⟩;have IR:=dK.1 (JV (by omega));have re1:=h.right _ (List.getElem_mem h1);obtain⟨a',e1',e2',e3'⟩:=at0 (gd (gd g3));obtain⟨b',b1',b2',b3'⟩:=at1 (gd (gd g3));obtain⟨x,hx⟩:∃ x:Nat,x=(l[p].2-v-1).toNat:=⟨_,rfl⟩;have KA:l[p].2-l[p-1].2-1=(x:Int):=by omega
      refine⟨a',e1',by omega,by omega,_,e3',by omega,b',b1',by omega,by omega,_,b3',by omega,by omega,by omega,?_⟩;rw[KA];have gW2:=gd (gd g3);obtain⟨W2,KR⟩:∃ W2,W2=w3.drew.drew:=⟨_,rfl⟩;rw[← KR]at gW2 ⊢;have Ua:x<2^32:=by omega
      refine(sN [x] (by simp;omega) (by simp) _ rfl).mono fun ev w4 hh=>?_;obtain⟨B,nB,cB,rfl,oB,g4⟩:=hh;have PF:nB=(aX [x]).length:=by have h':=oB.cases.1;unfold bV at h';rw[List.length_map]at h';omega
      have HR:=fO (l:=[x]) (by simp;omega);have gW4:=aA gW2 g4;have oR4:=oR.kp (S:=fun _=>False) (Kp.of_none gW4) (fun _ _ e=>e);obtain⟨A5,n5,c5,w5,r5,o5,g5,_⟩:=aV oR4 oB.row PF (dp oB) (by simp at HR;omega) (aA g gW4).size;have RQ:dA (-1) 0 l=(dn++[x])++dA u l[p].2 (l.drop (p+1)):=by
        rw[hG,F9,jD _ _ _ _ (by omega),← hx,List.append_assoc];rfl
      have MG:eR (-1) l=k+eR u (l.drop (p+1)):=by
        rw[hC,F9,eR,if_pos (by omega)]
      refine⟨_,_,_,rfl,A5,n5,c5,w5,r5,by omega,_,?_,p+1,k,dn++[x],l[p].2,by omega,by omega,rfl,rfl,by omega,.inr ⟨by omega,by simpa using lp,by simp;omega,by simp⟩,RQ,MG,by simp;omega,by rw[eJ];exact o5,bZ (aA g gW4) g5 fun q hq=>(World.ownsRow.lt oR4 q hq).1⟩;omega
    rintro A' n' c' w6 ⟨rfl,rfl,rfl,g6,FG⟩;refine⟨fun n1 X=>n1=(fM l[p].1 (l.drop p):Int)/\W.grownBy X none,⟨fun m2 q X=>∃ q':Nat,q=(q':Int)/\p+q'<=l.length/\m2=l.length-q'/\fM l[p].1 (l.drop p)=q'+fM l[p].1 (l.drop (p+q'))/\W.grownBy X none,⟨_,0,rfl,by omega,rfl,by simp,g6⟩,?_⟩,?_⟩
    · rintro m2 q w7 ⟨q',rfl,hq,rfl,GC,g7⟩;refine⟨by omega,fun Gn=>?_,fun HV=>⟨?_,gd g7⟩⟩
      · have lq:p+q'<l.length:=by omega
        obtain⟨a,e1,e2,e3⟩:=ez (hr.kept_none (aA g (gd g7))) lq;obtain⟨b,b1,b2,b3⟩:=at0 (gd g7);have e:((p:Int)+(q':Int)).toNat=p+q':=by omega
        have Tc:=List.drop_eq_getElem_cons lq;rw[e];refine⟨by omega,a,e1,by omega,by omega,_,e2,b,b1,by omega,by omega,_,b2,fun hs=>⟨by omega,_,?_,q'+1,by omega,by omega,rfl,?_,gd g7⟩,fun hd=>⟨?_,gd g7⟩⟩
        · omega
        · rw[Tc,ek,if_pos hs]at GC;rw[GC,show p+(q'+1)=p+q'+1 by omega];omega
        · rw[Tc,ek,if_neg hd]at GC;omega
      · have:p+q'=l.length:=by omega
        rw[this,List.drop_length]at GC;simp[fM]at GC ⊢;omega
    rintro n1 w8 ⟨rfl,g8⟩;have Hw:=sM l[p].1 (l.drop p);rw[List.length_drop]at Hw;obtain⟨a,e1,e2,e3⟩:=at0 (gd g8);have Sj:-1<=u/\u<l[p].1:=by
      rcases hu with⟨h0,h1,_⟩ | ⟨h0,h1,h2,_⟩
      · omega
      · have:=dK.1 (JV h0);have:=h.right _ (List.getElem_mem h1);omega
    obtain⟨x,hx⟩:∃ x:Nat,x=(l[p].1-u-1).toNat:=⟨_,rfl⟩;obtain⟨y,hy⟩:∃ y:Nat,y=fM l[p].1 (l.drop p):=⟨_,rfl⟩;obtain⟨z,hz⟩:∃ z:Nat,z=(l[p].2-l[p].1-1).toNat:=⟨_,rfl⟩;have KA:l[p].1-u-1=(x:Int):=by omega
    have T0:l[p].2-l[p].1-1=(z:Int):=by omega
    rw[← hy]at Hw ⊢;refine⟨a,e1,by omega,by omega,_,e2,by omega,by omega,by omega,by omega,by omega,a,e1,by omega,by omega,_,e3,a,e1,by omega,by omega,_,e2,by omega,by omega,by omega,?_⟩;rw[KA,T0];have g8':=gd g8;obtain⟨W4,PN⟩:∃ W4,W4=w8.drew:=⟨_,rfl⟩;rw[← PN]at g8' ⊢;have Lt:∀ t∈[x,y,z],t<2^64:=by
      intro t ht;simp at ht;rcases ht with rfl | rfl | rfl <;>omega
    refine(sN [x,y,z] Lt (by simp) _ rfl).mono fun ev w9 hh=>?_;obtain⟨B,nB,cB,rfl,oB,g9⟩:=hh;have PF:nB=(aX [x,y,z]).length:=by have h':=oB.cases.1;unfold bV at h';rw[List.length_map]at h';omega
    have HR:=fO Lt;have gW9:=aA g8' g9;have oR9:=oR.kp (S:=fun _=>False) (Kp.of_none gW9) (fun _ _ e=>e);obtain⟨A5,n5,c5,w5,r5,o5,g5,_⟩:=aV oR9 oB.row PF (dp oB) (by simp at HR;omega) (aA g gW9).size;have gW5:=bZ (aA g gW9) g5 fun q hq=>(World.ownsRow.lt oR9 q hq).1;obtain⟨a',e1',e2',e3'⟩:=ez (hr.kept_none (gd gW5)) lp;have RQ:dA (-1) 0 l=(dn++[x,y,z])++dA l[p].1 l[p].2 (l.drop (p+1)):=by
      rw[hG,F9,nS _ _ _ _ FG,jD _ _ _ _ rfl,← F9,← hx,← hy,← hz,List.append_assoc];rfl
    have MG:eR (-1) l=(k+1)+eR l[p].1 (l.drop (p+1)):=by
      rw[hC,F9,eR,if_neg FG];omega
    refine⟨_,_,_,rfl,A5,n5,c5,w5,r5,by omega,a',e1',by omega,by omega,_,e2',by omega,by omega,_,?_,p+1,k+1,dn++[x,y,z],l[p].2,by omega,by omega,rfl,by omega,by omega,.inr ⟨by omega,by simpa using lp,by simp,by simp⟩,RQ,MG,by simp;omega,?_,gd gW5⟩
    · omega
    · rw[eJ];exact o5.kp (S:=fun _=>False) (Kp.of_none (aH (aC _ none))) (fun _ _ e=>e)
  · have Ih:p=l.length:=by omega
    subst Ih;rw[List.drop_length]at hG hC;simp only[dA,eR,List.append_nil,Nat.add_zero]at hG hC;refine⟨by omega,(sN [k] (by simp;omega) (by simp) _ rfl).mono fun ev w4 hh=>?_⟩;obtain⟨B,nB,cB,rfl,oB,g4⟩:=hh;have PF:nB=(aX [k]).length:=by have h':=oB.cases.1;unfold bV at h';rw[List.length_map]at h';omega
    have HR:=fO (l:=[k]) (by simp;omega);have oR4:=oR.kp (S:=fun _=>False) (Kp.of_none g4) (fun _ _ e=>e);obtain⟨A5,n5,c5,w5,r5,o5,g5,_⟩:=aV oB oR4.row NK (dp oR4) (by simp at HR;omega) g4.size;refine⟨_,_,_,rfl,A5,n5,c5,w5,r5,A5,n5,c5,rfl,?_,bZ (aA g g4) g5 fun q hq=>Nat.le_trans g.size (World.ownsRow.lt oB q hq).1⟩;have:fF l=aX [k]++aX dn:=by
      unfold fF uR;rw[hG,hC,dm,dm,kE,List.append_nil]
    rw[this];exact o5.mono g.size
theorem vd{w:World}{v:Nat}(hv:v<2^64):Calls P 158 #[.int .u64 (v:Int)] w fun ev w'=>ev=.returned (.int .i64 (blen v:Int))/\w'=w:=by
 apply vc158;dsimp only[VC158,Br,iq]
 try simp only[aF]
 have hb:=jz (v:=v) (k:=64) hv;refine⟨fun m u n W=>∃ x k:Nat,u=(x:Int)/\n=(k:Int)/\m=x/\blen v=k+blen x/\W=w,⟨_,v,0,rfl,rfl,rfl,by omega,rfl⟩,?_⟩;rintro m u n W ⟨x,k,rfl,rfl,rfl,hk,rfl⟩;refine⟨fun hp=>?_,fun hz=>?_⟩
 ·rw[uO (v:=m) (by omega)]at hk;refine⟨by omega,by omega,m / 2,by omega,m / 2,k+1,by omega,by omega,rfl,by omega,rfl⟩
 ·have:m=0:=by omega
  subst this;rw[kZ]at hk;exact⟨by rw[hk];rfl,rfl⟩
theorem xX{w:World}{base g v:Nat}{bits:List Bool}(h:zj w base g bits)(hv:0<v/\v<2^64)(hl:bits.length<=2^29)(FL:base<=w.heap.size):
    Calls P 114 #[.pointer (some ⟨g,0,none⟩),.int .u64 (v:Int)] w fun ev w'=>ev=.returned (.tuple #[])/\zj w' base g (bits++da v)/\Kp w w' (u4 w base [178,4]):=by
  apply vc114;dsimp only[VC114,rt,Br,cI,cU,iq]
  try simp only[aF]
  have hb:=(fR v).2 hv.1;have FX:=jz (v:=v) (k:=64) hv.2;refine(vd hv.2).mono fun ev w1 hh=>?_;obtain⟨rfl,rfl⟩:=hh;have e:(blen v:Int)-1=((blen v-1:Nat):Int):=by omega
  refine⟨_,rfl,fun _=>⟨by omega,?_⟩,fun h=>absurd h (by omega)⟩;rw[e];refine(lx (v:=0) (n:=blen v-1) h (by omega) (by omega) (by omega) FL).mono fun ev w2 hh=>?_;obtain⟨rfl,h2,k2⟩:=hh;rw[nu]at h2;refine⟨rfl,(lx (v:=(v:Int)) (n:=blen v) h2 (by omega) FX (by simp;omega) (Nat.le_trans FL k2.size)).mono fun ev w3 hh=>?_⟩;obtain⟨rfl,h3,k3⟩:=hh;refine⟨rfl,by trivial,?_,k2.tysThen k3⟩;unfold da;rw[← List.append_assoc];exact h3
structure zl(w X:World)(gL gE:Nat)(q e:aW)(bits:List Bool):Prop where
 wr:zj X w.heap.size w.heap.size bits
 last:X.heap[gL]?=some (.cells #[.int .i64 q.t,.int .u32 q.u,.int .u32 q.v,.bool q.add] 62 (0,0))
 cur:X.heap[gE]?=some (.cells #[.int .i64 e.t,.int .u32 e.u,.int .u32 e.v,.bool e.add] 62 (0,0))
 gr:w.grownBy X none
theorem Ar:62 ∉ [178,4]:=by decide
theorem zl.kept{w X Y:World}{gL gE:Nat}{q e:aW}{bits:List Bool}(h:zl w X gL gE q e bits)(hg:X.grownBy Y none):zl w Y gL gE q e bits:=⟨h.wr.kept hg,aI h.last hg,aI h.cur hg,aA h.gr hg⟩
theorem zl.to{w X Y:World}{gL gE:Nat}{q e:aW}{bits bits':List Bool}(h:zl w X gL gE q e bits)(h2:zj Y w.heap.size w.heap.size bits')(K:Kp X Y (u4 X w.heap.size [178,4])):zl w Y gL gE q e bits' :=
 ⟨h2,by rw[K.block gL (Array.getElem?_eq_some_iff.1 h.last).1 (pO h.last Ar)];exact h.last,by rw[K.block gE (Array.getElem?_eq_some_iff.1 h.cur).1 (pO h.cur Ar)];exact h.cur,((Kp.of_none (S:=fun k=>w.heap.size<=k) h.gr).then K (fun k _ h=>h.1)).grown (fun k hk e=>by omega)⟩
theorem zl.gam{w X:World}{gL gE v:Nat}{q e:aW}{bits:List Bool}(h:zl w X gL gE q e bits)(hv:0<v/\v<2^64)(hl:bits.length<=2^29):
    Calls P 114 #[.pointer (some ⟨w.heap.size,0,none⟩),.int .u64 (v:Int)] X fun ev Y=>ev=.returned (.tuple #[])/\zl w Y gL gE q e (bits++da v) :=
  (xX h.wr hv hl h.gr.size).mono fun ev Y hh=>⟨hh.1,h.to hh.2.1 hh.2.2⟩
theorem zl.bit{w X:World}{gL gE:Nat}{q e:aW}{bits:List Bool}(h:zl w X gL gE q e bits)(b:Bool)(hl:bits.length<=2^29):
    Calls P 115 #[.pointer (some ⟨w.heap.size,0,none⟩),.int .u64 (eS b),.int .i64 1] X fun ev Y=>ev=.returned (.tuple #[])/\zl w Y gL gE q e (bits++[b]):=by
  have hb:=ff b;refine(lx (v:=eS b) (n:=1) h.wr (by omega) (by omega) (by omega) h.gr.size).mono fun ev Y hh=>⟨hh.1,?_⟩;have Gu:cF (eS b) 1=[b]:=by cases b <;>rfl
  rw[← Gu];exact h.to hh.2.1 hh.2.2
theorem rf {w:World} {A:OA} {n c:Nat} {l:List aW} {t0:Int} (hr:aZ w A (cE l)) (hn:n=l.length) (hl:n<=2^19) (hD:dV t0 none l) :
    Calls P 78 #[.int .i64 t0,.slice A n c] w fun ev w'=>∃(A':OA)(n' c':Nat),ev=.returned (.tuple #[.slice A' n' c',.int .i64 0])/\aE w' w.heap.size 5 1 A' n' c' (bV (db t0 l))/\w.grownBy w' none:=by
  apply vc78;dsimp only[VC78,rt,Wt,Br,Bb,Rd,Ix,Ws,cB,cS,cU,nb,ad,al,iq]
  try simp only[aF]
  have FI:=iX (fun q hq=>by cases hq) hD;have hb:=hD.evtsB;obtain⟨w1,FH,g1,b1⟩:=fZ w #[.slice none 0 0] 178;rw[← FH];have s0:=heap_alloc_new w1 (.cells #[.int .i64 0,.int .u32 0,.int .u32 0,.bool false] 62);have s1:=aG s0 0 (.int .i64 t0);have s2:=aG s1 1 (.int .u32 0);have s3:=aG s2 2 (.int .u32 0);have s4:=aG s3 3 (.bool false);have g2:w1.grownBy (((((w1.alloc (.cells #[.int .i64 0,.int .u32 0,.int .u32 0,.bool false] 62)).setCell ⟨w1.heap.size,0,none⟩ (.int .i64 t0)).setCell ⟨w1.heap.size,1,none⟩ (.int .u32 0)).setCell ⟨w1.heap.size,2,none⟩ (.int .u32 0)).setCell ⟨w1.heap.size,3,none⟩ (.bool false)) none:=(bK (bK (bK (bK (Kp.of_none (S:=fun k=>w1.heap.size<=k) (gK (aC w1 none) _)) (Nat.le_refl _)) (Nat.le_refl _)) (Nat.le_refl _)) (Nat.le_refl _)).grown (fun k hk e=>by omega);refine⟨⟨_,aB s0 0⟩,aD s0 0,⟨_,aB s1 1⟩,aD s1 1,⟨_,aB s2 2⟩,aD s2 2,⟨_,aB s3 3⟩,aD s3 3,?_⟩;obtain⟨w2,HS⟩:∃ w2,w2=((((w1.alloc (.cells #[.int .i64 0,.int .u32 0,.int .u32 0,.bool false] 62)).setCell ⟨w1.heap.size,0,none⟩ (.int .i64 t0)).setCell ⟨w1.heap.size,1,none⟩ (.int .u32 0)).setCell ⟨w1.heap.size,2,none⟩ (.int .u32 0)).setCell ⟨w1.heap.size,3,none⟩ (.bool false):=⟨_,rfl⟩;have b2:w2.heap[w1.heap.size]?=some (.cells #[.int .i64 t0,.int .u32 0,.int .u32 0,.bool false] 62 (0,0)):=by rw[HS];simpa using s4
  rw[← HS]at g2 ⊢;have R2:zj w2 w.heap.size w.heap.size []:=⟨none,0,0,aI b1 g2,Nat.le_refl _,aE.nil _ _ _ _⟩;refine⟨fun m i W=>∃ p:Nat,i=(p:Int)/\p<=l.length/\m=l.length-p/\w.grownBy W none/\zj W w.heap.size w.heap.size (cX t0 none (l.take p))/\W.heap[w1.heap.size]?=some (.cells #[.int .i64 (aY t0 (cW (l.take p) none)).t,.int .u32 (aY t0 (cW (l.take p) none)).u,.int .u32 (aY t0 (cW (l.take p) none)).v,.bool (aY t0 (cW (l.take p) none)).add] 62 (0,0)),
    ⟨_,0,rfl,by omega,rfl,aA g1 g2,by simpa[cX]using R2,by simpa[cW,aY]using b2⟩,?_⟩
  rintro m i w4 ⟨p,rfl,hp,rfl,hg,hW,hL⟩;have tp:(p:Int).toNat=p:=by omega
  rw[tp];refine⟨fun FE=>?_,fun FJ=>?_⟩
  · have lp:p<l.length:=by omega
    have JK:l=l.take p++(l[p] ::l.drop (p+1)):=by rw[← List.drop_eq_getElem_cons lp,List.take_append_drop]
    have Kc:=hD;rw[JK,dV.append]at Kc;obtain⟨PW,Jf,_⟩:=Kc;have Ot:=iX (fun q hq=>by cases hq) PW;have JA:(l.take p).length<=2^19:=by rw[List.length_take];omega
    have Gi:∀ q,cW (l.take p) none=some q->q∈l:=by
      intro q hq;cases p with
      | zero=>simp[cW]at hq
      | succ p =>
        rw[List.take_succ_eq_append_getElem (show p<l.length by omega),eQ]at hq;cases hq;exact List.getElem_mem _
    have Ip:p≠0->(cW (l.take p) none).isSome=true:=by
      intro h0;cases p with
      | zero=>omega
      | succ p=>rw[List.take_succ_eq_append_getElem (show p<l.length by omega),eQ];rfl
    have G6:p=0->(cW (l.take p) none).isSome=false:=by rintro rfl;simp[cW]
    have hd:kl t0 none l=true:=(jN hb).2 hD;have Ka:iG (cW (l.take p) none):=by
      intro q hq;have h1:=hb.mem (Gi q hq);have h2:=(jm.1 hd).1 _ (Gi _ hq);omega
    have Gl:∀ q,cW (l.take p) none=some q->q.u<=4294967295/\q.v<=4294967295:=fun q hq=>by have:=hb.mem (Gi q hq);omega
    obtain⟨e,he⟩:∃ e,e=l[p]:=⟨_,rfl⟩;rw[← he]at Jf;have HE:l.take (p+1)=l.take p++[e]:=by rw[List.take_succ_eq_append_getElem lp,he]
    obtain⟨a,e1,e2,e3,e4,e5⟩:=eE (hr.kept_none hg) lp;rw[← he]at e2 e3 e4 e5;generalize UJ:cW (l.take p) none=pv at *;have GA:=Jf.nums Ka;have OH:=xk Ka Jf;have Jd:iG pv->(pv.isSome=true->bN (aY t0 pv) e=true)/\(pv.isSome=false->e.t=t0):=fun _=>by
      have h3:=Jf.2.2;cases pv with
      | none=>exact⟨fun h=>(by cases h),fun _=>h3⟩
      | some q=>exact⟨fun _=>h3,fun h=>by cases h⟩
    obtain⟨Jd,Hb⟩:=Jd Ka;obtain⟨h1,h2,h3⟩:=Jf;have hq:0<=(aY t0 pv).t/\0<=(aY t0 pv).u/\(aY t0 pv).u<=4294967295/\0<=(aY t0 pv).v/\(aY t0 pv).v<=4294967295/\(aY t0 pv).t<=e.t/\(pv.isSome=true->e.t=(aY t0 pv).t->(aY t0 pv).u<e.u∨(aY t0 pv).u=e.u/\(aY t0 pv).v<e.v):=by
      cases pv with
      | none=>simp only at h3;simp[aY];omega
      | some q =>
        have a1:=Ka q rfl;have a2:=Gl q rfl;simp only[dU]at h3;simp only[aY,Option.getD_some];refine⟨by omega,by omega,by omega,by omega,by omega,by omega,fun _ _=>by omega⟩
    have hG:=mc t0 pv e;have hF:=md t0 pv e;have hS:=ma t0 pv e;generalize Sq:aY t0 pv=q at *;generalize IG:pv.isSome=any at *;obtain⟨bits,Gg⟩:∃ bits,bits=cX t0 none (l.take p):=⟨_,rfl⟩;obtain⟨gap,JY⟩:∃ x,x=gi t0 pv e:=⟨_,rfl⟩;obtain⟨fst,IA⟩:∃ x,x=jj pv e:=⟨_,rfl⟩;obtain⟨snd,Iq⟩:∃ x,x=iL pv e:=⟨_,rfl⟩;have KO:qM t0 pv e=da gap++(e.add ::(da fst++da snd)):=by unfold qM;rw[JY,IA,Iq]
    rw[← JY]at hG GA;rw[← IA]at hF GA;rw[← Iq]at hS GA;rw[KO]at OH;simp only[List.length_append,List.length_cons]at OH;rw[← Gg]at Ot hW;have Q4:0<gap:=by rw[hG];omega
    obtain⟨w5,hE,pE0,qE0,pE1,qE1,pE2,qE2,pE3,qE3,bE,gE⟩:=nY w4 62 (.int .i64 0) (.int .u32 0) (.int .u32 0) (.bool false) (.int .i64 e.t) (.int .u32 e.u) (.int .u32 e.v) (.bool e.add);refine⟨a,e1,by omega,by omega,_,e2,_,e3,_,e4,_,e5,pE0,qE0,pE1,qE1,pE2,qE2,pE3,qE3,?_⟩;rw[← hE];have D0:zl w w5 w1.heap.size w4.heap.size q e bits:=⟨hW.kept gE,aI hL gE,bE,aA hg gE⟩;refine⟨fun X=>w5.grownBy X none,⟨_,aB D0.cur 0,fun h=>by omega,fun _=>⟨_,aB D0.cur 0,fun h=>by omega,fun _=>⟨_,aB D0.cur 1,_,aB D0.cur 2,fun h=>by omega,fun _=>⟨fun h0=>?_,fun h0=>⟨fun FO=>?_,fun h=>by omega⟩⟩⟩⟩⟩,?_⟩
    · have:=Hb (G6 (by omega));exact⟨_,aB D0.cur 0,fun h=>absurd this h,fun _=>⟨fun h=>by omega,fun _=>aC _ _⟩⟩
    · refine⟨_,aB D0.last 0,_,aB D0.last 1,_,aB D0.last 2,_,aB D0.last 3,_,aB D0.cur 0,_,aB D0.cur 1,_,aB D0.cur 2,_,aB D0.cur 3,(ml q e).mono fun ev w6 hh=>?_⟩;obtain⟨rfl,g6⟩:=hh;rw[Jd (Ip (by omega))];exact⟨_,rfl,fun h=>(by cases h),fun _=>g6⟩
    intro w6 g6;have D6:=D0.kept g6;have kgap:e.t-q.t+1=(gap:Int):=by rw[hG];omega
    refine⟨_,aB D6.cur 0,_,aB D6.last 0,by omega,by omega,by omega,?_⟩;rw[kgap];refine(D6.gam ⟨Q4,by omega⟩ (by omega)).mono fun ev w7 hh=>?_;obtain⟨rfl,D7⟩:=hh;refine⟨rfl,fun s w'=>s=eS e.add/\w'=w7,⟨_,aB D7.cur 3,fun ha=>⟨by rw[ha];rfl,rfl⟩,fun ha=>⟨by rw[ha];rfl,rfl⟩⟩,?_⟩;rintro s w7' ⟨rfl,rfl⟩;refine(D7.bit e.add (by simp;omega)).mono fun ev w8 hh=>?_;obtain⟨rfl,D8⟩:=hh;have D9:=D8.kept (aH (aC w8 none));obtain⟨w9,LB⟩:∃ w9,w9=w8.drew:=⟨_,rfl⟩;rw[← LB]at D9 ⊢;have l9:(bits++da gap++[e.add]).length+(da fst).length<=2^29:=by simp;omega
    have two:∀ {u v:Int},u=(fst:Int)->v=(snd:Int)->∀ {X:World} {R:World->Prop},zl w X w1.heap.size w4.heap.size q e (bits++da gap++[e.add]++da fst)->(∀ Y,zl w Y w1.heap.size w4.heap.size q e (bits++da gap++[e.add]++da fst++da snd)->R Y)->Calls P 114 #[.pointer (some ⟨w.heap.size,0,none⟩),.int .u64 v] X fun ev Y=>ev=.returned (.tuple #[])/\R Y:=by
      rintro u v rfl rfl X R hX hR;exact(hX.gam ⟨GA.2.2.1,by omega⟩ (by rw[List.length_append];exact l9)).mono fun ev Y hh=>⟨hh.1,hR Y hh.2⟩
    have one:∀ {u:Int},u=(fst:Int)->∀ {R:World->Prop},(∀ Y,zl w Y w1.heap.size w4.heap.size q e (bits++da gap++[e.add]++da fst)->R Y)->Calls P 114 #[.pointer (some ⟨w.heap.size,0,none⟩),.int .u64 u] w9 fun ev Y=>ev=.returned (.tuple #[])/\R Y:=by
      rintro u rfl R hR;exact(D9.gam ⟨GA.2.1.1,by omega⟩ (by omega)).mono fun ev Y hh=>⟨hh.1,hR Y hh.2⟩
    refine⟨rfl,_,aB D9.cur 1,by omega,_,aB D9.cur 2,by omega,fun Y=>zl w Y w1.heap.size w4.heap.size q e (bits++da gap++[e.add]++da fst++da snd),⟨fun h0=>?_,fun h0=>⟨_,aB D9.cur 0,_,aB D9.last 0,fun FG=>?_,fun GZ=>⟨_,aB D9.cur 1,_,aB D9.last 1,fun hs=>?_,fun hs=>?_⟩⟩⟩,?_⟩
    · have GK:=G6 (by omega);rw[GK]at hF hS;simp only[Bool.false_eq_true,false_and,if_false]at hF hS;exact⟨by omega,one (by omega) fun Y D=>⟨by omega,two (u:=fst) rfl (by omega) D fun Z D=>D⟩⟩
    · rw[if_neg (fun h=>FG h.2)]at hF hS;exact⟨by omega,one (by omega) fun Y D=>⟨by omega,two (u:=fst) rfl (by omega) D fun Z D=>D⟩⟩
    · have GZ:e.t=q.t:=by omega
      have Hg:=Ip (by omega);have ho:=hq.2.2.2.2.2.2 Hg GZ;rw[if_pos ⟨Hg,GZ⟩]at hF hS;rw[if_pos hs]at hS;exact one (by omega) fun Y D=>⟨_,aB D.last 2,by omega,by omega,two (u:=fst) rfl (by omega) D fun Z D=>D⟩
    · have GZ:e.t=q.t:=by omega
      have Hg:=Ip (by omega);have ho:=hq.2.2.2.2.2.2 Hg GZ;rw[if_pos ⟨Hg,GZ⟩]at hF hS;rw[if_neg hs]at hS;exact⟨_,aB D9.last 1,by omega,by omega,by omega,one (by omega) fun Y D=>⟨by omega,two (u:=fst) rfl (by omega) D fun Z D=>D⟩⟩
    intro X D;have t1:=aG D.last 0 (.int .i64 e.t);have t2:=aG t1 1 (.int .u32 e.u);have t3:=aG t2 2 (.int .u32 e.v);have t4:=aG t3 3 (.bool e.add);have K:Kp X ((((X.setCell ⟨w1.heap.size,0,none⟩ (.int .i64 e.t)).setCell ⟨w1.heap.size,1,none⟩ (.int .u32 e.u)).setCell ⟨w1.heap.size,2,none⟩ (.int .u32 e.v)).setCell ⟨w1.heap.size,3,none⟩ (.bool e.add)) (fun k=>k=w1.heap.size):=bK (bK (bK (bK (Kp.refl X _) rfl) rfl) rfl) rfl;refine⟨_,aB D.cur 0,_,aB D.cur 1,_,aB D.cur 2,_,aB D.cur 3,⟨_,aB D.last 0⟩,aD D.last 0,⟨_,aB t1 1⟩,aD t1 1,⟨_,aB t2 2⟩,aD t2 2,⟨_,aB t3 3⟩,aD t3 3,by omega,_,?_,p+1,by omega,by omega,rfl,?_,?_,?_⟩
    · omega
    · have hz:=g1.size;exact((Kp.of_none (S:=fun k=>w.heap.size<=k) D.gr).then K (fun k _ h=>by omega)).grown (fun k hk e=>by omega)
    · rw[HE,iE,UJ];have:cX t0 pv [e]=qM t0 pv e:=by simp[cX]
      rw[this,KO,← Gg];have:bits++(da gap++(e.add ::(da fst++da snd)))=bits++da gap++[e.add]++da fst++da snd:=by simp[List.append_assoc]
      rw[this];refine D.wr.kp K (fun k hk ht e=>?_);subst e;exact pO D.last Ar ht
    · rw[HE,eQ];simp only[aY,Option.getD_some];simpa using t4
  · have:p=l.length:=by omega
    subst this;rw[List.take_length]at hW;refine(pL hW (by omega) hg.size).mono fun ev w5 hh=>?_;obtain⟨A',n',c',rfl,o,g⟩:=hh;exact⟨_,_,_,rfl,_,_,_,rfl,o.mono hg.size,aA hg g⟩
theorem vg{W:World}{bs n c:Nat}{A:OA}{l:List Edge}(h:aE W bs 45 2 A n c (edges l)):n=l.length/\n<=c/\(A=none->c=0):=by
 have h':=h.cases.1;rw[dl]at h';refine⟨by omega,?_,dp h⟩;rcases h.cases.2 with⟨_,h1,h2,_⟩ | ⟨_,_,_,_,_,h1,_⟩ <;>omega
theorem Al{key:List Edge}{l:List aW}{e:aW}:fq key (l++[e])=(fq key l && (cu (dH l key) e).isSome):=by
 rw[l8];congr 1;unfold fq;cases cu (dH l key) e <;>simp[fq]
theorem Ak{key:List Edge}{l:List aW}(p:Nat)(h:fq key (l.take p)=false):fq key l=false:=by
 have:=l8 (l:=l.take p) (m:=l.drop p) (now:=key);rw[List.take_append_drop,h]at this;simpa using this
def CB(key:List Edge)(l:List aW):Int:=if fq key l=true then 0 else 25
def CA(t0:Int)(key:List Edge)(l:List aW):List Int:=if fq key l=true then dY t0 key l else []
theorem zG{w:World}{A B:OA}{n c m d:Nat}{key:List Edge}{l:List aW}{t0:Int}(hA:aZ w A (edges key))(hn:n=key.length)(MX:n<=c)(WK:A=none->c=0)(hB:aZ w B (cE l))(hm:m=l.length)(IM:n<=2^14)(PI:m<=2^12)
    (hk:nz key) (hD:dV t0 none l) (FG:l≠[]) :
    Calls P 41 #[.slice A n c,.slice B m d] w fun ev w'=>∃(A':OA)(n' c':Nat),ev=.returned (.tuple #[.slice A' n' c',.int .i64 (CB key l)])/\aE w' w.heap.size 5 1 A' n' c' (bV (CA t0 key l))/\w.grownBy w' none:=by
  apply vc41;dsimp only[VC41,rt,Br,Rd,Ix,Ap,cS,cT,nb,ad,al,iq]
  try simp only[aF]
  refine(tP hA hn (by omega) hk).mono fun ev w1 hh=>?_;obtain⟨A1,n1,c1,rfl,o1,g1⟩:=hh;have FO:0<l.length:=List.length_pos_iff.2 FG;have LK:=hD.t0 FG;have Jx:∃ b,B=some b:=by obtain⟨b,e,_⟩:=eE hB FO;exact⟨b,e⟩
  obtain⟨b,hb⟩:=Jx;have Hb:=Bq (hb▸hB) FG g1;rw[LK]at Hb;refine⟨_,_,_,_,rfl,fun h=>absurd rfl h,fun _=>⟨fun h=>by omega,fun _=>⟨b,hb,by omega,by omega,t0,Hb,(rf (hB.kept_none g1) hm (by omega) hD).mono fun ev w2 hh=>?_⟩⟩⟩;obtain⟨A2,n2,c2,rfl,o2,g2⟩:=hh;have GQ:=aA g1 g2;have Ry:=jQ hk.edgesB hk.len;have I2:=(fE hD).1;have HU:n1=(fF key).length:=by have h':=o1.cases.1;unfold bV at h';rw[List.length_map]at h';omega
  have Hp:n2=(db t0 l).length:=by have h':=o2.cases.1;unfold bV at h';rw[List.length_map]at h';omega
  refine⟨_,_,_,_,rfl,fun h=>absurd rfl h,fun _=>⟨fun q nA nn nc i W=>∃ p:Nat,i=(p:Int)/\p<=l.length/\q=l.length-p/\fq key (l.take p)=true/\aZ W nA (edges (dH (l.take p) key))/\nn=(dH (l.take p) key).length/\nn<=nc/\(nA=none->nc=0)/\w.grownBy W none/\w2.grownBy W none,⟨_,0,rfl,by omega,rfl,by simp[fq],by simpa[dH]using hA.kept_none GQ,by simpa[dH]using hn,MX,WK,GQ,aC _ _⟩,?_⟩⟩;rintro q nA nn nc i W ⟨p,rfl,hp,rfl,Gy,Gm,Iu,Qx,UY,gW,g2W⟩;have tp:(p:Int).toNat=p:=by omega
  rw[tp];have M8:=iW (l.take p) key;rw[List.length_take]at M8;refine⟨fun FE=>?_,fun FJ=>?_⟩
  · have lp:p<l.length:=by omega
    obtain⟨a,e1,e2,e3,e4,e5⟩:=eE (hB.kept_none gW) lp;have HE:l.take (p+1)=l.take p++[l[p]]:=List.take_succ_eq_append_getElem lp;have Hj:=Al (key:=key) (l:=l.take p) (e:=l[p]);rw[← HE,Gy,Bool.true_and]at Hj;refine⟨a,e1,by omega,by omega,_,e2,_,e3,_,e4,_,e5,(ll (e:=l[p]) Gm Iu Qx UY (by omega)).mono fun ev w4 hh=>?_⟩;obtain⟨A4,n4,c4,rfl,o4,g4⟩:=hh;refine⟨_,_,_,_,rfl,fun GK=>?_,fun P2=>⟨by omega,_,?_,p+1,by omega,by omega,rfl,?_,?_,?_,?_,dp o4,aA gW g4,aA g2W g4⟩⟩
    · rw[GK]at Hj;have:=Ak _ Hj;refine⟨none,0,0,?_,?_,aA gW g4⟩
      · unfold CB;rw[if_neg (by rw[this];simp)]
      · unfold CA;rw[if_neg (by rw[this];simp)];exact aE.nil _ _ _ _
    · omega
    · rw[Hj];exact eq_true_of_ne_false P2
    · rw[HE,pq];exact o4.row
    · have h':=o4.cases.1;rw[dl]at h';rw[HE,pq];omega
    · rcases o4.cases.2 with⟨_,h1,h2,_⟩ | ⟨_,_,_,_,_,h1,_⟩ <;>omega
  · have Ih:p=l.length:=by omega
    subst Ih;rw[List.take_length]at Gy;have RR:CB key l=0:=by unfold CB;rw[if_pos Gy]
    have Pc:CA t0 key l=dY t0 key l:=by unfold CA;rw[if_pos Gy]
    rw[RR,Pc];have o1W:=o1.kp (S:=fun _=>False) (Kp.of_none (aA g2 g2W)) (fun _ _ e=>e);refine(mL o1W.row HU (dx _) (by omega)).mono fun ev w5 hh=>?_;obtain⟨A5,n5,c5,rfl,o5,g5⟩:=hh;have IN:n5=(cy (fF key)).length:=by have h':=o5.cases.1;unfold bV at h';rw[List.length_map]at h';omega
    have Lo:=fv (dx key) (by omega);refine⟨_,_,_,rfl,by omega,(sN [n5] (by simp;omega) (by simp) _ rfl).mono fun ev w6 hh=>?_⟩;obtain⟨A6,n6,c6,rfl,o6,g6⟩:=hh;have MM:=o5.kp (S:=fun _=>False) (Kp.of_none g6) (fun _ _ e=>e);have JM:=fO (l:=[n5]) (by simp;omega);simp only[List.length_cons,List.length_nil]at JM;have Lk:n6=(aX [n5]).length:=by have h':=o6.cases.1;unfold bV at h';rw[List.length_map]at h';omega
    obtain⟨A7,n7,c7,w7,r7,o7,g7,e7⟩:=aV o6 MM.row IN (dp MM) (by omega) g6.size;have RZ:=bZ g6 g7 fun q hq=>(World.ownsRow.lt o6 q hq).1;have o2W:=o2.kp (S:=fun _=>False) (Kp.of_none (aA g2W (aA g5 RZ))) (fun _ _ e=>e);refine⟨_,_,_,rfl,A7,n7,c7,w7,r7,(mL o2W.row Hp (cA _ _) (by omega)).mono fun ev w8 hh=>?_⟩;obtain⟨A8,n8,c8,rfl,o8,g8⟩:=hh;have JS:n8=(cy (db t0 l)).length:=by have h':=o8.cases.1;unfold bV at h';rw[List.length_map]at h';omega
    have Xk:=fv (cA t0 l) (by omega);have Nm:=o7.kp (S:=fun _=>False) (Kp.of_none g8) (fun _ _ e=>e);have SQ:=aA RZ g8;obtain⟨A9,n9,c9,w9,r9,o9,g9,_⟩:=aV Nm o8.row JS (dp o8) (by omega) SQ.size;have WR:=bZ SQ g9 fun q hq=>(World.ownsRow.lt Nm q hq).1;have KL:dY t0 key l=aX [n5]++cy (fF key)++cy (db t0 l):=by
      unfold dY;rw[dm,kE,List.append_nil,IN,List.append_assoc]
    refine⟨_,_,_,rfl,A9,n9,c9,w9,r9,A9,n9,c9,rfl,?_,aA gW (aA g5 WR)⟩;rw[KL];exact o9.mono (aA gW g5).size
end Go.Proofs.YtlieaecnllkefaaGreat
