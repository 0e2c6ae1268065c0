/- Own texts, packed: U1, U2, U3, U4, U5, U6, U7. -/
import Derived.Test.YtlieaecnllkefaaGreatGPg
import Derived.Test.YtlieaecnllkefaaGreatGOg
import Derived.Test.YtlieaecnllkefaaGreatGYg
import Derived.Test.YtlieaecnllkefaaGreatGZg
set_option linter.unusedVariables false
set_option linter.unusedSimpArgs false
set_option maxHeartbeats 4000000
set_option maxRecDepth 100000
namespace Go.Proofs.YtlieaecnllkefaaGreat
open Go Go.V Go.RowKit
theorem B7{w:World}(x:Nat):aZ (w.alloc (.cells #[.int .u64 (x:Int)] 22)) (some ⟨w.heap.size,0,none⟩) (kr [x]):=fz w #[.int .u64 (x:Int)] 22 (0,0)
theorem B0{w:World}(x y:Nat):aZ (w.alloc (.cells #[.int .u64 (x:Int),.int .u64 (y:Int)] 22)) (some ⟨w.heap.size,0,none⟩) (kr [x,y]):=fz w #[.int .u64 (x:Int),.int .u64 (y:Int)] 22 (0,0)
theorem qW{w:World}{x:Nat}(hx:x<2^64):
    Calls P 70 #[.slice (some ⟨w.heap.size,0,none⟩) 1 1] (w.alloc (.cells #[.int .u64 (x:Int)] 22)) fun ev w'=>∃(A':OA)(n' c':Nat),ev=.returned (.slice A' n' c')/\aE w' w.heap.size 5 1 A' n' c' (bV (bX x))/\w.grownBy w' none:=by
  have ga:=World.grownBy_alloc w (.cells #[.int .u64 (x:Int)] 22) none;refine(iO (l:=[x]) (B7 x) rfl (by simpa using hx) (by simp)).mono fun ev w' hh=>?_;obtain⟨A',n',c',rfl,h1,h2⟩:=hh;rw[iS]at h1;exact⟨_,_,_,rfl,h1.mono ga.size,aA ga h2⟩
theorem xF{w:World}{x y:Nat}(hx:x<2^64)(hy:y<2^64):
    Calls P 70 #[.slice (some ⟨w.heap.size,0,none⟩) 2 2] (w.alloc (.cells #[.int .u64 (x:Int),.int .u64 (y:Int)] 22)) fun ev w'=>∃(A':OA)(n' c':Nat),ev=.returned (.slice A' n' c')/\aE w' w.heap.size 5 1 A' n' c' (bV (aX [x,y]))/\w.grownBy w' none:=by
  have ga:=World.grownBy_alloc w (.cells #[.int .u64 (x:Int),.int .u64 (y:Int)] 22) none;refine(iO (l:=[x,y]) (B0 x y) rfl (by simp;exact⟨hx,hy⟩) (by simp)).mono fun ev w' hh=>?_;obtain⟨A',n',c',rfl,h1,h2⟩:=hh;exact⟨_,_,_,rfl,h1.mono ga.size,aA ga h2⟩
theorem mQ{l:List Nat}(h:∀ x∈l,x<2^32){k:Nat}(hk:l.length<=k):(aX l).length<=10*k:=by
 have:=fO (l:=l) fun x hx=>by have:=h x hx;omega
 omega
theorem CD(j p z:Nat)(h:p<=j):(j-p)+(1+z)=(j+1-p)+z:=by omega
theorem uP {w :World} {A:OA} {n c:Nat} {l:List Edge} (hr:aZ w A (edges l)) (hn:n=l.length) (hl:n<=2^20) (hb:fJ l) :
    Calls P 66 #[.slice A n c] w fun ev w'=>∃(A':OA)(n' c':Nat),ev=.returned (.tuple #[.slice A' n' c',.int .i64 (if nv l=true then 0 else 23)])/\aE w' w.heap.size 5 1 A' n' c' (bV (if nv l=true then fF l else []))/\w.grownBy w' none:=by
  apply vc66;dsimp only[VC66,rt,Br,Rd,Ix,Ap,cB,cS,nb,ad,al,iq]
  try simp only[aF]
  refine(vu hr hn (by omega)).mono fun ev w1 hh=>?_;obtain⟨rfl,g1⟩:=hh;refine⟨_,rfl,fun h=>?_,fun h=>?_⟩
  · have:nv l=false:=by unfold nv;rw[h];rfl
    rw[this];exact⟨_,_,_,rfl,aE.nil _ _ _ _,g1⟩
  have Ji:fm l=true:=by simpa using h
  have hR:=(gD l).1 Ji;have bad:∀ {p:Nat} (hp:p<l.length),¬ l[p].1<l[p].2->nv l=false:=by
    intro p hp FG;unfold nv;rw[Bool.and_eq_false_iff];right;rw[List.all_eq_false];exact⟨l[p],List.getElem_mem hp,by simpa using FG⟩
  have Tx:=uS (-1) 0 l;have Pf:=xz (-1) 0 l (by omega) (by omega) hb (by omega);have Vx:=Bp (-1) l
  refine⟨fun m oA on oc many next i w'=>∃(p q:Nat)(u v:Int)(done:List Nat),i=(p:Int)/\p<=l.length/\m=l.length-p/\-1<=u/\0<=v/\next=u+1/\many=(q:Int)/\(∀ h:p<l.length,u<l[p].1)/\dA (-1) 0 l=done++dA u v (l.drop p)/\eR (-1) l=q+eR u (l.drop p) ∧
      aE w' w.heap.size 5 1 oA on oc (bV (aX done))/\w.grownBy w' none/\∀ j (hj:j<l.length),j<p->l[j].1<l[j].2,
    ⟨_,0,0,-1,0,[],rfl,by omega,rfl,by omega,by omega,by omega,rfl,fun h=>by have:=hb _ (List.getElem_mem h);omega,rfl,by simp,aE.nil _ _ _ _,g1,fun j hj h=>by omega⟩,?_⟩
  rintro m oA on oc many next i w2 ⟨p,q,u,v,done,rfl,hp,rfl,hu,hv,rfl,rfl,NB,hG,hq,oO,hg,hok⟩
  have tp:(p:Int).toNat=p:=by omega
  rw[tp];have I2:done.length<=3*l.length:=by have:=congrArg List.length hG;rw[List.length_append]at this;omega
  have Rb:∀ x∈done,x<2^32:=fun x hx=>Pf x (by rw[hG];exact List.mem_append_left _ hx);have NX:on=(aX done).length:=cC oO;have UU:=mQ Rb I2;refine⟨fun FE=>?_,fun FJ=>?_⟩
  · have lp : p<l.length:=by omega
    obtain⟨a,e1,e2,e3⟩:=ez (hr.kept_none hg) lp;have VV:=hb _ (List.getElem_mem lp);have P6:=NB lp;obtain⟨U,hU⟩:∃ U,U=l[p].1:=⟨_,rfl⟩;rw[← hU]at e2 P6;have XL:0<=U/\U<=4294967295:=by rw[hU];exact VV.1
    have JX:dA u v (l.drop p)=(U-u-1).toNat ::fM U (l.drop p) ::dA U U (l.drop p):=by
      rw[List.drop_eq_getElem_cons lp,nS u v _ _ (by rw[← hU];omega),← hU]
    have SO:eR u (l.drop p)=1+eR U (l.drop p):=by
      rw[List.drop_eq_getElem_cons lp,eR,eR,← hU,if_neg (by omega),if_pos rfl]
    refine⟨a,e1,by omega,by omega,U,e2,by omega,fun m2 i1 rA rn rc last w'=>∃(j:Nat)(rd:List Nat),i1=(j:Int)/\p<=j/\j<=l.length/\m2=l.length-j/\(∀ t (ht:t<l.length),p<=t->t<j->l[t].1=U/\l[t].1<l[t].2)/\(j=p->last=U)/\(∀ h:p<j/\j<=l.length,last=l[j-1].2)/\U<=last ∧
        fM U (l.drop p)=(j-p)+fM U (l.drop j)/\dA U U (l.drop p)=rd++dA U last (l.drop j)/\eR U (l.drop p)=eR U (l.drop j) ∧
        aE w' w2.heap.size 5 1 rA rn rc (bV (aX rd))/\aE w' w.heap.size 5 1 oA on oc (bV (aX done))/\w2.grownBy w' none,
      ⟨_,p,[],rfl,Nat.le_refl _,by omega,rfl,fun t ht h1 h2=>by omega,fun _=>rfl,fun h=>by omega,Int.le_refl _,by omega,rfl,rfl,aE.nil _ _ _ _,oO,aC _ _⟩,?_⟩
    rintro m2 i1 rA rn rc last w3 ⟨j,rd,rfl,UN,hj,rfl,FV,GV,Vg,XJ,GC,PT,OE,oR,oO3,Gb⟩;have tj:(j:Int).toNat=j:=by omega
    rw[tj];have JZ:=aA hg Gb;have Hw:rd.length<=3*l.length:=by
      have:=congrArg List.length hG;rw[JX,PT]at this;simp only[List.length_append,List.length_cons]at this;omega
    have Qj:∀ x∈rd,x<2^32:=fun x hx=>Pf x (by rw[hG,JX,PT];simp[hx]);have So:=mQ Qj Hw;have NK:rn=(aX rd).length:=cC oR;have apart:∀ k,(Value.slice oA on oc).ownBlock=some k->k<w2.heap.size:=fun k hk=>oO.block_lt k hk
    -- a vertex's numbers end
    have ends : j ≠ p->fM U (l.drop j)=0->(∀ h:j<l.length,U<l[j].1) →
        ((0<=U/\U<=18446744073709551615)/\((0<=U-(u+1)/\U-(u+1)<=18446744073709551615)/\((-9223372036854775808<=(j:Int)-p/\(j:Int)-p<=9223372036854775807)/\((0<=(j:Int)-p/\(j:Int)-p<=18446744073709551615) ∧
        Calls P 70 #[.slice (some ⟨w3.heap.size,0,none⟩) 2 2] (w3.alloc (.cells #[.int .u64 (U-(u+1)),.int .u64 ((j:Int)-p)] 22)) fun ev__2 wv_6=>∃(x71A:OA)(x71n x71c:Nat),ev__2=.returned (.slice x71A x71n x71c)/\∃(x72A:OA)(x72n x72c:Nat),∃ wv_7:World,Sem.run P (Builtin.append_ #[26,26] 26 #[.slice oA on oc,.slice x71A x71n x71c]) wv_6=.ok (.slice x72A x72n x72c) wv_7 ∧
          ∃(x74A:OA)(x74n x74c:Nat),∃ wv_8:World,Sem.run P (Builtin.append_ #[26,26] 26 #[.slice x72A x72n x72c,.slice rA rn rc]) wv_7=.ok (.slice x74A x74n x74c) wv_8/\((0<=(q:Int)+1/\(q:Int)+1<=18446744073709551615)/\((0<=U/\U<=18446744073709551615)/\((0<=U+1/\U+1<=18446744073709551615)/\∃ m_1:Nat,m_1<l.length-p ∧
          ∃ (p' q':Nat) (u' v':Int) (done':List Nat),(j:Int)=(p':Int)/\p'<=l.length/\m_1=l.length-p'/\-1<=u'/\0<=v'/\U+1=u'+1/\(q:Int)+1=(q':Int)/\(∀ h:p'<l.length,u'<l[p'].1)/\dA (-1) 0 l=done'++dA u' v' (l.drop p')/\eR (-1) l=q'+eR u' (l.drop p') ∧
            aE wv_8 w.heap.size 5 1 x74A x74n x74c (bV (aX done'))/\w.grownBy wv_8 none/\∀ t (ht:t<l.length),t<p'->l[t].1<l[t].2))))))):=by
      intro FG Ql Iv;refine⟨by omega,by omega,by omega,by omega,?_⟩;have k1:U-(u+1)=(((U-u-1).toNat:Nat):Int):=by omega
      have k2:(j:Int)-p=((j-p:Nat):Int):=by omega
      rw[k1,k2];refine(xF (by omega) (by omega)).mono fun ev w4 hh=>?_;obtain⟨X,xn,xc,rfl,oX,g4⟩:=hh;have Pp:xn=(aX [(U-u-1).toNat,j-p]).length:=cC oX;have Ub:=mQ (l:=[(U-u-1).toNat,j-p]) (by intro x hx;simp at hx;omega) (k:=2) (by simp);obtain⟨Y,yn,yc,w5,f1,f2,f3,f4⟩:=aV (oO3.kept g4) oX.row Pp (fun h=>df oX h) (by omega) (Nat.le_trans JZ.size g4.size);have oR5 : aE w5 w2.heap.size 5 1 rA rn rc (bV (aX rd)):=(oR.kept g4).apart f3 (by
        cases hk:(Value.slice rA rn rc).ownBlock with
        | none=>exact .inl rfl
        | some k => refine .inr fun h=>?_
                    have:=oR.block_ge k hk;have:=apart k h.symm;omega)
      obtain⟨Z,zn,zc,w6,f5,f6,f7,f8⟩:=aV f2 oR5.row NK (fun h=>df oR5 h) (by omega) (Nat.le_trans (Nat.le_trans JZ.size g4.size) f3.size);have gY:w.grownBy w5 none:=aN (aA JZ g4) f3 (fun k hk=>oO3.block_ge k hk);refine⟨_,_,_,rfl,_,_,_,w5,f1,_,_,_,w6,f5,by omega,by omega,by omega,l.length-j,by omega,j,q+1,U,last,done++([(U-u-1).toNat,j-p]++rd),rfl,hj,rfl,by omega,by omega,rfl,by omega,Iv,?_,by omega,?_,aN gY f7 (fun k hk=>f2.block_ge k hk),?_⟩
      · rw[hG,JX,PT,GC,Ql];simp
      · rw[eJ,eJ,← List.append_assoc];exact f6
      · intro t ht P9;by_cases h:t<p
        · exact hok t ht h
        · exact(FV t ht (by omega) P9).2
    refine⟨fun Vk=>?_,fun Vk=>?_⟩
    · have lj :j<l.length:=by omega
      obtain⟨b,q1,q2,q3⟩:=ez (hr.kept_none JZ) lj;have PL:=hb _ (List.getElem_mem lj);refine⟨b,q1,by omega,by omega,_,q2,fun LN=>?_,fun SZ=>?_⟩
      · refine⟨b,q1,by omega,by omega,_,q3,by omega,fun FW=>?_,fun GM=>?_⟩
        · have:nv l=false:=by
            by_cases M6:j=p
            · subst M6;exact bad lj (by rw[LN];have:=GV rfl;omega)
            · exfalso;have h1:=Vg ⟨by omega,hj⟩;have h2:=FV (j-1) (by omega) (by omega) (by omega);have h3:=List.pairwise_iff_getElem.1 hR (j-1) j (by omega) lj (by omega);rw[dK]at h3;omega
          rw[this];exact⟨_,_,_,rfl,aE.nil _ _ _ _,JZ⟩
        · refine⟨by omega,by omega,?_⟩;have k1:l[j].2-last-1=(((l[j].2-last-1).toNat:Nat):Int):=by omega
          rw[k1];refine(qW (by omega)).mono fun ev w4 hh=>?_;obtain⟨X,xn,xc,rfl,oX,g4⟩:=hh;have Pp:xn=(bX (l[j].2-last-1).toNat).length:=cC oX;have HR:=cK (v:=(l[j].2-last-1).toNat) (by omega);obtain⟨Y,yn,yc,w5,f1,f2,f3,f4⟩:=aV (oR.kept g4) oX.row Pp (fun h=>df oX h) (by omega) (Nat.le_trans Gb.size g4.size);have Re:l.drop j=l[j] ::l.drop (j+1):=List.drop_eq_getElem_cons lj;refine⟨_,_,_,rfl,_,_,_,w5,f1,by omega,l.length-(j+1),by omega,j+1,rd++[(l[j].2-last-1).toNat],by omega,by omega,by omega,rfl,?_,fun h=>by omega,fun h=>by simp,?_,?_,?_,?_,?_,?_,?_⟩
          · intro t ht h1 h2;by_cases h:t=j
            · subst h;exact⟨LN,by omega⟩
            · exact FV t ht h1 (by omega)
          · omega
          · rw[GC,Re,ek,if_pos LN];exact CD j p _ UN
          · rw[PT,Re,jD _ _ _ _ LN,List.append_assoc];rfl
          · rw[OE,Re,eR,if_pos LN]
          · rw[eJ,iS];exact f2
          · refine(oO3.kept g4).apart f3 ?_;cases hk:(Value.slice oA on oc).ownBlock with
            | none=>exact .inl rfl
            | some k => refine .inr fun h=>?_
                        have:=oR.block_ge k h.symm;have:=apart k hk;omega
          · exact aN (aA Gb g4) f3 (fun k hk=>oR.block_ge k hk)
      · have M6:j≠p:=fun h=>by subst h;exact SZ hU.symm
        refine ends M6 (vI fun e he=>?_) (fun _=>?_)
        · rw[List.drop_eq_getElem_cons lj]at he;have VM:l[j]=e:=Option.some.inj he;rw[← VM];exact SZ
        · have h2:=FV (j-1) (by omega) (by omega) (by omega);have h3:=List.pairwise_iff_getElem.1 hR (j-1) j (by omega) lj (by omega);rw[dK]at h3;omega
    · have QP:j=l.length:=by omega
      refine ends (by omega) ?_ (fun h=>by omega);rw[QP,List.drop_length];rfl
  · have Ih:p=l.length:=by omega
    subst Ih;rw[List.drop_length]at hG hq;have FQ:nv l=true:=by
      unfold nv;rw[Ji,Bool.true_and,List.all_eq_true];intro e he;obtain⟨t,ht,rfl⟩:=List.mem_iff_getElem.1 he;simpa using hok t ht ht
    rw[FQ];refine(qW (by omega)).mono fun ev w3 hh=>?_;obtain⟨X,xn,xc,rfl,oX,g3⟩:=hh;have HR:=cK (v:=q) (by omega);have Pp:xn=(bX q).length:=cC oX;obtain⟨Y,yn,yc,w4,f1,f2,f3,f4⟩:=aV oX (oO.kept g3).row NX (fun h=>df oO h) (by omega) g3.size;refine⟨_,_,_,rfl,_,_,_,w4,f1,_,_,_,rfl,?_,aN (aA hg g3) f3 (fun k hk=>by have:=oX.block_ge k hk;have:=hg.size;omega)⟩;have:(if true=true then fF l else [])=bX q++aX done:=by
      rw[if_pos rfl];unfold fF uR;rw[dm,hG,hq];simp[dA,eR]
    rw[this];exact f2.mono hg.size
def fx(w:World)(g:Nat)(l:List Int)(ok:Bool):Prop:=∃(A:OA)(n c:Nat),w.heap[g]?=some (.cells #[.slice A n c,.bool ok] 186 (0,0))/\aZ w A (bV l)/\n=l.length/\n<=c/\∀ a,A=some a->l=[]∨a.block<g
theorem fx.kp{w w':World}{S:Nat->Prop}{g:Nat}{l:List Int}{ok:Bool}(h:fx w g l ok)(hk:Kp w w' S)(hS:∀ k,k<=g->¬ S k):fx w' g l ok:=by
 obtain⟨A,n,c,h1,h2,h3,h4,h5⟩:=h;exact⟨A,n,c,by rw[hk.block g (Array.getElem?_eq_some_iff.1 h1).1 (hS g (Nat.le_refl _))];exact h1,h2.kpE hk (fun a ha=>(h5 a ha).imp (fun e=>by rw[e];rfl) (fun e=>hS _ (by omega))),h3,h4,h5⟩
theorem fx.kept{w w':World}{g:Nat}{l:List Int}{ok:Bool}(h:fx w g l ok)(hg:w.grownBy w' none):fx w' g l ok:=h.kp (S:=fun _=>False) (Kp.of_none hg) (fun _ _ h=>h)
theorem fx.lt{w:World}{g:Nat}{l:List Int}{ok:Bool}(h:fx w g l ok):g<w.heap.size:=by
 obtain⟨A,n,c,h1,_⟩:=h;exact(Array.getElem?_eq_some_iff.1 h1).1
theorem fx.flag{w:World}{g:Nat}{l:List Int}{ok:Bool}(h:fx w g l ok):w.cell? ((⟨g,0,none⟩:Addr).add 1)=some (.bool ok)/\w.frozen? ((⟨g,0,none⟩:Addr).add 1)=false:=by
 obtain⟨A,n,c,h1,_⟩:=h;rw[aP];exact⟨aB h1 1,aD h1 1⟩
theorem fx.mark{w:World}{g:Nat}{l:List Int}{ok:Bool}(h:fx w g l ok)(b:Bool):fx (w.setCell ((⟨g,0,none⟩:Addr).add 1) (.bool b)) g l b/\Kp w (w.setCell ((⟨g,0,none⟩:Addr).add 1) (.bool b)) (fun k=>k=g):=by
 obtain⟨A,n,c,h1,h2,h3,h4,h5⟩:=h;rw[aP];have K:Kp w (w.setCell ⟨g,1,none⟩ (.bool b)) (fun k=>k=g):=bK (Kp.refl w _) rfl;exact⟨⟨A,n,c,by simpa using aG h1 1 (.bool b),h2.kpE K (fun a ha=>(h5 a ha).imp (fun e=>by rw[e];rfl) (fun e=>by omega)),h3,h4,h5⟩,K⟩
theorem mq{w:World}{g:Nat}{l:List Int}{ok:Bool}(h:fx w g l ok)(hb:aQ l)(hl:l.length<=2^40):
    Calls P 164 #[.pointer (some ⟨g,0,none⟩)] w fun ev w'=>ev=.returned (.int .u64 (cY 4294967295 l).1)/\fx w' g (l.drop (cY 4294967295 l).2.1) (ok && decide ((cY 4294967295 l).2.2=0))/\Kp w w' (fun k=>k=g):=by
  obtain⟨A,n,c,h1,h2,h3,h4,h5⟩:=h;apply vc164;dsimp only[VC164,Wt,Bb,Rs,iq]
  try simp only[aF]
  refine⟨_,rfl,_,_,_,aB h1 0,?_⟩;refine(mB (most:=4294967295) h2 h3 hb (by omega)).mono fun ev w1 hh=>?_;obtain⟨rfl,g1⟩:=hh;have ht:=fy (most:=4294967295) (b:=l) (fun x hx=>(hb x hx).1);obtain⟨v,k,e,hv⟩:∃ v k e,cY 4294967295 l=(v,k,e):=⟨_,_,_,rfl⟩;rw[hv]at ht ⊢;simp only at ht ⊢;have HA:=aH g1;have lt:g<w.heap.size:=(Array.getElem?_eq_some_iff.1 h1).1;have Ia:w1.drew.heap[g]?=some (.cells #[.slice A n c,.bool ok] 186 (0,0)):=by rw[HA.block g lt (by simp)];exact h1
  have tk:(k:Int).toNat=k:=by omega
  have KG:k<=n:=by omega
  have GS:=aG Ia 0 (.slice (bB A c k 1) (n-k) (c-k));have fin:∀ q:Bool,fx ((w1.drew.setCell ⟨g,0,none⟩ (.slice (bB A c k 1) (n-k) (c-k))).setCell ⟨g,1,none⟩ (.bool q)) g (l.drop k) q/\Kp w ((w1.drew.setCell ⟨g,0,none⟩ (.slice (bB A c k 1) (n-k) (c-k))).setCell ⟨g,1,none⟩ (.bool q)) (fun k=>k=g):=by
    intro q;have K:Kp w ((w1.drew.setCell ⟨g,0,none⟩ (.slice (bB A c k 1) (n-k) (c-k))).setCell ⟨g,1,none⟩ (.bool q)) (fun k=>k=g):=bK (bK (Kp.of_none HA) rfl) rfl;refine⟨⟨_,_,_,by simpa using aG GS 1 (.bool q),?_,by simp;omega,by omega,?_⟩,K⟩
    · exact kV (h2.kpE K (fun a ha=>(h5 a ha).imp (fun e=>by rw[e];rfl) (fun e=>by omega))) (by omega)
    · intro a ha;obtain⟨a',e1,e2⟩:=qP ha;exact(h5 a' e1).imp (fun e=>by rw[e];simp) (fun e=>by omega)
  refine⟨v,(k:Int),e,rfl,_,rfl,_,_,_,aB Ia 0,⟨by omega,by omega⟩,?_⟩;rw[tk];refine⟨_,rfl,ok,by rw[aP];exact aB Ia 1,fun h=>?_,fun h=>?_⟩
  · refine⟨_,rfl,⟨_,aB Ia 0⟩,aD Ia 0,_,rfl,⟨_,by rw[aP];exact aB GS 1⟩,by rw[aP];exact aD GS 1,rfl,?_⟩;rw[aP,h,Bool.true_and];exact fin _
  · refine⟨_,rfl,⟨_,aB Ia 0⟩,aD Ia 0,_,rfl,⟨_,by rw[aP];exact aB GS 1⟩,by rw[aP];exact aD GS 1,rfl,?_⟩;rw[aP,h,Bool.false_and];exact fin _
theorem wu{l:List Int}(hb:aQ l):0<=(cY 4294967295 l).1/\(cY 4294967295 l).1<=4294967295/\(cY 4294967295 l).2.1<=l.length/\((cY 4294967295 l).2.2=0->0<(cY 4294967295 l).2.1):=by
 rcases fy (most:=4294967295) (b:=l) (fun x hx=>(hb x hx).1)with⟨h1,h2,h3,h4,h5⟩ | ⟨h1,h2,h3⟩
 ·exact⟨h4,h5,h3,fun _=>h2⟩
 ·rw[h2,h3];exact⟨by omega,by omega,by omega,fun h=>absurd h h1⟩
theorem lu{x:Nat}(hx:x<2^32)(r:List Int):cY 4294967295 (bX x++r)=((x:Int),(bX x).length,0):=dW (by omega) (by omega) r
theorem uE{l:List Int}{p x:Nat}{r:List Int}(h:l.drop p=bX x++r):l.drop (p+(bX x).length)=r:=by
 rw[← List.drop_drop,h,List.drop_left' rfl]
def qm(l:List Int)(n:Int)(l0:List Edge):Prop:=nz l0/\(∀ e∈l0,e.2<n)/\l=fF l0
theorem xy {w:World} {g:Nat} {l:List Int} {n:Int} (h:fx w g l true) (hb:aQ l) (hl:l.length<=2^16) :
    Calls P 122 #[.pointer (some ⟨g,0,none⟩),.int .u64 n] w fun ev w'=>∃(A':OA)(n' c':Nat)(out:List Edge)(ok:Bool)(p:Nat),ev=.returned (.slice A' n' c')/\aE w' w.heap.size 45 2 A' n' c' (edges out)/\fJ out/\out.length<=l.length/\(∀ e∈out,e.2<n) ∧
      fx w' g (l.drop p) ok/\Kp w w' (fun k=>k=g)/\∀ l0,qm l n l0->ok=true/\out=l0:=by
  apply vc122;dsimp only[VC122,Wt,Br,Bb,Ap,cI,nb]
  try simp only[aF]
  have Q0:=h.lt;have Ge:∀ p,aQ (l.drop p):=fun p y hy=>hb y (List.mem_of_mem_drop hy);refine(mq h hb (by omega)).mono fun ev w1 hh=>?_;obtain⟨rfl,h1,K1⟩:=hh;have t0:=wu hb;obtain⟨v0,p0,e0,Jz⟩:∃ v p e,cY 4294967295 l=(v,p,e):=⟨_,_,_,rfl⟩;rw[Jz]at h1 t0 ⊢;simp only[Bool.true_and]at h1 t0 ⊢
  refine⟨_,rfl,fun m oA on oc next many w'=>∃(q p:Nat)(ok:Bool)(out:List Edge),many=(q:Int)/\q=m/\q<=4294967295/\p<=l.length/\fx w' g (l.drop p) ok/\aE w' w.heap.size 45 2 oA on oc (edges out)/\fJ out/\out.length<=p/\(∀ e∈out,e.2<n)/\Kp w w' (fun k=>k=g) ∧
      (ok=true->0<=next/\next<=(p:Int)*8589934592) ∧
      ∀ l0,qm l n l0->∃(j:Nat)(u v:Int),ok=true/\j<=l0.length/\out=l0.take j/\next=u+1/\(∀ h:j<l0.length,u<l0[j].1)/\l.drop p=aX (dA u v (l0.drop j))/\many=(eR u (l0.drop j):Int),
    ⟨_,v0.toNat,p0,_,[],by omega,rfl,by omega,t0.2.2.1,h1,aE.nil _ _ _ _,fun e he=>by simp at he,by simp,fun e he=>by simp at he,K1,fun _=>by omega,?_⟩,?_⟩
  · intro l0 GV;obtain⟨hok,JT,rfl⟩:=GV;have FE:=qe hok.edgesB hok.len;have hq:=FE _ (List.mem_cons_self (a:=eR (-1) l0) (l:=dA (-1) 0 l0));have ht:=lu hq (aX (dA (-1) 0 l0));have he:fF l0=bX (eR (-1) l0)++aX (dA (-1) 0 l0):=by unfold fF uR;rw[dm]
    rw[he]at Jz ⊢;rw[ht]at Jz;simp only[Prod.mk.injEq]at Jz;obtain⟨rfl,rfl,rfl⟩:=Jz;refine⟨0,-1,0,rfl,by omega,rfl,by omega,fun h=>by have:=hok.right _ (List.getElem_mem h);omega,?_,rfl⟩;rw[List.drop_left' rfl];rfl
  rintro m oA on oc next many w2 ⟨q,p,ok,out,rfl,rfl,hq,hp,hA,oO,Jw,G0,O7,hK,Qt,Gk⟩
  refine⟨fun FO=>⟨_,rfl,ok,hA.flag.1,fun hok=>?_,fun hok=>?_⟩,fun hz=>?_⟩
  · subst hok;have Qt:=Qt rfl;have Ot:(l.drop p).length<=2^16:=by rw[List.length_drop];omega
    refine(mq hA (Ge p) (by omega)).mono fun ev w3 hh=>?_;obtain⟨rfl,h3,K3⟩:=hh;have t3:=wu (Ge p);obtain⟨v3,p3,e3,Nz⟩:∃ v p' e,cY 4294967295 (l.drop p)=(v,p',e):=⟨_,_,_,rfl⟩;rw[Nz]at h3 t3 ⊢;simp only[Bool.true_and,List.drop_drop,List.length_drop]at h3 t3 ⊢;refine⟨_,rfl,by omega,by omega,(mq h3 (Ge _) (by rw[List.length_drop];omega)).mono fun ev w4 hh=>?_⟩;obtain⟨rfl,h4,K4⟩:=hh;have t4:=wu (Ge (p+p3));obtain⟨v4,p4,e4,La⟩:∃ v p' e,cY 4294967295 (l.drop (p+p3))=(v,p',e):=⟨_,_,_,rfl⟩;rw[La]at h4 t4 ⊢;simp only[List.drop_drop,List.length_drop]at h4 t4 ⊢;have MB:Kp w w4 (fun k=>k=g):=(hK.then K3 (fun k _ h=>h)).then K4 (fun k _ h=>h);have oO4:aE w4 w.heap.size 45 2 oA on oc (edges out):=(oO.kp K3 (fun k hk e=>by have:=oO.block_ge k hk;omega)).kp K4 (fun k hk e=>by have:=oO.block_ge k hk;omega)
    refine⟨_,rfl,fun m2 oA on oc last k w'=>∃(kk p2:Nat)(ok2:Bool)(out2:List Edge),k=(kk:Int)/\kk=m2/\kk<=4294967295/\p<=p2/\p2<=l.length/\(ok2=true->p+1<=p2)/\fx w' g (l.drop p2) ok2/\aE w' w.heap.size 45 2 oA on oc (edges out2)/\fJ out2/\out2.length<=p2/\(∀ e∈out2,e.2<n)/\Kp w w' (fun k=>k=g) ∧
        (ok2=true->next+v3<=last/\last<=1125899906842624) ∧
        ∀ l0,qm l n l0->∃(j:Nat),ok2=true/\j<=l0.length/\out2=l0.take j/\(∀ h:j<l0.length,next+v3<=l0[j].1)/\l.drop p2=aX (dA (next+v3) last (l0.drop j))/\k=(fM (next+v3) (l0.drop j):Int)/\(q:Int)-1=(eR (next+v3) (l0.drop j):Int)/\(∀ h:j<l0.length,l0[j].1=next+v3->last<l0[j].2)/\0<=next+v3,
      ⟨_,v4.toNat,p+(p3+p4),_,out,by omega,rfl,by omega,by omega,by omega,fun h=>?_,by rw[Nat.add_assoc]at h4;exact h4,oO4,Jw,by omega,O7,MB,fun h=>⟨Int.le_refl _,by omega⟩,?_⟩,?_⟩
    · simp only[Bool.and_eq_true,decide_eq_true_eq]at h;have:=t3.2.2.2 h.1;omega
    · intro l0 GV;obtain⟨j,u,v,_,hj,IW,Xg,NB,hd,Ln⟩:=Gk l0 GV;have hok:=GV.1;have Gq:j<l0.length:=by
        by_cases Gq:j<l0.length
        · exact Gq
        · rw[List.drop_eq_nil_of_le (by omega)]at Ln;simp[eR]at Ln;omega
      have hr:=hok.right _ (List.getElem_mem Gq);have hu:=NB Gq;have F9:=List.drop_eq_getElem_cons Gq;have hG:=nS u v l0[j] (l0.drop (j+1)) (by omega);rw[← F9]at hG;have Hw:=sM l0[j].1 (l0.drop j);have FI:=hok.len;rw[List.length_drop]at Hw;rw[hG,dm,dm]at hd;have Us:=lu (x:=(l0[j].1-u-1).toNat) (by omega) (bX (fM l0[j].1 (l0.drop j))++aX (dA l0[j].1 l0[j].1 (l0.drop j)));rw[hd,Us]at Nz;simp only[Prod.mk.injEq]at Nz;obtain⟨Nz,Km,VL⟩:=Nz;have Jr:=uE hd;rw[Km]at Jr;have LJ:=lu (x:=fM l0[j].1 (l0.drop j)) (by omega) (aX (dA l0[j].1 l0[j].1 (l0.drop j)));rw[Jr,LJ]at La;simp only[Prod.mk.injEq]at La;obtain⟨La,UR,VK⟩:=La;have Mi:=uE Jr;rw[UR]at Mi;have hU:next+v3=l0[j].1:=by omega
      have OF:eR u (l0.drop j)=1+eR l0[j].1 (l0.drop j):=by rw[F9,eR,eR,if_neg (by omega),if_pos rfl]
      refine⟨j,by rw[← VL,← VK];rfl,hj,IW,fun _=>by omega,?_,?_,?_,fun hh e=>?_,by omega⟩
      · rw[← Nat.add_assoc,Mi,hU]
      · rw[hU];omega
      · rw[hU];omega
      · omega
    rintro m2 oA on oc last k w5 ⟨kk,p2,ok2,out2,rfl,rfl,Vh,LQ,Gl,Hx,Pk,oO2,MF,Qs,Mt,RN,HL,J1⟩
    have back:(kk=0∨ok2=false)->(0<=(q:Int)-1/\(q:Int)-1<=18446744073709551615)/\∃ m_1:Nat,m_1<q/\∃(q' p':Nat)(ok:Bool)(out:List Edge),(q:Int)-1=(q':Int)/\q'=m_1/\q'<=4294967295/\p'<=l.length/\fx w5 g (l.drop p') ok/\aE w5 w.heap.size 45 2 oA on oc (edges out)/\fJ out/\out.length<=p'/\(∀ e∈out,e.2<n)/\Kp w w5 (fun k=>k=g) ∧
        (ok=true->0<=next+v3+1/\next+v3+1<=(p':Int)*8589934592) ∧
        ∀ l0,qm l n l0->∃(j:Nat)(u v:Int),ok=true/\j<=l0.length/\out=l0.take j/\next+v3+1=u+1/\(∀ h:j<l0.length,u<l0[j].1)/\l.drop p'=aX (dA u v (l0.drop j))/\(q:Int)-1=(eR u (l0.drop j):Int):=by
      intro HI;refine⟨by omega,q-1,by omega,q-1,p2,ok2,out2,by omega,rfl,by omega,Gl,Pk,oO2,MF,Qs,Mt,RN,fun ho=>?_,fun l0 GV=>?_⟩
      · have:=Hx ho;omega
      · obtain⟨j,h1,h2,h3,h4,h5,h6,h7,h8,h9⟩:=J1 l0 GV;refine⟨j,next+v3,last,h1,h2,h3,by omega,fun Gq=>?_,h5,h7⟩;have FJ:=h4 Gq;have Jo:kk=0:=by
          rcases HI with h | h
          · exact h
          · rw[h]at h1;cases h1
        subst Jo;rw[List.drop_eq_getElem_cons Gq,ek]at h6;split at h6
        · omega
        · omega
    refine⟨fun Xm=>⟨_,rfl,ok2,Pk.flag.1,fun Hz=>?_,fun Hz=>back (.inr Hz)⟩,fun Jo=>back (.inl (by omega))⟩;subst Hz;have HL:=HL rfl;refine(mq Pk (Ge p2) (by rw[List.length_drop];omega)).mono fun ev w6 hh=>?_;obtain⟨rfl,h6,K6⟩:=hh;have t6:=wu (Ge p2);obtain⟨v6,p6,e6,Pt⟩:∃ v p' e,cY 4294967295 (l.drop p2)=(v,p',e):=⟨_,_,_,rfl⟩;rw[Pt]at h6 t6 ⊢;simp only[Bool.true_and,List.drop_drop,List.length_drop]at h6 t6 ⊢;have WD:Kp w w6 (fun k=>k=g):=RN.then K6 (fun k _ h=>h);have oO6:aE w6 w.heap.size 45 2 oA on oc (edges out2):=oO2.kp K6 (fun k hk e=>by have:=oO2.block_ge k hk;omega);have Hx:=Hx rfl;obtain⟨ok3,Jl⟩:∃ ok3,ok3=decide (e6=0):=⟨_,rfl⟩;rw[← Jl]at h6
    have tail:∀ b:Bool,b=(ok3 && (decide (last+(v6+1)<n) && decide (last+(v6+1)<=4294967295))) →
        ∃ a64:Addr,(some (⟨g,0,none⟩:Addr))=some a64/\∃ x66:Bool,World.cell? (w6.setCell ((⟨g,0,none⟩:Addr).add 1) (.bool b)) (a64.add 1)=some (.bool x66)/\((x66=true->((0<=next+v3/\next+v3<=4294967295)/\((0<=last+(v6+1)/\last+(v6+1)<=4294967295)/\∃(x74A:OA)(x74n x74c:Nat),∃ wv_7:World,Sem.run P (Builtin.append_ #[40,40] 40 #[.slice oA on oc,.slice (some ⟨(w6.setCell ((⟨g,0,none⟩:Addr).add 1) (.bool b)).heap.size,0,none⟩) 1 1]) ((w6.setCell ((⟨g,0,none⟩:Addr).add 1) (.bool b)).alloc (.cells #[.int .u32 (next+v3),.int .u32 (last+(v6+1))] 45))=.ok (.slice x74A x74n x74c) wv_7/\((0<=(kk:Int)-1/\(kk:Int)-1<=18446744073709551615)/\∃ m_3:Nat,m_3<kk ∧
          ∃ (kk' p2:Nat) (ok2:Bool) (out2:List Edge),(kk:Int)-1=(kk':Int)/\kk'=m_3/\kk'<=4294967295/\p<=p2/\p2<=l.length/\(ok2=true->p+1<=p2)/\fx wv_7 g (l.drop p2) ok2/\aE wv_7 w.heap.size 45 2 x74A x74n x74c (edges out2)/\fJ out2/\out2.length<=p2/\(∀ e∈out2,e.2<n)/\Kp w wv_7 (fun k=>k=g) ∧
            (ok2=true->next+v3<=last+(v6+1)/\last+(v6+1)<=1125899906842624) ∧
            ∀ l0,qm l n l0->∃(j:Nat),ok2=true/\j<=l0.length/\out2=l0.take j/\(∀ h:j<l0.length,next+v3<=l0[j].1)/\l.drop p2=aX (dA (next+v3) (last+(v6+1)) (l0.drop j))/\(kk:Int)-1=(fM (next+v3) (l0.drop j):Int)/\(q:Int)-1=(eR (next+v3) (l0.drop j):Int)/\(∀ h:j<l0.length,l0[j].1=next+v3->last+(v6+1)<l0[j].2)/\0<=next+v3)))) ∧
         (x66=false->((0<=(kk:Int)-1/\(kk:Int)-1<=18446744073709551615)/\∃ m_3:Nat,m_3<kk ∧
          ∃ (kk' p2:Nat) (ok2:Bool) (out2:List Edge),(kk:Int)-1=(kk':Int)/\kk'=m_3/\kk'<=4294967295/\p<=p2/\p2<=l.length/\(ok2=true->p+1<=p2)/\fx (w6.setCell ((⟨g,0,none⟩:Addr).add 1) (.bool b)) g (l.drop p2) ok2/\aE (w6.setCell ((⟨g,0,none⟩:Addr).add 1) (.bool b)) w.heap.size 45 2 oA on oc (edges out2)/\fJ out2/\out2.length<=p2/\(∀ e∈out2,e.2<n)/\Kp w (w6.setCell ((⟨g,0,none⟩:Addr).add 1) (.bool b)) (fun k=>k=g) ∧
            (ok2=true->next+v3<=last+(v6+1)/\last+(v6+1)<=1125899906842624) ∧
            ∀ l0,qm l n l0->∃(j:Nat),ok2=true/\j<=l0.length/\out2=l0.take j/\(∀ h:j<l0.length,next+v3<=l0[j].1)/\l.drop p2=aX (dA (next+v3) (last+(v6+1)) (l0.drop j))/\(kk:Int)-1=(fM (next+v3) (l0.drop j):Int)/\(q:Int)-1=(eR (next+v3) (l0.drop j):Int)/\(∀ h:j<l0.length,l0[j].1=next+v3->last+(v6+1)<l0[j].2)/\0<=next+v3))):=by
      intro b GP;obtain⟨hM,KM⟩:=h6.mark b;have RM:Kp w (w6.setCell ((⟨g,0,none⟩:Addr).add 1) (.bool b)) (fun k=>k=g):=WD.then KM (fun k _ h=>h);have oOM:=oO6.kp KM (fun k hk e=>by have:=oO6.block_ge k hk;omega);have Hl:w.heap.size<=(w6.setCell ((⟨g,0,none⟩:Addr).add 1) (.bool b)).heap.size:=RM.size
      -- what comes of it, if the bytes are those of edges
      have cond:∀ l0,qm l n l0->b=true/\∃ j,∃ hj:j<l0.length,out2=l0.take j/\l0[j].1=next+v3/\l0[j].2=last+(v6+1)/\l.drop (p2+p6)=aX (dA (next+v3) (last+(v6+1)) (l0.drop (j+1)))/\(kk:Int)-1=(fM (next+v3) (l0.drop (j+1)):Int)/\(q:Int)-1=(eR (next+v3) (l0.drop (j+1)):Int)/\0<=next+v3:=by
        intro l0 GV;obtain⟨j,h1,h2,h3,h4,h5,Nj,h7,h8,h9⟩:=J1 l0 GV;have hok:=GV.1;have Gq:j<l0.length:=by
          by_cases Gq:j<l0.length
          · exact Gq
          · rw[List.drop_eq_nil_of_le (by omega)]at Nj;simp[fM]at Nj;omega
        have F9:=List.drop_eq_getElem_cons Gq;have FV:l0[j].1=next+v3:=by
          rw[F9,ek]at Nj;split at Nj
          · assumption
          · simp at Nj;omega
        have hr:=hok.right _ (List.getElem_mem Gq);have JT:=GV.2.1 _ (List.getElem_mem Gq)
        -- the last neighbour is below
        have FE:last<l0[j].2:=h8 Gq FV;rw[F9,jD _ _ _ _ FV,dm]at h5;have Ur:=lu (x:=(l0[j].2-last-1).toNat) (by omega) (aX (dA (next+v3) l0[j].2 (l0.drop (j+1))));rw[h5,Ur]at Pt;simp only[Prod.mk.injEq]at Pt;obtain⟨hv,Qr,VI⟩:=Pt;have hd:=uE h5;rw[Qr]at hd;have IR:l0[j].2=last+(v6+1):=by omega
        rw[F9,ek,if_pos FV]at Nj;rw[F9,eR,if_pos FV]at h7;refine⟨?_,j,Gq,h3,FV,IR,by rw[hd,IR],by omega,h7,h9⟩;rw[GP,Jl,← VI];simp only[decide_true,Bool.true_and,Bool.and_eq_true,decide_eq_true_eq];omega
      refine⟨_,rfl,b,hM.flag.1,fun JF=>?_,fun HP=>?_⟩
      · rw[JF]at GP;have FX:=GP.symm;simp only[Bool.and_eq_true,decide_eq_true_eq]at FX;have gA:=World.grownBy_alloc (w6.setCell ((⟨g,0,none⟩:Addr).add 1) (.bool b)) (.cells #[.int .u32 (next+v3),.int .u32 (last+(v6+1))] 45) none;have rE:aZ ((w6.setCell ((⟨g,0,none⟩:Addr).add 1) (.bool b)).alloc (.cells #[.int .u32 (next+v3),.int .u32 (last+(v6+1))] 45)) (some ⟨(w6.setCell ((⟨g,0,none⟩:Addr).add 1) (.bool b)).heap.size,0,none⟩) (edges [(next+v3,last+(v6+1))]):=fz _ #[.int .u32 (next+v3),.int .u32 (last+(v6+1))] 45 (0,0);have US:on=out2.length:=by have:=oO2.cases.1;rw[dl]at this;omega
        obtain⟨Y,yn,yc,w7,f1,f2,f3,f4⟩:=dI (m:=1) (d:=1) (ys:=[(next+v3,last+(v6+1))]) (oOM.kept gA) rE rfl (by simp) (by omega) (Nat.le_trans Hl gA.size);refine⟨by omega,by omega,_,_,_,w7,f1,by omega,kk-1,by omega,kk-1,p2+p6,true,out2++[(next+v3,last+(v6+1))],by omega,rfl,by omega,by omega,by omega,fun _=>by omega,?_,f2,?_,?_,?_,?_,fun _=>by omega,fun l0 GV=>?_⟩
        · have:=(hM.kept gA).kp (S:=fun k=>some k=(Value.slice oA on oc).ownBlock) ⟨f3.os,f3.tape,f3.output,f3.size,fun k hk hS=>f3.block k hk hS⟩ (fun k hk e=>by have:=oO6.block_ge k e.symm;omega);rw[JF]at this;exact this
        · intro e he;rcases List.mem_append.1 he with he | he
          · exact MF e he
          · simp at he;subst he;simp only;omega
        · have:=t6.2.2.2 (by rw[Jl]at FX;simpa using FX.1);simp only[List.length_append,List.length_singleton];omega
        · intro e he;rcases List.mem_append.1 he with he | he
          · exact Mt e he
          · simp at he;subst he;exact FX.2.1
        · exact(RM.then (Kp.of_none (S:=fun k=>k=g) gA) (fun k _ h=>h)).step f3 (fun k hk=>.inl (by have:=oO6.block_ge k hk;omega))
        · obtain⟨_,j,hj,c1,c2,c3,c4,c5,c6,c7⟩:=cond l0 GV;refine⟨j+1,rfl,by omega,?_,fun h=>?_,c4,c5,c6,fun h e=>?_,c7⟩
          · rw[List.take_succ_eq_append_getElem hj,← c1];congr 2;exact Prod.ext c2.symm c3.symm
          · have:=List.pairwise_iff_getElem.1 GV.1.rise j (j+1) hj h (by omega);rw[dK]at this;omega
          · have:=List.pairwise_iff_getElem.1 GV.1.rise j (j+1) hj h (by omega);rw[dK]at this;omega
      · refine⟨by omega,kk-1,by omega,kk-1,p2+p6,b,out2,by omega,rfl,by omega,by omega,by omega,fun h=>(by rw[HP]at h;cases h),hM,oOM,MF,by omega,Mt,RM,fun h=>(by rw[HP]at h;cases h),fun l0 GV=>?_⟩;have:=(cond l0 GV).1;rw[HP]at this;cases this
    refine⟨_,rfl,by omega,by omega,_,rfl,ok3,h6.flag.1,fun TI=>⟨fun FE=>?_,fun FJ=>?_⟩,fun WO=>?_⟩
    · exact⟨_,rfl,⟨_,h6.flag.1⟩,h6.flag.2,tail _ (by rw[TI];simp[FE])⟩
    · exact⟨_,rfl,⟨_,h6.flag.1⟩,h6.flag.2,tail _ (by rw[TI];simp;omega)⟩
    · exact⟨_,rfl,⟨_,h6.flag.1⟩,h6.flag.2,tail _ (by rw[WO];rfl)⟩
  · exact⟨_,_,_,out,ok,p,rfl,oO,Jw,by omega,O7,hA,hK,fun l0 GV=>by obtain⟨j,u,v,h1,_⟩:=Gk l0 GV;rw[hok]at h1;cases h1⟩
  · refine⟨_,_,_,out,ok,p,rfl,oO,Jw,by omega,O7,hA,hK,fun l0 GV=>?_⟩;obtain⟨j,u,v,h1,h2,h3,h4,h5,h6,h7⟩:=Gk l0 GV;refine⟨h1,?_⟩;have hj:j=l0.length:=by
      by_cases hj:j<l0.length
      · exfalso;have:=h5 hj;rw[List.drop_eq_getElem_cons hj,eR,if_neg (by omega)]at h7;omega
      · omega
    rw[h3,hj,List.take_length]
def AdjRead(x:List Int)(n:Int)(ev:Ending)(w':World):Prop :=
 (∃(A':OA)(n' c':Nat)(l:List Edge),ev=.returned (.tuple #[.slice A' n' c',.int .i64 0])/\aZ w' A' (edges l)/\n'=l.length/\n'<=c'/\(A'=none->c'=0)/\qm x n l) ∨
 (ev=.returned (.tuple #[.slice none 0 0,.int .i64 21])/\∀ l,¬ qm x n l)
theorem ze {w:World} {A:OA} {k c:Nat} {x:List Int} {n:Int} (hr:aZ w A (bV x)) (hk:k=x.length) (hc:k<=c) (hb:aQ x) (hl:x.length<=2^16) :
    Calls P 87 #[.slice A k c,.int .u64 n] w fun ev w'=>w.grownBy w' none/\AdjRead x n ev w':=by
  apply vc87;dsimp only[VC87,rt,Br,cB,cS,cT,nb,iq];have IZ:∀ a,A=some a->x=[]∨a.block<w.heap.size:=fun a ha=>by
    by_cases hx:x=[]
    · exact .inl hx
    · obtain⟨b,e1,e2⟩:=hr.blk (by intro e;exact hx (by simpa[bV]using e));rw[ha]at e1;cases e1;exact .inr e2
  have g1:=World.grownBy_alloc w (.cells #[.slice A k c,.bool true] 186) none;have b1:(w.alloc (.cells #[.slice A k c,.bool true] 186)).heap[w.heap.size]?=some (.cells #[.slice A k c,.bool true] 186 (0,0)):=heap_alloc_new w _;have hA:fx (w.alloc (.cells #[.slice A k c,.bool true] 186)) w.heap.size x true:=⟨A,k,c,b1,hr.kept_none g1,hk,hc,IZ⟩;refine(xy (n:=n) hA hb hl).mono fun ev w2 hh=>?_;obtain⟨A',n',c',out,ok,p,rfl,oO,Jw,G0,O7,Pk,K2,Gk⟩:=hh;have GA:n'=out.length:=by have:=oO.cases.1;rw[dl]at this;omega
  have g2:w.grownBy w2 none:=by
    have:Kp w w2 (fun k=>k=w.heap.size):=(Kp.of_none g1).then K2 (fun k _ h=>h);exact this.grown (fun k hk e=>by omega)
  refine⟨_,_,_,rfl,(uP oO.row GA (by omega) Jw).mono fun ev w3 hh=>?_⟩;obtain⟨B,m,d,rfl,oB,g3⟩:=hh;have RV:=Pk.kept g3;have FY:=aA g2 g3;refine⟨_,_,_,_,rfl,_,rfl,ok,RV.flag.1,fun hok=>⟨FY,.inr ⟨rfl,fun l hl=>?_⟩⟩,fun hok=>?_⟩
  · have:=(Gk l hl).1;rw[hok]at this;cases this
  · have hok:ok=true:=by simpa using hok
    by_cases G9:nv out=true
    · rw[if_pos G9]at *;have UV:=(qf Jw (by omega)).1 G9;refine⟨fun h=>absurd rfl h,fun _=>(jk oB.row (cC oB) (hr.kept_none FY) hk (dx out) hb).mono fun ev w4 hh=>?_⟩;obtain⟨rfl,rfl⟩:=hh;refine⟨_,rfl,fun h=>⟨FY,.inr ⟨rfl,fun l hl=>?_⟩⟩,fun h=>⟨FY,.inl ⟨_,_,_,out,rfl,oO.row.kept_none g3,GA,kJ oO,fun h=>df oO h,UV,O7,?_⟩⟩⟩
      · have:=of_decide_eq_false h;have e:=(Gk l hl).2;rw[e]at this;exact this hl.2.2.symm
      · have:decide (fF out=x)=true:=by simpa using h
        exact(of_decide_eq_true this).symm
    · rw[if_neg G9]at *;refine⟨fun _=>⟨FY,.inr ⟨rfl,fun l hl=>?_⟩⟩,fun h=>absurd (by omega) h⟩;have e:=(Gk l hl).2;rw[e]at G9;exact G9 ((qf (hl.1.edgesB) hl.1.len).2 hl.1)
theorem Ee:∀ k:Fin 256,(k.1=0/\bt bC k.1=0)∨(0<(bt bC k.1).toNat/\(bt bC k.1).toNat<=8/\2^((bt bC k.1).toNat-1)<=k.1/\k.1<2^(bt bC k.1).toNat):=by decide +kernel
theorem y9{v n:Nat}(h0:0<n)(h1:2^(n-1)<=v)(h2:v<2^n):blen v=n:=by
 have hv:0<v:=Nat.lt_of_lt_of_le (Nat.two_pow_pos _) h1;obtain⟨k1,k2⟩:=(fR v).2 hv;have k3:=(fR v).1;have a1:blen v-1<n:=(Nat.pow_lt_pow_iff_right (a:=2) (by omega)).1 (Nat.lt_of_le_of_lt k1 h2);have a2:n-1<blen v:=(Nat.pow_lt_pow_iff_right (a:=2) (by omega)).1 (Nat.lt_of_le_of_lt h1 k3);omega
theorem Fk{k:Nat}(hk:k<256):bt bC k=(blen k:Int)/\blen k<=8:=by
 have h8:blen k<=8:=jz (by omega);refine⟨?_,h8⟩;rcases Ee ⟨k,hk⟩with⟨h1,h2⟩ | ⟨h1,h2,h3,h4⟩
 ·simp only at h1 h2;subst h1;rw[h2,kZ];rfl
 ·simp only at h1 h2 h3 h4;rw[y9 h1 h3 h4];omega
theorem dR{x:Nat}:∀ {k:Nat},2^k<=x->blen x=k+blen (x / 2^k)
 | 0,h=>by simp
 | k+1,h=>by
  have h':=h;rw[Nat.pow_succ]at h;have hp:=Nat.two_pow_pos k;have ih:=dR (x:=x) (k:=k) (by omega);have h2:2<=x / 2^k:=by rw[Nat.le_div_iff_mul_le hp];omega
  have e:x / 2^k / 2=x / 2^(k+1):=by rw[Nat.div_div_eq_div_mul,Nat.pow_succ]
  rw[ih,uO (by omega),e];omega
theorem jg{w:World}{R:Ending->World->Prop}{y cI:Int}{k c b:Nat}(hy:y=(k:Int))(hk:k<256)(hc:cI=(c:Int))(Nc:c<=56)(hb:b=c+blen k)(hR:R (.returned (.int .i64 (b:Int))) w):
    aF .u8 y/\((0<=y/\y<(ByteArray.size bC:Int))/\(aF .i64 (bt bC y.toNat)/\(aF .i64 (cI+bt bC y.toNat)/\R (.returned (.int .i64 (cI+bt bC y.toNat))) w))):=by
  have hs:(ByteArray.size bC:Int)=256:=by kernel_rfl
  have ht:=Fk hk;have T8:y.toNat=k:=by omega
  rw[T8,ht.1,hs,hc];simp only[aF];refine⟨by omega,by omega,by omega,by omega,?_⟩;have:(c:Int)+(blen k:Int)=(b:Int):=by rw[hb];simp
  rw[this];exact hR
theorem De{w:World}{R:Ending->World->Prop}{v:Nat}(hv:v<2^64)(hR:R (.returned (.int .i64 (blen v:Int))) w):Calls P 140 #[.int .u64 (v:Int)] w R:=by
 apply vc140;dsimp only[VC140,Br,iq];have p32:(2:Int)^32=4294967296:=rfl;have p16:(2:Int)^16=65536:=rfl;have p8:(2:Int)^8=256:=rfl;simp only[p32,p16,p8];refine⟨fun h1=>⟨by omega,fun h2=>⟨by omega,by simp only[aF];omega,fun h3=>⟨by omega,by simp only[aF];omega,?_⟩,fun h3=>?_⟩,fun h2=>⟨fun h3=>⟨by omega,by simp only[aF];omega,?_⟩,fun h3=>?_⟩⟩,fun h1=>⟨fun h2=>⟨by omega,by simp only[aF];omega,fun h3=>⟨by omega,by simp only[aF];omega,?_⟩,fun h3=>?_⟩,fun h2=>⟨fun h3=>⟨by omega,by simp only[aF];omega,?_⟩,fun h3=>?_⟩⟩⟩
 ·refine jg (k:=v / 4294967296 / 65536 / 256) (c:=56) ?_ ?_ ?_ ?_ ?_ hR
  ·omega
  ·omega
  ·rfl
  ·omega
  ·
   have e0:=dR (x:=v) (k:=32) (by omega);have e1:=dR (x:=v / 4294967296) (k:=16) (by omega);have e2:=dR (x:=v / 4294967296 / 65536) (k:=8) (by omega);simp only[show(2:Nat)^32=4294967296 from rfl,show(2:Nat)^16=65536 from rfl,show(2:Nat)^8=256 from rfl]at *;omega
 ·refine jg (k:=v / 4294967296 / 65536) (c:=48) ?_ ?_ ?_ ?_ ?_ hR
  ·omega
  ·omega
  ·rfl
  ·omega
  ·
   have e0:=dR (x:=v) (k:=32) (by omega);have e1:=dR (x:=v / 4294967296) (k:=16) (by omega);simp only[show(2:Nat)^32=4294967296 from rfl,show(2:Nat)^16=65536 from rfl,show(2:Nat)^8=256 from rfl]at *;omega
 ·refine jg (k:=v / 4294967296 / 256) (c:=40) ?_ ?_ ?_ ?_ ?_ hR
  ·omega
  ·omega
  ·rfl
  ·omega
  ·
   have e0:=dR (x:=v) (k:=32) (by omega);have e1:=dR (x:=v / 4294967296) (k:=8) (by omega);simp only[show(2:Nat)^32=4294967296 from rfl,show(2:Nat)^16=65536 from rfl,show(2:Nat)^8=256 from rfl]at *;omega
 ·refine jg (k:=v / 4294967296) (c:=32) ?_ ?_ ?_ ?_ ?_ hR
  ·omega
  ·omega
  ·rfl
  ·omega
  ·
   have e0:=dR (x:=v) (k:=32) (by omega);simp only[show(2:Nat)^32=4294967296 from rfl,show(2:Nat)^16=65536 from rfl,show(2:Nat)^8=256 from rfl]at *;omega
 ·refine jg (k:=v / 65536 / 256) (c:=24) ?_ ?_ ?_ ?_ ?_ hR
  ·omega
  ·omega
  ·rfl
  ·omega
  ·
   have e0:=dR (x:=v) (k:=16) (by omega);have e1:=dR (x:=v / 65536) (k:=8) (by omega);simp only[show(2:Nat)^32=4294967296 from rfl,show(2:Nat)^16=65536 from rfl,show(2:Nat)^8=256 from rfl]at *;omega
 ·refine jg (k:=v / 65536) (c:=16) ?_ ?_ ?_ ?_ ?_ hR
  ·omega
  ·omega
  ·rfl
  ·omega
  ·
   have e0:=dR (x:=v) (k:=16) (by omega);simp only[show(2:Nat)^32=4294967296 from rfl,show(2:Nat)^16=65536 from rfl,show(2:Nat)^8=256 from rfl]at *;omega
 ·refine jg (k:=v / 256) (c:=8) ?_ ?_ ?_ ?_ ?_ hR
  ·omega
  ·omega
  ·rfl
  ·omega
  ·
   have e0:=dR (x:=v) (k:=8) (by omega);simp only[show(2:Nat)^32=4294967296 from rfl,show(2:Nat)^16=65536 from rfl,show(2:Nat)^8=256 from rfl]at *;omega
 ·refine jg (k:=v) (c:=0) ?_ ?_ ?_ ?_ ?_ hR
  ·omega
  ·omega
  ·rfl
  ·omega
  ·omega
theorem jh{w:World}{v:Nat}(hv:v<2^64):Calls P 140 #[.int .u64 (v:Int)] w fun ev w'=>ev=.returned (.int .i64 (blen v:Int))/\w'=w:=De hv ⟨rfl,rfl⟩
theorem nu:∀ n:Nat,cF 0 n=List.replicate n false
 | 0=>rfl
 | n+1=>by
  rw[cF,nu n,List.replicate_succ];congr 1;simp[eV]
theorem _root_.Go.V.Kp.tysThen{w w' w'':World}{base:Nat}{ts:List TypeId}(h:Kp w w' (u4 w base ts))(h':Kp w' w'' (u4 w' base ts)):Kp w w'' (u4 w base ts):=by
 refine h.then h' fun k hk ht=>?_;by_cases hc:u4 w base ts k
 ·exact hc
 ·obtain⟨h1,t,h2,cur,fr,h3⟩:=ht;exact⟨h1,t,h2,cur,fr,by rw[← h.block k hk hc];exact h3⟩
theorem po{w:World}{base g v:Nat}{bits:List Bool}(h:Wr w base g bits)(hv:0<v/\v<2^64)(hl:bits.length<=2^29)(FL:base<=w.heap.size):
    Calls P 150 #[.pointer (some ⟨g,0,none⟩),.int .u64 (v:Int)] w fun ev w'=>ev=.returned (.tuple #[])/\Wr w' base g (bits++da v)/\Kp w w' (u4 w base [214,5]):=by
  apply vc150;dsimp only[VC150,rt,Br,cI,cU,iq]
  try simp only[aF]
  have hb:=(fR v).2 hv.1;have FX:=jz (v:=v) (k:=64) hv.2;refine⟨fun h=>(by cases h),fun _=>⟨fun h=>(by omega),fun _=>(jh hv.2).mono fun ev w1 hh=>?_⟩⟩;obtain⟨rfl,rfl⟩:=hh;have e:(blen v:Int)-1=((blen v-1:Nat):Int):=by omega
  refine⟨_,rfl,by omega,?_⟩;rw[e];refine(nJ (v:=0) (n:=blen v-1) h (by omega) (by omega) (by omega) FL).mono fun ev w2 hh=>?_;obtain⟨rfl,h2,k2⟩:=hh;rw[nu]at h2;refine⟨rfl,(nJ (v:=(v:Int)) (n:=blen v) h2 (by omega) FX (by simp;omega) (Nat.le_trans FL k2.size)).mono fun ev w3 hh=>?_⟩;obtain⟨rfl,h3,k3⟩:=hh;refine⟨rfl,trivial,?_,k2.tysThen k3⟩;unfold da;rw[← List.append_assoc];exact h3
theorem CK{bs:List Bool}{z:Nat}(h:∀ i,i<z->bs[i]?=some false):z<=qp bs:=by
 induction z generalizing bs with
 | zero=>omega
 | succ z ih =>
  cases bs with
  | nil=>have:=h 0 (by omega);simp at this
  | cons b bs =>
   have h0:=h 0 (by omega);simp at h0;subst h0;have:=ih (bs:=bs) (fun i hi=>by simpa using h (i+1) (by omega));unfold qp at this ⊢;rw[List.takeWhile_cons];simp;omega
theorem sj(k:IntKind)(a b:Int):dE .or k a b=dE .or k b a:=by
 unfold dE;simp[BitVec.or_comm]
theorem BD{l:List Int}{at_ i:Nat}(h:at_+i<8*l.length):((aM l).drop at_)[i]?=some (dD l (at_+i)):=by
 rw[List.getElem?_drop];unfold aM;simp[h]
def DT(w':World)(g:Nat)(A:OA)(n c:Nat)(l:List Int)(at_:Nat)(ev:Ending):Prop :=
 match pX ((aM l).drop at_)with
 | some (v,k)=>ev=.returned (.tuple #[.int .u64 v,.bool true])/\jn w' g A n c l (at_+k)
 | none=>ev=.returned (.tuple #[.int .u64 0,.bool false])/\jn w' g A n c l at_
theorem yE {w:World} {g:Nat} {A:OA} {n c:Nat} {l:List Int} {at_:Nat} (h:jn w g A n c l at_) (hl:l.length<=2^40) (hb:aQ l) :
    Calls P 184 #[.pointer (some ⟨g,0,none⟩)] w fun ev w'=>Kp w w' (fun q=>q=g)/\DT w' g A n c l at_ ev:=by
  apply vc184;dsimp only[VC184,rt,Wt,Br,Rd,Rs,Ws,nb,iq]
  try simp only[aF]
  have FE:=(Array.getElem?_eq_some_iff.1 h.blk).1;have s0:(w.alloc (.cells #[.slice none 0 0,.int .i64 0] 240)).heap[w.heap.size]?=some (.cells #[.slice none 0 0,.int .i64 0] 240 (0,0)):=heap_alloc_new w _;have s1:=aG s0 0 (.slice A n c);have s2:=aG s1 1 (.int .i64 (at_:Int));have g1:w.grownBy (((w.alloc (.cells #[.slice none 0 0,.int .i64 0] 240)).setCell ⟨w.heap.size,0,none⟩ (.slice A n c)).setCell ⟨w.heap.size,1,none⟩ (.int .i64 (at_:Int))) none :=
    (bK (bK (Kp.of_none (S:=fun k=>w.heap.size<=k) (gK (aC w none) _)) (Nat.le_refl _)) (Nat.le_refl _)).grown (fun k hk e=>by omega)
  refine⟨fun h=>(by cases h),fun _=>⟨_,rfl,_,_,_,aB h.blk 0,_,by rw[aP];exact aB h.blk 1,⟨_,aB s0 0⟩,aD s0 0,⟨_,aB s1 1⟩,aD s1 1,?_⟩⟩;have bW:(((w.alloc (.cells #[.slice none 0 0,.int .i64 0] 240)).setCell ⟨w.heap.size,0,none⟩ (.slice A n c)).setCell ⟨w.heap.size,1,none⟩ (.int .i64 (at_:Int))).heap[w.heap.size]?=some (.cells #[.slice A n c,.int .i64 (at_:Int)] 240 (0,0)):=by simpa using s2
  obtain⟨w1,GB⟩:∃ w1,w1=((w.alloc (.cells #[.slice none 0 0,.int .i64 0] 240)).setCell ⟨w.heap.size,0,none⟩ (.slice A n c)).setCell ⟨w.heap.size,1,none⟩ (.int .i64 (at_:Int)):=⟨_,rfl⟩;rw[← GB]at bW g1 ⊢;have I2:((aM l).drop at_).length=8*l.length-at_:=by rw[List.length_drop,cQ]
  have FW:=h.le
  -- back to where it was
  have back:∀(W:World)(z:Nat),Kp w W (fun q=>q=g)->W.heap[w.heap.size]?=some (.cells #[.slice A n c,.int .i64 (at_:Int)] 240 (0,0))->jn W g A n c l (at_+z)->pX ((aM l).drop at_)=none →
      ∃ (x40A:OA) (x40n x40c:Nat),World.cell? W ⟨w.heap.size,0,none⟩=some (.slice x40A x40n x40c)/\∃ x40:Int,World.cell? W ⟨w.heap.size,1,none⟩=some (.int .i64 x40)/\∃ a41:Addr,(some (⟨g,0,none⟩:Addr))=some a41/\((∃ uv_:Value,World.cell? W a41=some uv_)/\World.frozen? W a41=false/\((∃ uv_:Value,World.cell? (World.setCell W a41 (.slice x40A x40n x40c)) (a41.add 1)=some uv_)/\World.frozen? (World.setCell W a41 (.slice x40A x40n x40c)) (a41.add 1)=false ∧
        (Kp w (World.setCell (World.setCell W a41 (.slice x40A x40n x40c)) (a41.add 1) (.int .i64 x40)) (fun q=>q=g)/\DT (World.setCell (World.setCell W a41 (.slice x40A x40n x40c)) (a41.add 1) (.int .i64 x40)) g A n c l at_ (.returned (.tuple #[.int .u64 0,.bool false]))))):=by
    intro W z hK hB hR hT;have t1:=aG hR.blk 0 (.slice A n c);have t2:=aG t1 1 (.int .i64 (at_:Int));have K:Kp w ((W.setCell ⟨g,0,none⟩ (.slice A n c)).setCell ⟨g,1,none⟩ (.int .i64 (at_:Int))) (fun q=>q=g):=bK (bK hK rfl) rfl;refine⟨_,_,_,aB hB 0,_,aB hB 1,_,rfl,⟨_,aB hR.blk 0⟩,aD hR.blk 0,⟨_,by rw[aP];exact aB t1 1⟩,by rw[aP];exact aD t1 1,?_⟩;rw[aP];refine⟨K,?_⟩;unfold DT;rw[hT];exact⟨rfl,by simpa using t2,h.row.kpE K (fun a ha=>(h.ne a ha).imp (fun e=>by rw[e];rfl) id),h.len,h.le,h.ne⟩
  refine⟨fun m i W=>∃ z:Nat,i=(z:Int)/\z<=64/\64-z=m/\Kp w W (fun q=>q=g)/\W.heap[w.heap.size]?=some (.cells #[.slice A n c,.int .i64 (at_:Int)] 240 (0,0))/\jn W g A n c l (at_+z)/\∀ j,j<z->((aM l).drop at_)[j]?=some false,
    ⟨_,0,rfl,by omega,rfl,Kp.of_none g1,bW,h.kept g1,fun j hj=>by omega⟩,?_⟩
  rintro m i w2 ⟨z,rfl,hz,rfl,hK,hB,hR,I7⟩;have tz:(z:Int).toNat=z:=by omega
  rw[tz];refine⟨fun SF=>(lr (k:=1) hR hl hb (by omega)).mono fun ev w3 hh=>?_,fun FJ=>back w2 z hK hB hR ?_⟩
  · obtain⟨K3,⟨r1,rfl,R3⟩ | ⟨r1,rfl,R3⟩⟩:=hh
    · have HZ:Kp w w3 (fun q=>q=g):=hK.then K3 (fun k _ h=>h);have Lv:w3.heap[w.heap.size]?=some (.cells #[.slice A n c,.int .i64 (at_:Int)] 240 (0,0)):=by rw[K3.block _ (Array.getElem?_eq_some_iff.1 hB).1 (by omega)];exact hB
      have Gu:=BD (l:=l) (at_:=at_) (i:=z) (by omega);have Hu:=kq (l:=l) (at_:=at_+z) (by omega);rw[Hu];refine⟨_,_,rfl,fun h=>(by cases h),fun _=>⟨fun h0=>⟨by omega,_,?_,z+1,by omega,by omega,rfl,HZ,Lv,by rw[← Nat.add_assoc];exact R3,fun j hj=>?_⟩,fun h1=>?_⟩⟩
      · omega
      · by_cases e:j=z
        · subst e;rw[Gu];congr 1;cases Nd:dD l (at_+j)with
          | false=>rfl
          | true=>rw[Nd]at h0;simp[eS]at h0
        · exact I7 j (by omega)
      · have JF:dD l (at_+z)=true:=by
          cases Nd:dD l (at_+z)with
          | true=>rfl
          | false=>rw[Nd]at h1;simp[eS]at h1
        rw[JF]at Gu;have Ky:qp ((aM l).drop at_)=z:=Fg I7 (by rw[Gu];simp);refine(lr (k:=z) R3 hl hb (by omega)).mono fun ev w4 hh=>?_;obtain⟨K4,⟨r2,rfl,R4⟩ | ⟨r2,rfl,R4⟩⟩:=hh
        · have MB:Kp w w4 (fun q=>q=g):=HZ.then K4 (fun k _ h=>h);have hv:=mD (((aM l).drop (at_+z+1)).take z);have MN:(((aM l).drop (at_+z+1)).take z).length=z:=by rw[List.length_take,List.length_drop,cQ];omega
          rw[MN]at hv;have Ha:min z 64=z:=by omega
          have hp:=Int.pow_pos (n:=2) (m:=z) (by omega);have LS:(2:Int)^z<=2^63:=by
            have:=Nat.pow_le_pow_right (n:=2) (by omega) (show z<=63 by omega);have e:((2^z:Nat):Int)=2^z:=by simp
            omega
          rw[Ha];refine⟨_,_,rfl,fun h=>(by cases h),fun _=>⟨⟨by omega,by omega,by omega⟩,MB,?_⟩⟩;unfold DT pX;rw[Ky,if_pos ⟨by omega,by rw[I2];omega⟩];refine⟨?_,?_⟩
          · rw[sj,sP hv.1 hv.2 (by omega) (by omega),List.drop_drop,← Nat.add_assoc];congr 5;omega
          · have:at_+(2*z+1)=at_+z+1+z:=by omega
            rw[this];exact R4
        · have MB:Kp w w4 (fun q=>q=g):=HZ.then K4 (fun k _ h=>h);refine⟨_,_,rfl,fun _=>back w4 (z+1) MB (by rw[K4.block _ (Array.getElem?_eq_some_iff.1 Lv).1 (by omega)];exact Lv) (by rw[← Nat.add_assoc];exact R4) ?_,fun h=>absurd rfl h⟩;unfold pX;rw[Ky,if_neg (by rw[I2];omega)]
    · refine⟨_,_,rfl,fun _=>back w3 z (hK.then K3 (fun k _ h=>h)) (by rw[K3.block _ (Array.getElem?_eq_some_iff.1 hB).1 (by omega)];exact hB) R3 ?_,fun h=>absurd rfl h⟩;have h1:=CK I7;unfold pX;rw[if_neg (by rw[I2];omega)]
  · have h1:=CK I7;unfold pX;rw[if_neg (by omega)]
theorem qg(g i j:Nat):(⟨g,i,none⟩:Addr).add j=⟨g,i+j,none⟩:=by unfold Addr.add;split <;>simp_all
theorem jm{t0:Int}:∀ {l:List aW} {p:Option aW},kl t0 p l=true↔(∀ e∈l,0<=e.t/\e.t<=4611686018427387903/\e.u<e.v)/\(∀ j (hj:j+1<l.length),bN l[j] l[j+1]=true)/\(∀ e,l.head?=some e->match p with | none=>e.t=t0 | some q=>bN q e=true)
 | [],p=>by simp[kl]
 | e ::l,p=>by
  have ih:=jm (t0:=t0) (l:=l) (p:=some e);unfold kl;rw[Bool.and_eq_true,Bool.and_eq_true,ih,decide_eq_true_eq];constructor
  ·rintro⟨⟨h1,h2⟩,h3,h4,h5⟩;refine⟨fun a ha=>?_,fun j hj=>?_,fun a ha=>?_⟩
   ·rcases List.mem_cons.1 ha with rfl | ha
    ·exact h1
    ·exact h3 a ha
   ·cases j with
    | zero =>
     have h0:0<l.length:=by simpa using hj
     exact h5 l[0] (by rw[List.head?_eq_getElem?];simp[h0])
    | succ j=>exact h4 j (by simpa using hj)
   ·have:a=e:=by simpa using ha.symm
    subst this;cases p with
    | none=>simpa using h2
    | some q=>exact h2
  ·rintro⟨h1,h2,h3⟩;refine⟨⟨h1 e (by simp),?_⟩,fun a ha=>h1 a (by simp[ha]),fun j hj=>h2 (j+1) (Nat.succ_lt_succ hj),fun a ha=>?_⟩
   ·have:=h3 e rfl;cases p with
    | none=>simpa using this
    | some q=>exact this
   ·have h0:0<l.length:=by cases l with | nil=>simp at ha | cons=>simp
    have:=h2 0 (by simpa using h0);have e':l[0]=a:=by rw[List.head?_eq_getElem?,List.getElem?_eq_getElem h0]at ha;exact Option.some.inj ha
    rw[← e'];exact this
theorem xp {w:World} {A:OA} {n c:Nat} {l:List aW} {t0:Int} (hr:aZ w A (cE l)) (hn:n=l.length) (hl:n<=2^20) :
    Calls P 106 #[.int .i64 t0,.slice A n c] w fun ev w'=>ev=.returned (.bool (kl t0 none l))/\w.grownBy w' none:=by
  apply vc106;dsimp only[VC106,rb,Wt,Br,Rd,Ix,Ws,cB,nb,ad,al,iq]
  try simp only[aF]
  have no:∀ {p:Nat} (hp:p<l.length),¬ (0<=l[p].t/\l[p].t<=4611686018427387903/\l[p].u<l[p].v)->kl t0 none l=false:=by
    intro p hp h;rw[Bool.eq_false_iff];intro hd;exact h ((jm.1 hd).1 _ (List.getElem_mem hp))
  refine⟨fun m i w'=>∃ p:Nat,i=(p:Int)/\p<=l.length/\l.length-p=m/\w.grownBy w' none/\(∀ j (hj:j<l.length),j<p->0<=l[j].t/\l[j].t<=4611686018427387903/\l[j].u<l[j].v)/\∀ j (hj:j+1<l.length),j+1<p->bN l[j] l[j+1]=true,
    ⟨_,0,rfl,by omega,rfl,aC _ _,fun j hj h=>by omega,fun j hj h=>by omega⟩,?_⟩
  rintro m i w1 ⟨p,rfl,hp,rfl,hg,hok,HP⟩;have tp:(p:Int).toNat=p:=by omega
  have tp1:((p:Int)-1).toNat=p-1:=by omega
  rw[tp,tp1];refine⟨fun FE=>?_,fun FJ=>?_⟩
  · have lp:p<l.length:=by omega
    obtain⟨a,e1,e2,e3,e4,e5⟩:=eE (hr.kept_none hg) lp;obtain⟨w2,hE,pE0,qE0,pE1,qE1,pE2,qE2,pE3,qE3,bE,gE⟩:=nY w1 62 (.int .i64 0) (.int .u32 0) (.int .u32 0) (.bool false) (.int .i64 l[p].t) (.int .u32 l[p].u) (.int .u32 l[p].v) (.bool l[p].add);refine⟨a,e1,by omega,by omega,_,e2,_,e3,_,e4,_,e5,pE0,qE0,pE1,qE1,pE2,qE2,pE3,qE3,?_⟩;rw[← hE];have gd:=aH (aC w2 none);have bE2:=aI bE gd;have FN:=aA (aA hg gE) gd;refine⟨_,aB bE2 0,fun h1=>⟨?_,FN⟩,fun h1=>⟨_,aB bE2 0,fun h2=>⟨?_,FN⟩,fun h2=>⟨_,aB bE2 1,_,aB bE2 2,fun h3=>⟨?_,FN⟩,fun h3=>?_⟩⟩⟩
    · rw[no lp (by omega)]
    · rw[no lp (by omega)]
    · rw[no lp (by omega)]
    · have ok':∀ j (hj:j<l.length),j<p+1->0<=l[j].t/\l[j].t<=4611686018427387903/\l[j].u<l[j].v:=by
        intro j hj M6;by_cases e:j=p
        · subst e;omega
        · exact hok j hj (by omega)
      refine⟨fun FO=>?_,fun hz=>⟨by omega,_,?_,p+1,by omega,by omega,rfl,FN,ok',fun j hj h=>by omega⟩⟩
      · obtain⟨a',q1,q2,q3,q4,q5⟩:=eE (hr.kept_none FN) (show p-1<l.length by omega);refine⟨by omega,a',q1,by omega,by omega,_,q2,_,q3,_,q4,_,q5,_,aB bE2 0,_,aB bE2 1,_,aB bE2 2,_,aB bE2 3,(oe l[p-1] l[p]).mono fun ev w3 hh=>?_⟩;obtain⟨rfl,g3⟩:=hh;refine⟨_,rfl,fun h4=>⟨?_,aA FN g3⟩,fun h4=>⟨by omega,_,?_,p+1,by omega,by omega,rfl,aA FN g3,ok',fun j hj M6=>?_⟩⟩
        · congr 2
          symm
          rw[Bool.eq_false_iff];intro hd;have:=(jm.1 hd).2.1 (p-1) (by omega);have e:p-1+1=p:=by omega
          simp only[e]at this;rw[this]at h4;cases h4
        · omega
        · by_cases e:j+1=p
          · subst e;simpa using h4
          · exact HP j hj (by omega)
      · omega
  · have:p=l.length:=by omega
    subst this;refine⟨fun h0=>⟨?_,hg⟩,fun h0=>?_⟩
    · have:l=[]:=List.eq_nil_of_length_eq_zero (by omega);subst this;rfl
    · have l0:0<l.length:=by omega
      obtain⟨a,e1,e2,e3,e4,e5⟩:=eE (hr.kept_none hg) l0;refine⟨a,e1,by omega,by omega,_,by simpa[Addr.add]using e2,?_,hg⟩;congr 2;have Hi:l.head?=some l[0]:=by rw[List.head?_eq_getElem?,List.getElem?_eq_getElem l0]
      cases hd:kl t0 none l with
      | true=>simpa using(jm.1 hd).2.2 _ Hi
      | false =>
        rw[decide_eq_false_iff_not];intro h;have:kl t0 none l=true:=jm.2 ⟨fun e he=>by obtain⟨j,hj,rfl⟩:=List.mem_iff_getElem.1 he;exact hok j hj hj,fun j hj=>HP j hj hj,fun e he=>by
          rw[Hi]at he;cases he;exact h⟩
        rw[hd]at this;cases this
def aY(t0:Int)(p:Option aW):aW:=p.getD ⟨t0,0,0,false⟩
theorem mc(t0:Int)(p:Option aW)(e:aW):gi t0 p e=(e.t-(aY t0 p).t).toNat+1:=by cases p <;>rfl
theorem md(t0:Int)(p:Option aW)(e:aW):jj p e=if p.isSome=true/\e.t=(aY t0 p).t then(e.u-(aY t0 p).u).toNat+1 else e.u.toNat+1:=by cases p <;>simp[jj,aY]
theorem ma(t0:Int)(p:Option aW)(e:aW):iL p e=if p.isSome=true/\e.t=(aY t0 p).t then(if e.u=(aY t0 p).u then(e.v-(aY t0 p).v).toNat else(e.v-e.u).toNat) else(e.v-e.u).toNat:=by
 cases p with
 | none=>simp[iL]
 | some q =>
  simp only[iL,aY,Option.getD_some,Option.isSome_some,true_and];by_cases h:e.t=q.t
  ·by_cases h2:e.u=q.u
   ·simp[h,h2]
   ·simp[h,h2]
  ·simp[h]
structure DWr(w:World)(base g gw:Nat)(t0:Int)(p:Option aW)(bits:List Bool):Prop where
 wr:Wr w base g bits
 low:base<=gw
 blk:w.heap[gw]?=some (.cells #[.pointer (some ⟨g,0,none⟩),.int .i64 (aY t0 p).t,.int .u32 (aY t0 p).u,.int .u32 (aY t0 p).v,.bool (aY t0 p).add,.bool p.isSome] 166 (0,0))
theorem pO{w:World}{base k:Nat}{ts:List TypeId}{cur:Array Value}{t:TypeId}{fr:Nat×Nat}(h:w.heap[k]?=some (.cells cur t fr))(ht:t ∉ ts):¬ u4 w base ts k:=by
 rintro⟨_,t',h1,cur',fr',h2⟩;rw[h]at h2;cases h2;exact ht h1
theorem yO{w:World}{base g gw:Nat}{t0:Int}{p:Option aW}{e:aW}{bits:List Bool}(h:DWr w base g gw t0 p bits)(he:zp t0 p e)(hp:iG p)(Gl:∀ q,p=some q->q.u<=4294967295/\q.v<=4294967295)(hl:bits.length<=2^28)(FL:base<=w.heap.size)(LK:0<=t0∨p≠none):
    Calls P 108 #[.pointer (some ⟨gw,0,none⟩),evtV e] w fun ev w'=>ev=.returned (.tuple #[])/\DWr w' base g gw t0 (some e) (bits++qM t0 p e)/\Kp w w' (fun k=>u4 w base [214,5] k∨k=gw):=by
  apply vc108;dsimp only[VC108,rt,Wt,Br,Bb,Rd,Rc,Ws,cU,nb,iq];have hn:=he.nums hp;have OH:=xk hp he;obtain⟨h1,h2,h3⟩:=he;have hq:0<=(aY t0 p).t/\0<=(aY t0 p).u/\(aY t0 p).u<=4294967295/\0<=(aY t0 p).v/\(aY t0 p).v<=4294967295/\(aY t0 p).t<=e.t/\(p.isSome=true->e.t=(aY t0 p).t->(aY t0 p).u<e.u∨(aY t0 p).u=e.u/\(aY t0 p).v<e.v):=by
    cases p with
    | none=>simp only at h3;simp[aY];omega
    | some q =>
      have a1:=hp q rfl;have a2:=Gl q rfl;simp only[dU]at h3;simp only[aY,Option.getD_some];refine⟨by omega,by omega,by omega,by omega,by omega,by omega,fun _ _=>by omega⟩
  have IC:=h.blk;have Q0:=(Array.getElem?_eq_some_iff.1 IC).1;have hG:=mc t0 p e;have hF:=md t0 p e;have hS:=ma t0 p e;generalize Sq:aY t0 p=q at *;generalize IG:p.isSome=any at *;obtain⟨gaps,Lq⟩:∃ x,x=gi t0 p e:=⟨_,rfl⟩;obtain⟨fst,IA⟩:∃ x,x=jj p e:=⟨_,rfl⟩;obtain⟨snd,Iq⟩:∃ x,x=iL p e:=⟨_,rfl⟩;have KO:qM t0 p e=da gaps++(e.add ::(da fst++da snd)):=by unfold qM;rw[Lq,IA,Iq]
  rw[← Lq]at hG hn;rw[← IA]at hF hn;rw[← Iq]at hS hn;rw[KO]at OH ⊢;simp only[List.length_append,List.length_cons]at OH;simp only[aF];obtain⟨w1,FH,g1,b1⟩:=fZ w #[.int .i64 e.t,.int .u32 e.u,.int .u32 e.v,.bool e.add] 62;rw[← FH];have gd:=aA g1 (aH (aC w1 none));have bd:w1.drew.heap[w.heap.size]?=some (.cells #[.int .i64 e.t,.int .u32 e.u,.int .u32 e.v,.bool e.add] 62 (0,0)):=b1;have bG:=aI IC gd;have PE:62 ∉ [214,5]:=by decide
  have Oh:166 ∉ [214,5]:=by decide
  have FJ:0<gaps:=by rw[hG];omega
  have kgap:e.t-q.t+1=(gaps:Int):=by rw[hG];omega
  refine⟨_,rfl,_,aB bG 0,_,aB bd 0,_,rfl,_,by rw[aP];exact aB bG 1,by omega,by omega,by omega,?_⟩;rw[kgap];refine(po (h.wr.kept gd) ⟨FJ,by omega⟩ (by omega) (Nat.le_trans FL gd.size)).mono fun ev w2 hh=>?_;obtain⟨rfl,KR,K2⟩:=hh;have stay:∀ {W W':World} {k:Nat} {cur:Array Value} {t:TypeId},W.heap[k]?=some (.cells cur t (0,0))->Kp W W' (u4 W base [214,5])->t ∉ [214,5]->W'.heap[k]?=some (.cells cur t (0,0)):=by
    intro W W' k cur t hb hK ht;rw[hK.block k (Array.getElem?_eq_some_iff.1 hb).1 (pO hb ht)];exact hb
  have b2:=stay bd K2 PE;have bG2:=stay bG K2 Oh;have Kw:Kp w w2 (u4 w base [214,5]):=(Kp.of_none (S:=u4 w base [214,5]) gd).tysThen K2;refine⟨rfl,fun s w'=>s=eS e.add/\w'=w2,⟨_,aB b2 3,fun ha=>⟨by rw[ha];rfl,rfl⟩,fun ha=>⟨by rw[ha];rfl,rfl⟩⟩,?_⟩;rintro s w3 ⟨rfl,rfl⟩;have Xx:=ff e.add;refine⟨_,rfl,_,aB bG2 0,(nJ (v:=eS e.add) (n:=1) KR (by omega) (by omega) (by simp;omega) (Nat.le_trans FL Kw.size)).mono fun ev w4 hh=>?_⟩;obtain⟨rfl,PN,K4⟩:=hh;have Gu:cF (eS e.add) 1=[e.add]:=by cases e.add <;>rfl
  rw[Gu]at PN;have b4:=stay b2 K4 PE;have bG4:=stay bG2 K4 Oh;have Kw4:=Kw.tysThen K4;have gd4:=aH (aC w4 none)
  -- the vertices of the event ahead
  have s0:(w4.drew.alloc (.cells #[.int .u32 0,.int .u32 0] 45)).heap[w4.drew.heap.size]?=some (.cells #[.int .u32 0,.int .u32 0] 45 (0,0)):=heap_alloc_new w4.drew _;have s1:=aG s0 0 (.int .u32 q.u);have s2:=aG s1 1 (.int .u32 q.v);have gS0:=aA gd4 (World.grownBy_alloc w4.drew (.cells #[.int .u32 0,.int .u32 0] 45) none);have gS:w4.grownBy (((w4.drew.alloc (.cells #[.int .u32 0,.int .u32 0] 45)).setCell ⟨w4.drew.heap.size,0,none⟩ (.int .u32 q.u)).setCell ⟨w4.drew.heap.size,1,none⟩ (.int .u32 q.v)) none :=
    (bK (bK (Kp.of_none (S:=fun k=>w4.heap.size<=k) gS0) (Nat.le_refl _)) (Nat.le_refl _)).grown (fun k hk e=>by omega)
  have bQ:(((w4.drew.alloc (.cells #[.int .u32 0,.int .u32 0] 45)).setCell ⟨w4.drew.heap.size,0,none⟩ (.int .u32 q.u)).setCell ⟨w4.drew.heap.size,1,none⟩ (.int .u32 q.v)).heap[w4.drew.heap.size]?=some (.cells #[.int .u32 q.u,.int .u32 q.v] 45 (0,0)):=by simpa using s2
  refine⟨rfl,fun wq=>w4.grownBy wq none,gd4,_,fun wq gq=>aB (aI b4 gq) 1,by omega,by omega,_,fun wq gq=>aB (aI b4 gq) 2,_,fun wq gq=>aB (aI b4 gq) 1,by omega,by omega,_,rfl,_,fun wq gq=>by rw[fp,aP];exact aB (aI bG4 gq) 2,_,fun wq gq=>by rw[fp,fp,aP];exact aB (aI bG4 gq) 3,gS0,⟨_,aB s0 0⟩,aD s0 0,⟨_,aB s1 1⟩,aD s1 1,gS,?_⟩;obtain⟨w5,LC⟩:∃ w5,w5=((w4.drew.alloc (.cells #[.int .u32 0,.int .u32 0] 45)).setCell ⟨w4.drew.heap.size,0,none⟩ (.int .u32 q.u)).setCell ⟨w4.drew.heap.size,1,none⟩ (.int .u32 q.v):=⟨_,rfl⟩;rw[← LC]at gS bQ ⊢;have gS5:=aA gS (aH (aC w5 none));have bQ5:=aI bQ (aH (aC w5 none));refine⟨fun u v w'=>u=(fst:Int)/\v=(snd:Int)/\w'=w5.drew,⟨fun b w'=>b=(any && decide (e.t=q.t))/\w'=w5.drew,⟨_,rfl,_,by rw[aP];exact aB (aI bG4 gS5) 5,fun ha=>⟨_,aB (aI b4 gS5) 0,_,rfl,_,by rw[aP];exact aB (aI bG4 gS5) 1,by rw[ha];rfl,rfl⟩,fun ha=>⟨by rw[ha];rfl,rfl⟩⟩,?_⟩,?_⟩
  · rintro b w6 ⟨hb,rfl⟩;refine⟨fun JF=>?_,fun HP=>⟨?_,?_,rfl⟩⟩
    · rw[JF]at hb;have GP:=hb.symm;simp only[Bool.and_eq_true,decide_eq_true_eq]at GP;have ho:=hq.2.2.2.2.2.2 GP.1 GP.2;rw[if_pos ⟨GP.1,GP.2⟩]at hF hS;refine⟨_,aB bQ5 0,by omega,by omega,_,aB (aI b4 gS5) 1,_,aB bQ5 0,fun hs=>⟨_,aB (aI b4 gS5) 2,_,aB bQ5 1,by omega,by omega,by omega,?_,rfl⟩,fun hs=>⟨by omega,?_,rfl⟩⟩
      · rw[if_pos hs]at hS;omega
      · rw[if_neg hs]at hS;omega
    · have:¬ (any=true/\e.t=q.t):=by rintro⟨a1,a2⟩;rw[a1,HP]at hb;simp[a2]at hb
      rw[if_neg this]at hF;omega
    · have:¬ (any=true/\e.t=q.t):=by rintro⟨a1,a2⟩;rw[a1,HP]at hb;simp[a2]at hb
      rw[if_neg this]at hS;omega
  · rintro u v w6 ⟨rfl,rfl,rfl⟩;have b6:=aI b4 gS5;have bG6:=aI bG4 gS5;have Kw6:Kp w w5.drew (u4 w base [214,5]):=Kw4.tysThen (Kp.of_none gS5);refine⟨_,rfl,_,aB bG6 0,(po (PN.kept gS5) ⟨hn.2.1.1,by omega⟩ (by simp;omega) (Nat.le_trans FL Kw6.size)).mono fun ev w7 hh=>?_⟩;obtain⟨rfl,PM,K7⟩:=hh;have b7:=stay b6 K7 PE;have bG7:=stay bG6 K7 Oh;have Kw7:=Kw6.tysThen K7;refine⟨rfl,_,rfl,_,aB bG7 0,(po PM ⟨hn.2.2.1,by omega⟩ (by simp;omega) (Nat.le_trans FL Kw7.size)).mono fun ev w8 hh=>?_⟩;obtain⟨rfl,Wi,K8⟩:=hh;have b8:=stay b7 K8 PE;have bG8:=stay bG7 K8 Oh;have Kw8:=Kw7.tysThen K8;have t1:=aG bG8 1 (.int .i64 e.t);have t2:=aG t1 2 (.int .u32 e.u);have t3:=aG t2 3 (.int .u32 e.v);have t4:=aG t3 4 (.bool e.add);have t5:=aG t4 5 (.bool true);have K9:Kp w8 (((((w8.setCell ⟨gw,1,none⟩ (.int .i64 e.t)).setCell ⟨gw,2,none⟩ (.int .u32 e.u)).setCell ⟨gw,3,none⟩ (.int .u32 e.v)).setCell ⟨gw,4,none⟩ (.bool e.add)).setCell ⟨gw,5,none⟩ (.bool true)) (fun k=>k=gw):=bK (bK (bK (bK (bK (Kp.refl w8 _) rfl) rfl) rfl) rfl) rfl;refine⟨rfl,_,aB b8 0,_,aB b8 1,_,aB b8 2,_,aB b8 3,_,rfl,?_⟩;simp only[qg,Nat.zero_add,Nat.reduceAdd];refine⟨⟨_,aB bG8 1⟩,aD bG8 1,⟨_,aB t1 2⟩,aD t1 2,⟨_,aB t2 3⟩,aD t2 3,⟨_,aB t3 4⟩,aD t3 4,_,rfl,?_⟩;simp only[qg,Nat.zero_add,Nat.reduceAdd];refine⟨⟨_,aB t4 5⟩,aD t4 5,trivial,⟨?_,h.low,?_⟩,?_⟩
    · have:bits++(da gaps++(e.add ::(da fst++da snd)))=bits++da gaps++[e.add]++da fst++da snd:=by simp[List.append_assoc]
      rw[this];refine Wi.kp K9 (fun k hk ht e=>?_);subst e;exact pO bG8 Oh ht
    · exact Eq.trans (b:=some (.cells #[.pointer (some ⟨g,0,none⟩),.int .i64 e.t,.int .u32 e.u,.int .u32 e.v,.bool e.add,.bool true] 166 (0,0))) (by simpa using t5) rfl
    · exact(Kw8.mono (fun k _ h=>.inl h)).then K9 (fun k _ h=>.inr h)
theorem ny.mem{l:List aW}(h:ny l){e:aW}(he:e∈l):(0<=e.u/\e.u<=4294967295)/\0<=e.v/\e.v<=4294967295:=(h e he).1
theorem uF {w:World} {A:OA} {n c:Nat} {l:List aW} {t0:Int} (hr:aZ w A (cE l)) (hn:n=l.length) (hl:n<=2^19) (hb:ny l) :
    Calls P 67 #[.int .i64 t0,.slice A n c] w fun ev w'=>∃(A':OA)(n' c':Nat),ev=.returned (.tuple #[.slice A' n' c',.int .i64 (if kl t0 none l=true then 0 else 23)])/\aE w' w.heap.size 5 1 A' n' c' (bV (if kl t0 none l=true then db t0 l else []))/\w.grownBy w' none:=by
  apply vc67;dsimp only[VC67,rt,Wt,Br,Rd,Ix,Ws,cB,cS,cU,nb,ad,al,iq]
  try simp only[aF]
  refine(xp (t0:=t0) hr hn (by omega)).mono fun ev w1 hh=>?_;obtain⟨rfl,g1⟩:=hh;refine⟨_,rfl,fun h=>?_,fun h=>?_⟩
  · rw[h];exact⟨_,_,_,rfl,aE.nil _ _ _ _,g1⟩
  have hd:kl t0 none l=true:=by simpa using h
  rw[hd];have hD:=(jN hb).1 hd;have FI:=iX (fun q hq=>by cases hq) hD;refine(my (base:=w.heap.size) g1.size).mono fun ev w2 hh=>?_;obtain⟨rfl,KR,g2⟩:=hh;have g3:=World.grownBy_alloc w2 (.cells #[.pointer (some ⟨w1.heap.size,0,none⟩),.int .i64 t0,.int .u32 0,.int .u32 0,.bool false,.bool false] 166) none;have b3:(w2.alloc (.cells #[.pointer (some ⟨w1.heap.size,0,none⟩),.int .i64 t0,.int .u32 0,.int .u32 0,.bool false,.bool false] 166)).heap[w2.heap.size]?=some (.cells #[.pointer (some ⟨w1.heap.size,0,none⟩),.int .i64 t0,.int .u32 0,.int .u32 0,.bool false,.bool false] 166 (0,0)):=heap_alloc_new w2 _;have GQ:=aA g1 g2;have IZ:w.heap.size<=w2.heap.size:=GQ.size;obtain⟨w3,GF⟩:∃ w3,w3=w2.alloc (.cells #[.pointer (some ⟨w1.heap.size,0,none⟩),.int .i64 t0,.int .u32 0,.int .u32 0,.bool false,.bool false] 166):=⟨_,rfl⟩;refine⟨_,rfl,?_⟩;rw[← GF]at g3 b3 ⊢;have D0:DWr w3 w.heap.size w1.heap.size w2.heap.size t0 none []:=⟨KR.kept g3,IZ,b3⟩;have FY:=aA GQ g3;refine⟨fun m i w'=>∃ p:Nat,i=(p:Int)/\p<=l.length/\l.length-p=m/\w.grownBy w' none/\DWr w' w.heap.size w1.heap.size w2.heap.size t0 (cW (l.take p) none) (cX t0 none (l.take p)),⟨_,0,rfl,by omega,rfl,FY,by simpa[cW,cX]using D0⟩,?_⟩;rintro m i w4 ⟨p,rfl,hp,rfl,hg,hW⟩;have tp:(p:Int).toNat=p:=by omega
  rw[tp];refine⟨fun FE=>?_,fun FJ=>?_⟩
  · have lp:p<l.length:=by omega
    obtain⟨a,e1,e2,e3,e4,e5⟩:=eE (hr.kept_none hg) lp;obtain⟨w5,hE,pE0,qE0,pE1,qE1,pE2,qE2,pE3,qE3,bE,gE⟩:=nY w4 62 (.int .i64 0) (.int .u32 0) (.int .u32 0) (.bool false) (.int .i64 l[p].t) (.int .u32 l[p].u) (.int .u32 l[p].v) (.bool l[p].add);refine⟨a,e1,by omega,by omega,_,e2,_,e3,_,e4,_,e5,pE0,qE0,pE1,qE1,pE2,qE2,pE3,qE3,?_⟩;rw[← hE];have JK:l=l.take p++(l[p] ::l.drop (p+1)):=by rw[← List.drop_eq_getElem_cons lp,List.take_append_drop]
    have Kc:=hD;rw[JK,dV.append]at Kc;obtain⟨PW,Jf,_⟩:=Kc;have Ot:=iX (fun q hq=>by cases hq) PW;have JA:(l.take p).length<=2^19:=by rw[List.length_take];omega
    have Gi:∀ q,cW (l.take p) none=some q->q∈l:=by
      intro q hq;cases p with
      | zero=>simp[cW]at hq
      | succ p =>
        rw[List.take_succ_eq_append_getElem (show p<l.length by omega),eQ]at hq;cases hq;exact List.getElem_mem _
    have Ka:iG (cW (l.take p) none):=by
      intro q hq;have h1:=hb.mem (Gi q hq);obtain⟨j,hj,rfl⟩:=List.mem_iff_getElem.1 (Gi q hq);have h2:=(jm.1 hd).1 _ (Gi _ hq);omega
    refine⟨_,aB bE 0,_,aB bE 1,_,aB bE 2,_,aB bE 3,(yO (e:=l[p]) (⟨hW.wr.kept gE,hW.low,aI hW.blk gE⟩:DWr w5 _ _ _ _ _ _) Jf Ka (fun q hq=>by have:=hb.mem (Gi q hq);omega) (by omega) (Nat.le_trans hg.size gE.size) ?_).mono fun ev w6 hh=>?_⟩
    · by_cases MS:p=0
      · left;subst MS;have:=Jf.1;have h2:=Jf.2.2;simp[cW]at h2;omega
      · right;obtain⟨k,rfl⟩:∃ k,p=k+1:=⟨p-1,by omega⟩;rw[List.take_succ_eq_append_getElem (show k<l.length by omega),eQ];simp
    · obtain⟨rfl,h6,K6⟩:=hh;refine⟨rfl,by omega,_,?_,p+1,by omega,by omega,rfl,(((Kp.of_none (S:=fun k=>w.heap.size<=k) (aA hg gE)).then K6 (fun k _ h=>by rcases h with h | h;exact h.1;omega)).grown (fun k hk e=>by omega)),?_⟩
      · omega
      · rw[List.take_succ_eq_append_getElem lp,eQ,iE];have:cX t0 (cW (l.take p) none) [l[p]]=qM t0 (cW (l.take p) none) l[p]:=by simp[cX]
        rw[this];exact h6
  · have:p=l.length:=by omega
    subst this;rw[List.take_length]at hW;refine⟨_,rfl,_,aB hW.blk 0,(sg hW.wr (by omega)).mono fun ev w5 hh=>?_⟩;obtain⟨B,k,d,rfl,oB,g5⟩:=hh;exact⟨_,_,_,rfl,_,_,_,rfl,oB.mono hg.size,aA hg g5⟩
structure qU(w:World)(g gr:Nat)(A:OA)(n c:Nat)(l:List Int)(at_:Nat)(q:aW)(any ok:Bool):Prop where
 rd:jn w g A n c l at_
 blk:w.heap[gr]?=some (.cells #[.pointer (some ⟨g,0,none⟩),.int .i64 q.t,.int .u32 q.u,.int .u32 q.v,.bool q.add,.bool any,.bool ok] 192 (0,0))
 ne:g≠gr
 neA:∀ a,A=some a->l=[]∨a.block≠gr
theorem qU.kept{w w':World}{g gr:Nat}{A:OA}{n c:Nat}{l:List Int}{at_:Nat}{q:aW}{any ok:Bool}(h:qU w g gr A n c l at_ q any ok)(hg:w.grownBy w' none):qU w' g gr A n c l at_ q any ok :=
 ⟨h.rd.kept hg,aI h.blk hg,h.ne,h.neA⟩
theorem qU.mark{w:World}{g gr:Nat}{A:OA}{n c:Nat}{l:List Int}{at_:Nat}{q:aW}{any ok:Bool}(h:qU w g gr A n c l at_ q any ok)(b:Bool):
    qU (w.setCell ((⟨gr,0,none⟩:Addr).add 6) (.bool b)) g gr A n c l at_ q any b/\Kp w (w.setCell ((⟨gr,0,none⟩:Addr).add 6) (.bool b)) (fun k=>k=gr):=by
  rw[aP];have K:Kp w (w.setCell ⟨gr,6,none⟩ (.bool b)) (fun k=>k=gr):=bK (Kp.refl w _) rfl;exact⟨⟨h.rd.kp K h.ne (fun a ha=>h.neA a ha),by simpa using aG h.blk 6 (.bool b),h.ne,h.neA⟩,K⟩
theorem qU.flag{w:World}{g gr:Nat}{A:OA}{n c:Nat}{l:List Int}{at_:Nat}{q:aW}{any ok:Bool}(h:qU w g gr A n c l at_ q any ok):w.cell? ((⟨gr,0,none⟩:Addr).add 6)=some (.bool ok)/\w.frozen? ((⟨gr,0,none⟩:Addr).add 6)=false:=by
 rw[aP];exact⟨aB h.blk 6,aD h.blk 6⟩
def uW(bs:List Bool)(most v:Int)(k:Nat)(b:Bool):Prop:=(∃ v' k',pX bs=some (v',k')/\v=v'/\k=k'/\b=decide (v'<=most))∨(pX bs=none/\v=0/\k=0/\b=false)
theorem pu{w:World}{g gr:Nat}{A:OA}{n c:Nat}{l:List Int}{at_:Nat}{q:aW}{any ok:Bool}{most:Int}(h:qU w g gr A n c l at_ q any ok)(hl:l.length<=2^40)(hb:aQ l):
    Calls P 165 #[.pointer (some ⟨gr,0,none⟩),.int .u64 most] w fun ev w'=>∃(v:Int)(k:Nat)(b:Bool),ev=.returned (.int .u64 v)/\uW ((aM l).drop at_) most v k b/\qU w' g gr A n c l (at_+k) q any (ok && b)/\Kp w w' (fun k=>k=g∨k=gr):=by
  apply vc165;dsimp only[VC165,Wt,Bb];refine⟨_,rfl,_,aB h.blk 0,(yE h.rd hl hb).mono fun ev w1 hh=>?_⟩;obtain⟨K1,hG⟩:=hh;have OF:=(Array.getElem?_eq_some_iff.1 h.blk).1;have b1:w1.heap[gr]?=some (.cells #[.pointer (some ⟨g,0,none⟩),.int .i64 q.t,.int .u32 q.u,.int .u32 q.v,.bool q.add,.bool any,.bool ok] 192 (0,0)):=by rw[K1.block gr OF (fun e=>h.ne e.symm)];exact h.blk
  unfold DT at hG;obtain⟨v,k,b,is,hR,he,hN,Ge⟩:∃(v:Int)(k:Nat)(b is:Bool),jn w1 g A n c l (at_+k)/\ev=.returned (.tuple #[.int .u64 v,.bool is])/\uW ((aM l).drop at_) most v k b/\b=(is && decide (v<=most)):=by
    cases hT:pX ((aM l).drop at_)with
    | none =>
      rw[hT]at hG;exact⟨0,0,false,false,hG.2,hG.1,.inr ⟨hT,rfl,rfl,rfl⟩,rfl⟩
    | some x =>
      obtain⟨v,k⟩:=x;rw[hT]at hG;exact⟨v,k,decide (v<=most),true,hG.2,hG.1,.inl ⟨v,k,hT,rfl,rfl,rfl⟩,by simp⟩
  have hD:qU w1 g gr A n c l (at_+k) q any ok:=⟨hR,b1,h.ne,h.neA⟩;have st:∀ b':Bool,b'=(ok && b)->∃(v':Int)(k:Nat)(b:Bool),Ending.returned (.int .u64 v)=.returned (.int .u64 v')/\uW ((aM l).drop at_) most v' k b/\qU (World.setCell w1 ((⟨gr,0,none⟩:Addr).add 6) (.bool b')) g gr A n c l (at_+k) q any (ok && b)/\Kp w (World.setCell w1 ((⟨gr,0,none⟩:Addr).add 6) (.bool b')) (fun k=>k=g∨k=gr):=by
    intro b' GP;obtain⟨m1,m2⟩:=hD.mark b';exact⟨v,k,b,rfl,hN,by rw[← GP];exact m1,(K1.mono (fun k _ h=>.inl h)).then m2 (fun k _ h=>.inr h)⟩
  refine⟨v,is,he,_,rfl,ok,hD.flag.1,fun ho=>⟨fun hi=>⟨_,rfl,⟨_,hD.flag.1⟩,hD.flag.2,st _ ?_⟩,fun hi=>⟨_,rfl,⟨_,hD.flag.1⟩,hD.flag.2,st _ ?_⟩⟩,fun ho=>⟨_,rfl,⟨_,hD.flag.1⟩,hD.flag.2,st _ ?_⟩⟩
  · rw[ho,Ge,hi];rfl
  · rw[ho,Ge,hi];rfl
  · rw[ho];rfl
theorem uW.ok{bs:List Bool}{most v:Int}{k:Nat}{b:Bool}(h:uW bs most v k b)(hb:b=true):1<=v/\v<=most/\0<k/\k<=bs.length:=by
 rcases h with⟨v',k',h1,rfl,rfl,rfl⟩ | ⟨_,_,_,rfl⟩
 ·have:=EH h1;have:=of_decide_eq_true hb;omega
 ·cases hb
theorem uW.put{bs rest:List Bool}{most v:Int}{k x:Nat}{b:Bool}(h:uW bs most v k b)(hx:0<x/\x<2^64)(hm:(x:Int)<=most)(he:bs=da x++rest):v=(x:Int)/\k=(da x).length/\b=true/\bs.drop k=rest:=by
 have ht:=pW hx.1 hx.2 rest;rw[← he]at ht;rcases h with⟨v',k',h1,rfl,rfl,rfl⟩ | ⟨h1,_⟩
 ·rw[ht]at h1;simp only[Option.some.injEq,Prod.mk.injEq]at h1;obtain⟨rfl,rfl⟩:=h1;exact⟨rfl,rfl,by simpa using hm,by rw[he,List.drop_left' rfl]⟩
 ·rw[ht]at h1;cases h1
def uV(e:aW):Prop:=(0<=e.t/\e.t<=4611686018427387903)/\0<=e.u/\e.u<e.v/\e.v<=4294967295
theorem CM(x:Int):0<=IntKind.u32.wrap x/\IntKind.u32.wrap x<=4294967295:=by
 have h:IntKind.u32.wrap x=x % 4294967296:=rfl;rw[h];omega
theorem nC{x:Int}(hx:0<=x/\x<=4294967295):IntKind.u32.wrap x=x:=by
 have h:IntKind.u32.wrap x=x % 4294967296:=rfl;rw[h];omega
theorem xq {w : World} {g gr:Nat} {A:OA} {n c:Nat} {l:List Int} {at_:Nat} {t0:Int} {p:Option aW} (h:qU w g gr A n c l at_ (aY t0 p) p.isSome true) (hl:l.length<=2^40) (hb:aQ l) (LK:0<=t0/\t0<=4611686018427387903) (hp:∀ q,p=some q->uV q) :
    Calls P 124 #[.pointer (some ⟨gr,0,none⟩)] w fun ev w'=>∃(e:aW)(at':Nat)(p':Option aW)(ok:Bool),ev=.returned (evtV e)/\qU w' g gr A n c l at' (aY t0 p') p'.isSome ok/\Kp w w' (fun k=>k=g∨k=gr)/\(0<=e.u/\e.u<=4294967295)/\(0<=e.v/\e.v<=4294967295)/\(-9223372036854775808<=e.t/\e.t<=9223372036854775807)/\at_<=at' ∧
      (ok=true->p'=some e/\uV e/\at_<at') ∧
      ∀ e0 rest,zp t0 p e0->(aM l).drop at_=qM t0 p e0++rest->ok=true/\e=e0/\(aM l).drop at'=rest:=by
  apply vc124;dsimp only[VC124,Wt,Br,Bb,Rd,Ws,cI,nb,iq]
  try simp only[aF]
  have hq:(0<=(aY t0 p).t/\(aY t0 p).t<=4611686018427387903)/\(0<=(aY t0 p).u/\(aY t0 p).u<=4294967295)/\0<=(aY t0 p).v/\(aY t0 p).v<=4294967295/\(p.isSome=true->(aY t0 p).u<(aY t0 p).v):=by
    cases p with
    | none=>simp[aY];omega
    | some q=>have:=hp q rfl;unfold uV at this;simp[aY];omega
  have Ka:iG p:=fun q hq=>by have:=hp q hq;unfold uV at this;omega
  have MD:=mc t0 p;have ME:=md t0 p;have My:=ma t0 p;obtain⟨q,NS⟩:∃ q,q=aY t0 p:=⟨_,rfl⟩;obtain⟨any,IG⟩:∃ any,any=p.isSome:=⟨_,rfl⟩;rw[← NS,← IG]at h;rw[← NS]at hq MD ME My;rw[← IG]at hq ME My;have Q2:=(Array.getElem?_eq_some_iff.1 h.blk).1;have Ko:=(Array.getElem?_eq_some_iff.1 h.rd.blk).1;obtain⟨w0,Ht,g0,b0⟩:=fZ w #[.int .i64 0,.int .u32 0,.int .u32 0,.bool false] 62;rw[← Ht];have keepR:∀ {W W':World},W.heap[w.heap.size]?=some (.cells #[.int .i64 0,.int .u32 0,.int .u32 0,.bool false] 62 (0,0))->Kp W W' (fun k=>k=g∨k=gr)->W'.heap[w.heap.size]?=some (.cells #[.int .i64 0,.int .u32 0,.int .u32 0,.bool false] 62 (0,0)):=by
    intro W W' hB hK;rw[hK.block _ (Array.getElem?_eq_some_iff.1 hB).1 (by omega)];exact hB
  refine(pu (most:=4611686018427387904) (h.kept g0) hl hb).mono fun ev w1 hh=>?_;obtain⟨tv,k1,o1,rfl,N1,D1,K1⟩:=hh;rw[Bool.true_and]at D1;have KY:=keepR b0 K1;refine⟨_,rfl,_,rfl,_,aB D1.blk 0,(lr (k:=1) D1.rd hl hb (by omega)).mono fun ev w2 hh=>?_⟩;obtain⟨K2,Wp⟩:=hh;have Q1:=(Array.getElem?_eq_some_iff.1 D1.blk).1
  obtain⟨sv,o2,k2,Q6,D2,Lu⟩:∃(sv:Int)(o2:Bool)(k2:Nat),ev=.returned (.tuple #[.int .u64 sv,.bool o2])/\qU w2 g gr A n c l (at_+k1+k2) q any o1 ∧
      ((o2=true/\k2=1/\at_+k1+1<=8*l.length/\sv=eS (dD l (at_+k1)))∨(o2=false/\k2=0/\sv=0/\8*l.length<at_+k1+1)):=by
    have Ls:w2.heap[gr]?=_:=(K2.block gr Q1 (fun e=>h.ne e.symm)).trans D1.blk;rcases Wp with⟨r1,r2,r3⟩ | ⟨r1,r2,r3⟩
    · rw[kq r1]at r2;exact⟨_,true,1,r2,⟨r3,Ls,h.ne,h.neA⟩,.inl ⟨rfl,rfl,r1,rfl⟩⟩
    · exact⟨_,false,0,r2,⟨r3,Ls,h.ne,h.neA⟩,.inr ⟨rfl,rfl,rfl,r1⟩⟩
  have KX:=keepR KY (K2.mono (fun k _ h=>.inl h));refine⟨sv,o2,Q6,(pu (most:=4294967296) D2 hl hb).mono fun ev w3 hh=>?_⟩;obtain⟨uv,k3,o3,rfl,N3,D3,K3⟩:=hh;have Lv:=keepR KX K3;refine⟨_,rfl,(pu (most:=4294967296) D3 hl hb).mono fun ev w4 hh=>?_⟩;obtain⟨vv,k4,o4,rfl,N4,D4,K4⟩:=hh;have TG:=keepR Lv K4;have Kw4:Kp w w4 (fun k=>k=g∨k=gr):=((((Kp.of_none (S:=fun k=>k=g∨k=gr) g0).then K1 (fun k _ h=>h)).then K2 (fun k _ h=>.inl h)).then K3 (fun k _ h=>h)).then K4 (fun k _ h=>h);have lenb:∀ a:Nat,((aM l).drop a).length=8*l.length-a:=fun a=>by rw[List.length_drop,cQ]
  -- what comes of bits that begin with an event's
  have cond:∀ e0 rest,zp t0 p e0->(aM l).drop at_=qM t0 p e0++rest->tv=(gi t0 p e0:Int)/\o1=true/\o2=true/\sv=eS e0.add/\uv=(jj p e0:Int)/\o3=true/\vv=(iL p e0:Int)/\o4=true/\(aM l).drop (at_+k1+k2+k3+k4)=rest:=by
    intro e0 rest he Gg;have hn:=he.nums Ka;unfold qM at Gg;simp only[List.append_assoc,List.cons_append]at Gg;obtain⟨c1,c2,c3,c4⟩:=N1.put ⟨by unfold gi;omega,by omega⟩ (by have:=he.1;have:=he.2.2;rw[MD];have:=hq.1;omega) Gg;rw[List.drop_drop]at c4;have SH:at_+k1<8*l.length:=by
      have:=congrArg List.length c4;rw[lenb]at this;simp at this;omega
    have hd:=nP (l:=l) (at_:=at_+k1) (by omega);rw[hd]at c4;simp only[List.cons.injEq]at c4;rcases Lu with⟨s1,s2,s3,s4⟩ | ⟨s1,s2,s3,s4⟩
    · subst s2;obtain⟨c5,c6,c7,c8⟩:=N3.put ⟨hn.2.1.1,by omega⟩ (by omega) c4.2;rw[List.drop_drop]at c8;obtain⟨c9,c10,c11,c12⟩:=N4.put ⟨hn.2.2.1,by omega⟩ (by omega) c8;rw[List.drop_drop]at c12;exact⟨c1,c3,s1,by rw[s4,c4.1],c5,c7,c9,c11,c12⟩
    · omega
  refine⟨_,rfl,fun W=>qU W g gr A n c l (at_+k1+k2+k3+k4) q any (((o1 && o3) && o4) && o2)/\Kp w W (fun k=>k=g∨k=gr)/\W.heap[w.heap.size]?=some (.cells #[.int .i64 0,.int .u32 0,.int .u32 0,.bool false] 62 (0,0)),⟨_,rfl,_,D4.flag.1,fun ho=>⟨_,rfl,⟨_,D4.flag.1⟩,D4.flag.2,?_⟩,fun ho=>⟨_,rfl,⟨_,D4.flag.1⟩,D4.flag.2,?_⟩⟩,?_⟩
  · obtain⟨m1,m2⟩:=D4.mark o2;rw[ho,Bool.true_and];exact⟨m1,Kw4.then m2 (fun k _ h=>.inr h),keepR TG (m2.mono (fun k _ h=>.inr h))⟩
  · obtain⟨m1,m2⟩:=D4.mark false;rw[ho,Bool.false_and];exact⟨m1,Kw4.then m2 (fun k _ h=>.inr h),keepR TG (m2.mono (fun k _ h=>.inr h))⟩
  rintro w5 ⟨D5,K5,IT⟩;generalize Sy:(((o1 && o3) && o4) && o2)=oo at D5;have Hl:w.heap.size≠gr/\w.heap.size≠g:=by omega
  refine⟨_,rfl,oo,D5.flag.1,fun hf=>?_,fun ht=>?_⟩
  · -- it ends VG
    subst hf;have s1:=aG IT 0 (.int .i64 0);have s2:=aG s1 1 (.int .u32 0);have s3:=aG s2 2 (.int .u32 0);have s4:=aG s3 3 (.bool false);have K6:Kp w5 ((((w5.setCell ⟨w.heap.size,0,none⟩ (.int .i64 0)).setCell ⟨w.heap.size,1,none⟩ (.int .u32 0)).setCell ⟨w.heap.size,2,none⟩ (.int .u32 0)).setCell ⟨w.heap.size,3,none⟩ (.bool false)) (fun k=>k=w.heap.size):=bK (bK (bK (bK (Kp.refl w5 _) rfl) rfl) rfl) rfl;refine⟨⟨_,aB IT 0⟩,aD IT 0,⟨_,aB s1 1⟩,aD s1 1,⟨_,aB s2 2⟩,aD s2 2,⟨_,aB s3 3⟩,aD s3 3,_,aB s4 0,_,aB s4 1,_,aB s4 2,_,aB s4 3,⟨0,0,0,false⟩,at_+k1+k2+k3+k4,p,false,rfl,?_,?_,by simp,by simp,by simp,by omega,fun h=>(by cases h),fun e0 rest he Gg=>?_⟩
    · rw [← NS,← IG]
      exact ⟨D5.rd.kp K6 (fun e=>Hl.2 e.symm) (fun a ha=>(D5.rd.row.blk (w:=w5) |>fun _=>by
          by_cases hx:l=[]
          · exact .inl hx
          · obtain⟨b,e1,e2⟩:=h.rd.row.blk (by intro e;exact hx (by simpa[bV]using e));rw[ha]at e1;cases e1;exact .inr (by omega))),by rw[K6.block gr (Array.getElem?_eq_some_iff.1 D5.blk).1 (by omega)];exact D5.blk,h.ne,h.neA⟩
    · exact K5.step (r:=some w.heap.size) ⟨K6.os,K6.tape,K6.output,K6.size,fun k hk hr=>K6.block k hk (fun e=>hr (by rw[e]))⟩ (fun k hk=>by cases hk;exact .inl (Nat.le_refl _))
    · have:=cond e0 rest he Gg;rw[this.2.1,this.2.2.1,this.2.2.2.2.2.1,this.2.2.2.2.2.2.2.1]at Sy;simp at Sy
  · have Up : oo=true:=by simpa using ht
    subst Up;have PA:o1=true/\o3=true/\o4=true/\o2=true:=by
      cases o1 <;>cases o3 <;>cases o4 <;>cases o2 <;>simp_all
    have n1:=N1.ok PA.1;have n3:=N3.ok PA.2.1;have n4:=N4.ok PA.2.2.1;rw[lenb]at n1 n3 n4;have HN:k2=1/\sv=eS (dD l (at_+k1)):=by
      rcases Lu with⟨s1,s2,s3,s4⟩ | ⟨s1,_⟩
      · exact⟨s2,s4⟩
      · rw[PA.2.2.2]at s1;cases s1
    -- the event's block
    obtain⟨T,O8⟩:∃ T,T=q.t+(tv-1):=⟨_,rfl⟩;have s0:(w5.alloc (.cells #[.int .i64 0,.int .u32 0,.int .u32 0,.bool false] 62)).heap[w5.heap.size]?=some (.cells #[.int .i64 0,.int .u32 0,.int .u32 0,.bool false] 62 (0,0)):=heap_alloc_new w5 _;have s1:=aG s0 0 (.int .i64 T);have s2:=aG s1 1 (.int .u32 0);have s3:=aG s2 2 (.int .u32 0);have s4:=aG s3 3 (.bool (decide (sv=1)));have gA:w5.grownBy ((((((w5.alloc (.cells #[.int .i64 0,.int .u32 0,.int .u32 0,.bool false] 62)).setCell ⟨w5.heap.size,0,none⟩ (.int .i64 T)).setCell ⟨w5.heap.size,1,none⟩ (.int .u32 0)).setCell ⟨w5.heap.size,2,none⟩ (.int .u32 0)).setCell ⟨w5.heap.size,3,none⟩ (.bool (decide (sv=1))))) none :=
      (bK (bK (bK (bK (Kp.of_none (S:=fun k=>w5.heap.size<=k) (gK (aC w5 none) _)) (Nat.le_refl _)) (Nat.le_refl _)) (Nat.le_refl _)) (Nat.le_refl _)).grown (fun k hk e=>by omega)
    have bA:((((((w5.alloc (.cells #[.int .i64 0,.int .u32 0,.int .u32 0,.bool false] 62)).setCell ⟨w5.heap.size,0,none⟩ (.int .i64 T)).setCell ⟨w5.heap.size,1,none⟩ (.int .u32 0)).setCell ⟨w5.heap.size,2,none⟩ (.int .u32 0)).setCell ⟨w5.heap.size,3,none⟩ (.bool (decide (sv=1))))).heap[w5.heap.size]?=some (.cells #[.int .i64 T,.int .u32 0,.int .u32 0,.bool (decide (sv=1))] 62 (0,0)):=by simpa using s4
    refine⟨_,rfl,_,by rw[aP];exact aB D5.blk 1,by omega,by omega,by omega,?_⟩;rw[← O8];refine⟨⟨_,aB s0 0⟩,aD s0 0,⟨_,aB s1 1⟩,aD s1 1,⟨_,aB s2 2⟩,aD s2 2,⟨_,aB s3 3⟩,aD s3 3,by omega,?_⟩;obtain⟨w6,Uh⟩:∃ w6,w6=(((((w5.alloc (.cells #[.int .i64 0,.int .u32 0,.int .u32 0,.bool false] 62)).setCell ⟨w5.heap.size,0,none⟩ (.int .i64 T)).setCell ⟨w5.heap.size,1,none⟩ (.int .u32 0)).setCell ⟨w5.heap.size,2,none⟩ (.int .u32 0)).setCell ⟨w5.heap.size,3,none⟩ (.bool (decide (sv=1)))):=⟨_,rfl⟩;rw[← Uh]at gA bA ⊢;have D6:=D5.kept gA;have Pi:=aI IT gA;have K6:Kp w w6 (fun k=>k=g∨k=gr):=K5.then (Kp.of_none gA) (fun k _ h=>h)
    -- the vertices
    obtain⟨U,hU⟩:∃ U:Int,U=if any=true/\tv=1 then uv-1+q.u else uv-1:=⟨_,rfl⟩;obtain⟨Bs,Jx⟩:∃ Bs:Int,Bs=if(any=true/\tv=1)/\U=q.u then q.v-U else 0:=⟨_,rfl⟩;have XI:0<=U/\U<=8589934592:=by rw[hU];split <;>omega
    have XZ:0<=Bs/\Bs<=4294967295:=by
      rw[Jx];split
      · rename_i hc;have:=hq.2.2.2.2 hc.1.1;omega
      · omega
    refine⟨fun u b W=>u=U/\b=Bs/\W=w6,⟨fun b W=>b=(any && decide (tv=1))/\W=w6,⟨_,rfl,_,by rw[aP];exact aB D6.blk 5,fun ha=>⟨by rw[ha];rfl,rfl⟩,fun ha=>⟨by rw[ha];rfl,rfl⟩⟩,?_⟩,?_⟩
    · rintro b W ⟨Ge,rfl⟩;refine⟨fun JF=>?_,fun HP=>⟨?_,?_,rfl⟩⟩
      · rw[JF]at Ge;have GP:=Ge.symm;simp only[Bool.and_eq_true,decide_eq_true_eq]at GP;rw[if_pos GP]at hU;refine⟨_,rfl,_,by rw[fp,aP];exact aB D6.blk 2,by omega,by omega,fun bb W'=>bb=Bs/\W'=W,⟨_,rfl,_,by rw[fp,aP];exact aB D6.blk 2,by omega,fun hs=>?_,fun hs=>⟨?_,rfl⟩⟩,?_⟩
        · rw[if_pos ⟨GP,by omega⟩]at Jx;have:=hq.2.2.2.2 GP.1;refine⟨_,rfl,_,by rw[fp,fp,aP];exact aB D6.blk 3,by omega,by omega,by omega,rfl⟩
        · rw[if_neg (by rintro⟨_,h2⟩;omega)]at Jx;exact Jx.symm
        · rintro bb W' ⟨rfl,rfl⟩;exact⟨by omega,rfl,rfl⟩
      · have:¬ (any=true/\tv=1):=by rintro⟨a1,a2⟩;rw[a1,HP]at Ge;simp[a2]at Ge
        rw[if_neg this]at hU;omega
      · have:¬ (any=true/\tv=1):=by rintro⟨a1,a2⟩;rw[a1,HP]at Ge;simp[a2]at Ge
        rw[if_neg (fun hc=>this hc.1)]at Jx;exact Jx.symm
    · rintro u bs W ⟨rfl,rfl,rfl⟩;obtain⟨V,hV⟩:∃ V,V=vv+(u+bs):=⟨_,rfl⟩;refine⟨by omega,by omega,?_⟩;rw[← hV];obtain⟨o7,JP⟩:∃ o7:Bool,o7=(decide (T<=4611686018427387903) && (decide (u<=4294967295) && decide (V<=4294967295))):=⟨_,rfl⟩;refine⟨fun W'=>qU W' g gr A n c l (at_+k1+k2+k3+k4) q any o7/\Kp w W' (fun k=>k=g∨k=gr)/\W'.heap[w.heap.size]?=some (.cells #[.int .i64 0,.int .u32 0,.int .u32 0,.bool false] 62 (0,0))/\W'.heap[w5.heap.size]?=some (.cells #[.int .i64 T,.int .u32 0,.int .u32 0,.bool (decide (sv=1))] 62 (0,0)),?_,?_⟩
      · have l5:w.heap.size<w5.heap.size:=(Array.getElem?_eq_some_iff.1 IT).1;have st:∀ b:Bool,b=o7->qU (W.setCell ((⟨gr,0,none⟩:Addr).add 6) (.bool b)) g gr A n c l (at_+k1+k2+k3+k4) q any o7/\Kp w (W.setCell ((⟨gr,0,none⟩:Addr).add 6) (.bool b)) (fun k=>k=g∨k=gr)/\(W.setCell ((⟨gr,0,none⟩:Addr).add 6) (.bool b)).heap[w.heap.size]?=some (.cells #[.int .i64 0,.int .u32 0,.int .u32 0,.bool false] 62 (0,0))/\(W.setCell ((⟨gr,0,none⟩:Addr).add 6) (.bool b)).heap[w5.heap.size]?=some (.cells #[.int .i64 T,.int .u32 0,.int .u32 0,.bool (decide (sv=1))] 62 (0,0)):=by
          rintro b rfl;obtain⟨m1,m2⟩:=D6.mark b;refine⟨m1,K6.then m2 (fun k _ h=>.inr h),keepR Pi (m2.mono (fun k _ h=>.inr h)),?_⟩;rw[m2.block _ (Array.getElem?_eq_some_iff.1 bA).1 (by omega)];exact bA
        refine⟨_,aB bA 0,fun c1=>⟨fun c2=>⟨_,rfl,⟨_,D6.flag.1⟩,D6.flag.2,st _ ?_⟩,fun c2=>⟨_,rfl,⟨_,D6.flag.1⟩,D6.flag.2,st _ ?_⟩⟩,fun c1=>⟨_,rfl,⟨_,D6.flag.1⟩,D6.flag.2,st _ ?_⟩⟩
        · rw[JP];simp[c1,c2]
        · rw[JP];simp;omega
        · rw[JP];simp;omega
      · rintro w7 ⟨D7,K7,TD,bE7⟩;have l5:w.heap.size<w5.heap.size:=(Array.getElem?_eq_some_iff.1 IT).1;have Uf:=CM u;have Ue:=CM V;obtain⟨Eu,PV⟩:∃ Eu,Eu=IntKind.u32.wrap u:=⟨_,rfl⟩;obtain⟨Ev,PU⟩:∃ Ev,Ev=IntKind.u32.wrap V:=⟨_,rfl⟩;rw[← PV,← PU];have r1:=aG bE7 1 (.int .u32 Eu);have r2:=aG r1 2 (.int .u32 Ev);have K8:Kp w7 ((w7.setCell ⟨w5.heap.size,1,none⟩ (.int .u32 Eu)).setCell ⟨w5.heap.size,2,none⟩ (.int .u32 Ev)) (fun k=>k=w5.heap.size):=bK (bK (Kp.refl w7 _) rfl) rfl;have bE8:((w7.setCell ⟨w5.heap.size,1,none⟩ (.int .u32 Eu)).setCell ⟨w5.heap.size,2,none⟩ (.int .u32 Ev)).heap[w5.heap.size]?=some (.cells #[.int .i64 T,.int .u32 Eu,.int .u32 Ev,.bool (decide (sv=1))] 62 (0,0)):=by simpa using r2
        refine⟨⟨_,aB bE7 1⟩,aD bE7 1,⟨_,aB r1 2⟩,aD r1 2,?_⟩;obtain⟨w8,P5⟩:∃ w8,w8=(w7.setCell ⟨w5.heap.size,1,none⟩ (.int .u32 Eu)).setCell ⟨w5.heap.size,2,none⟩ (.int .u32 Ev):=⟨_,rfl⟩;rw[← P5]at K8 bE8 ⊢;have bR8:w8.heap[gr]?=_:=(K8.block gr (Array.getElem?_eq_some_iff.1 D7.blk).1 (by have:=Q2;omega)).trans D7.blk;have TC:w8.heap[w.heap.size]?=_:=(K8.block _ (Array.getElem?_eq_some_iff.1 TD).1 (by omega)).trans TD;have t1:=aG bR8 1 (.int .i64 T);have t2:=aG t1 2 (.int .u32 Eu);have t3:=aG t2 3 (.int .u32 Ev);have t4:=aG t3 4 (.bool (decide (sv=1)));have t5:=aG t4 5 (.bool true);have K9:Kp w8 (((((w8.setCell ⟨gr,1,none⟩ (.int .i64 T)).setCell ⟨gr,2,none⟩ (.int .u32 Eu)).setCell ⟨gr,3,none⟩ (.int .u32 Ev)).setCell ⟨gr,4,none⟩ (.bool (decide (sv=1)))).setCell ⟨gr,5,none⟩ (.bool true)) (fun k=>k=gr):=bK (bK (bK (bK (bK (Kp.refl w8 _) rfl) rfl) rfl) rfl) rfl;refine⟨_,aB bE8 0,_,aB bE8 1,_,aB bE8 2,_,aB bE8 3,_,rfl,?_⟩;simp only[qg,Nat.zero_add,Nat.reduceAdd];refine⟨⟨_,aB bR8 1⟩,aD bR8 1,⟨_,aB t1 2⟩,aD t1 2,⟨_,aB t2 3⟩,aD t2 3,⟨_,aB t3 4⟩,aD t3 4,_,rfl,?_⟩;simp only[qg,Nat.zero_add,Nat.reduceAdd];refine⟨⟨_,aB t4 5⟩,aD t4 5,?_⟩;obtain⟨w9,LB⟩:∃ w9,w9=((((w8.setCell ⟨gr,1,none⟩ (.int .i64 T)).setCell ⟨gr,2,none⟩ (.int .u32 Eu)).setCell ⟨gr,3,none⟩ (.int .u32 Ev)).setCell ⟨gr,4,none⟩ (.bool (decide (sv=1)))).setCell ⟨gr,5,none⟩ (.bool true):=⟨_,rfl⟩;have bR9:w9.heap[gr]?=some (.cells #[.pointer (some ⟨g,0,none⟩),.int .i64 T,.int .u32 Eu,.int .u32 Ev,.bool (decide (sv=1)),.bool true,.bool o7] 192 (0,0)):=by rw[LB];simpa using t5
        rw[← LB]at K9 ⊢;have bE9:w9.heap[w5.heap.size]?=_:=(K9.block _ (Array.getElem?_eq_some_iff.1 bE8).1 (by omega)).trans bE8;have RT:w9.heap[w.heap.size]?=_:=(K9.block _ (Array.getElem?_eq_some_iff.1 TC).1 (by omega)).trans TC;have v1:=aG RT 0 (.int .i64 T);have v2:=aG v1 1 (.int .u32 Eu);have v3:=aG v2 2 (.int .u32 Ev);have v4:=aG v3 3 (.bool (decide (sv=1)));have K10:Kp w9 ((((w9.setCell ⟨w.heap.size,0,none⟩ (.int .i64 T)).setCell ⟨w.heap.size,1,none⟩ (.int .u32 Eu)).setCell ⟨w.heap.size,2,none⟩ (.int .u32 Ev)).setCell ⟨w.heap.size,3,none⟩ (.bool (decide (sv=1)))) (fun k=>k=w.heap.size):=bK (bK (bK (bK (Kp.refl w9 _) rfl) rfl) rfl) rfl;have Kall:Kp w ((((w9.setCell ⟨w.heap.size,0,none⟩ (.int .i64 T)).setCell ⟨w.heap.size,1,none⟩ (.int .u32 Eu)).setCell ⟨w.heap.size,2,none⟩ (.int .u32 Ev)).setCell ⟨w.heap.size,3,none⟩ (.bool (decide (sv=1)))) (fun k=>k=g∨k=gr):=by
          have a1:Kp w w9 (fun k=>k=g∨k=gr∨w.heap.size<=k):=((K7.mono (fun k _ h=>by rcases h with h | h;exact .inl h;exact .inr (.inl h))).then K8 (fun k _ h=>.inr (.inr (by omega)))).then K9 (fun k _ h=>.inr (.inl h));have a2:=a1.then K10 (fun k _ h=>.inr (.inr (by omega)));exact a2.mono (fun k hk h=>by omega)
        refine⟨_,aB bE9 0,_,aB bE9 1,_,aB bE9 2,_,aB bE9 3,⟨_,aB RT 0⟩,aD RT 0,⟨_,aB v1 1⟩,aD v1 1,⟨_,aB v2 2⟩,aD v2 2,⟨_,aB v3 3⟩,aD v3 3,_,aB v4 0,_,aB v4 1,_,aB v4 2,_,aB v4 3,⟨T,Eu,Ev,decide (sv=1)⟩,at_+k1+k2+k3+k4,some ⟨T,Eu,Ev,decide (sv=1)⟩,o7,rfl,⟨?_,?_,h.ne,h.neA⟩,Kall,by rw[PV];exact Uf,by rw[PU];exact Ue,by simp only;omega,by omega,fun ho=>?_,fun e0 rest he Gg=>?_⟩
        · have rowb:∀ a,A=some a->l=[]∨a.block<w.heap.size:=fun a ha=>by
            by_cases hx:l=[]
            · exact .inl hx
            · obtain⟨b,e1,e2⟩:=h.rd.row.blk (by intro e;exact hx (by simpa[bV]using e));rw[ha]at e1;cases e1;exact .inr e2
          exact((D7.rd.kp K8 (by omega) (fun a ha=>(rowb a ha).imp id (fun e=>by omega))).kp K9 (fun e=>h.ne e) (fun a ha=>h.neA a ha)).kp K10 (by omega) (fun a ha=>(rowb a ha).imp id (fun e=>by omega))
        · exact(K10.block gr (Array.getElem?_eq_some_iff.1 bR9).1 (by omega)).trans bR9
        · rw[ho]at JP;have IX:=JP.symm;simp only[Bool.and_eq_true,decide_eq_true_eq]at IX;have e1:Eu=u:=by rw[PV];exact nC (by omega)
          have e2:Ev=V:=by rw[PU];exact nC (by omega)
          refine⟨rfl,⟨⟨by simp only;omega,by simp only;omega⟩,by simp only;omega,by simp only;omega,by simp only;omega⟩,by omega⟩
        · obtain⟨c1,_,_,c4,c5,_,c7,_,c9⟩:=cond e0 rest he Gg;have hn:=he.nums Ka;obtain⟨h1,h2,h3⟩:=he;rw[MD]at c1;rw[ME]at c5;rw[My]at c7;have KD:q.t<=e0.t/\(any=true->e0.t=q.t->q.u<e0.u∨q.u=e0.u/\q.v<e0.v):=by
            cases p with
            | none=>simp only at h3;rw[IG,NS];simp[aY];omega
            | some q' =>
              simp only[dU]at h3;rw[IG,NS];simp only[aY,Option.getD_some];exact⟨by omega,fun _ _=>by omega⟩
          have Wm:T=e0.t:=by omega
          have FV:(any=true/\tv=1)↔(any=true/\e0.t=q.t):=by
            constructor
            · rintro⟨a1,a2⟩;exact⟨a1,by omega⟩
            · rintro⟨a1,a2⟩;exact⟨a1,by omega⟩
          have Ul:u=e0.u:=by
            rw[hU];by_cases hc:any=true/\e0.t=q.t
            · rw[if_pos (FV.2 hc)];rw[if_pos hc]at c5;have:=KD.2 hc.1 hc.2;omega
            · rw[if_neg (fun h=>hc (FV.1 h))];rw[if_neg hc]at c5;omega
          have Uk:V=e0.v:=by
            rw[hV,Jx];by_cases hc:any=true/\e0.t=q.t
            · rw[if_pos hc]at c7;have:=KD.2 hc.1 hc.2;by_cases hd:e0.u=q.u
              · rw[if_pos ⟨FV.2 hc,by omega⟩];rw[if_pos hd]at c7;omega
              · rw[if_neg (fun h=>hd (by omega))];rw[if_neg hd]at c7;omega
            · rw[if_neg hc]at c7;rw[if_neg (fun h=>hc (FV.1 h.1))];omega
          have e1:Eu=e0.u:=by rw[PV,Ul];exact nC (by omega)
          have e2:Ev=e0.v:=by rw[PU,Uk];exact nC (by omega)
          refine⟨?_,?_,c9⟩
          · rw[JP];simp;omega
          · rw[Wm,e1,e2,c4];have:decide (eS e0.add=1)=e0.add:=by cases e0.add <;>rfl
            rw[this]
theorem qU.kp{w w':World}{S:Nat->Prop}{g gr:Nat}{A:OA}{n c:Nat}{l:List Int}{at_:Nat}{q:aW}{any ok:Bool}(h:qU w g gr A n c l at_ q any ok)(hk:Kp w w' S)(h1:¬ S g)(h2:¬ S gr)(h3:∀ a,A=some a->l=[]∨¬ S a.block):qU w' g gr A n c l at_ q any ok :=
 ⟨h.rd.kp hk h1 h3,(hk.block gr (Array.getElem?_eq_some_iff.1 h.blk).1 h2).trans h.blk,h.ne,h.neA⟩
def BI(x:List Int)(t0 count n:Int)(l:List aW):Prop:=dV t0 none l/\(l.length:Int)=count/\(∀ e∈l,e.v<n)/\x=db t0 l
def EZ(x:List Int)(t0 count n:Int)(ev:Ending)(w':World):Prop :=
 (∃(A':OA)(n' c':Nat)(l:List aW),ev=.returned (.tuple #[.slice A' n' c',.int .i64 0])/\aZ w' A' (cE l)/\n'=l.length/\n'<=c'/\(A'=none->c'=0)/\BI x t0 count n l) ∨
 (ev=.returned (.tuple #[.slice none 0 0,.int .i64 21])/\∀ l,¬ BI x t0 count n l)
theorem dV.evtsB{t0:Int}:∀ {l:List aW} {p:Option aW},dV t0 p l->ny l
 | [],_,_=>by intro e he;simp at he
 | a ::l,p,h=>by
  intro e he;rcases List.mem_cons.1 he with rfl | he
  ·have h1:=h.1.1;have h2:=h.1.2.1;omega
  ·exact(dV.evtsB h.2) e he
theorem sc {w:World} {A:OA} {k c:Nat} {x:List Int} {t0 count n:Int} (hr:aZ w A (bV x)) (hk:k=x.length) (hc:k<=c) (hb:aQ x) (hl:x.length<2^16) (GN:count<=9223372036854775807) :
    Calls P 88 #[.slice A k c,.int .i64 t0,.int .i64 count,.int .u64 n] w fun ev w'=>w.grownBy w' none/\EZ x t0 count n ev w':=by
  apply vc88;dsimp only[VC88,rt,Wt,Br,Bb,Rd,Ap,Ws,cB,cT,nb,iq]
  try simp only[aF]
  have IZ:∀ a,A=some a->x=[]∨a.block<w.heap.size:=fun a ha=>by
    by_cases hx:x=[]
    · exact .inl hx
    · obtain⟨b,e1,e2⟩:=hr.blk (by intro e;exact hx (by simpa[bV]using e));rw[ha]at e1;cases e1;exact .inr e2
  refine⟨fun b w'=>(b=true↔(0<count/\(t0<0∨t0>4611686018427387903))∨count<0)/\w'=w,⟨fun h=>⟨fun h1=>⟨by simp[h,h1],rfl⟩,fun h1=>⟨fun h2=>⟨by simp[h,h2],rfl⟩,fun h2=>⟨by simp;omega,rfl⟩⟩⟩,fun h=>⟨by simp;omega,rfl⟩⟩,?_⟩;rintro bad w1 ⟨HB,rfl⟩;refine⟨fun JF=>⟨aC _ _,.inr ⟨rfl,fun l hl=>?_⟩⟩,fun HP=>?_⟩
  · obtain⟨h1,h2,_⟩:=hl;rcases HB.1 JF with⟨h3,h4⟩ | h3
    · cases l with
      | nil=>simp at h2;omega
      | cons e l=>have:=h1.1.1;have h5:=h1.1.2.2;simp only at h5;omega
    · omega
  have HO:¬ ((0<count/\(t0<0∨t0>4611686018427387903))∨count<0):=fun h=>by rw[HB.2 h]at HP;cases HP
  apply vc123;dsimp only[VC123,nb,iq];have g1:=World.grownBy_alloc w1 (.cells #[.slice A k c,.int .i64 0] 240) none;have b1:(w1.alloc (.cells #[.slice A k c,.int .i64 0] 240)).heap[w1.heap.size]?=some (.cells #[.slice A k c,.int .i64 0] 240 (0,0)):=heap_alloc_new w1 _;refine⟨_,rfl,?_⟩;obtain⟨w2,HS⟩:∃ w2,w2=w1.alloc (.cells #[.slice A k c,.int .i64 0] 240):=⟨_,rfl⟩;rw[← HS]at g1 b1 ⊢;have g2:=World.grownBy_alloc w2 (.cells #[.pointer (some ⟨w1.heap.size,0,none⟩),.int .i64 t0,.int .u32 0,.int .u32 0,.bool false,.bool false,.bool true] 192) none;have b2:(w2.alloc (.cells #[.pointer (some ⟨w1.heap.size,0,none⟩),.int .i64 t0,.int .u32 0,.int .u32 0,.bool false,.bool false,.bool true] 192)).heap[w2.heap.size]?=some (.cells #[.pointer (some ⟨w1.heap.size,0,none⟩),.int .i64 t0,.int .u32 0,.int .u32 0,.bool false,.bool false,.bool true] 192 (0,0)):=heap_alloc_new w2 _;obtain⟨w3,GF⟩:∃ w3,w3=w2.alloc (.cells #[.pointer (some ⟨w1.heap.size,0,none⟩),.int .i64 t0,.int .u32 0,.int .u32 0,.bool false,.bool false,.bool true] 192):=⟨_,rfl⟩;rw[← GF]at g2 b2 ⊢;have l12:w1.heap.size<w2.heap.size:=(Array.getElem?_eq_some_iff.1 b1).1;have FY:=aA g1 g2;have D0:qU w3 w1.heap.size w2.heap.size A k c x 0 (aY t0 none) (none:Option aW).isSome true :=
    ⟨⟨aI b1 g2,hr.kept_none FY,hk,by omega,fun a ha=>(IZ a ha).imp id (fun e=>by omega)⟩,b2,by omega,fun a ha=>(IZ a ha).imp id (fun e=>by omega)⟩
  have tyE1:62≠240:=by decide
  have tyE2:62≠192:=by decide
  -- the row of events lies apart from the reader
  have apart:∀ {W:World} {at_:Nat} {q:aW} {any ok:Bool} {oA:OA} {on oc:Nat} {out:List aW},qU W w1.heap.size w2.heap.size A k c x at_ q any ok->aE W w1.heap.size 62 4 oA on oc (cE out)->∀ j,(Value.slice oA on oc).ownBlock=some j->w1.heap.size<=j/\j≠w1.heap.size/\j≠w2.heap.size:=by
    intro W at_ q any ok oA on oc out hD hO j hj;obtain⟨cur,FT⟩:=hO.block_type j hj;refine⟨hO.block_ge j hj,fun e=>?_,fun e=>?_⟩
    · rw[e,hD.rd.blk]at FT;cases FT
    · rw[e,hD.blk]at FT;cases FT
  refine⟨fun oA on oc w'=>∃(out:List aW)(ok:Bool)(at_:Nat)(p:Option aW),qU w' w1.heap.size w2.heap.size A k c x at_ (aY t0 p) p.isSome ok/\aE w' w1.heap.size 62 4 oA on oc (cE out)/\ny out/\out.length<=at_+1/\w1.grownBy w' none/\(ok=true->(out.length:Int)=count/\∀ e∈out,e.v<n)/\∀ l0,BI x t0 count n l0->ok=true/\out=l0,
    ⟨fun m Fw oA on oc w'=>∃(out:List aW)(ok:Bool)(at_:Nat)(p:Option aW),Fw.toNat=m/\0<=Fw/\Fw<=count/\qU w' w1.heap.size w2.heap.size A k c x at_ (aY t0 p) p.isSome ok/\aE w' w1.heap.size 62 4 oA on oc (cE out)/\ny out/\(ok=true->out.length<=at_)/\out.length<=at_+1/\w1.grownBy w' none/\(ok=true->(out.length:Int)+Fw=count/\(∀ e∈out,e.v<n)/\∀ q,p=some q->uV q) ∧
      ∀ l0,BI x t0 count n l0->ok=true/\∃(j:Nat)(pad:List Bool),j<=l0.length/\out=l0.take j/\p=cW (l0.take j) none/\(aM x).drop at_=cX t0 p (l0.drop j)++pad/\Fw=(l0.length:Int)-j,
    ⟨_,[],true,0,none,rfl,by omega,by omega,D0,aE.nil _ _ _ _,fun e he=>by simp at he,by simp,by simp,FY,fun _=>⟨by simp,fun e he=>by simp at he,fun q hq=>by cases hq⟩,fun l0 GV=>⟨rfl,0,List.replicate (8*(((cX t0 none l0).length+7) / 8)-(cX t0 none l0).length) false,by omega,rfl,rfl,?_,by have:=GV.2.1;omega⟩⟩,?_⟩,?_⟩
  · rw[GV.2.2.2];unfold db;rw[fj];rfl
  · rintro m Fw oA on oc w4 ⟨out,ok,at_,p,rfl,Gz,Mk,hD,hO,Jw,G0,NY,hg,hok,Gk⟩;refine⟨fun FO=>⟨_,rfl,ok,hD.flag.1,fun MT=>?_,fun MU=>⟨out,ok,at_,p,hD,hO,Jw,NY,hg,fun h=>(by rw[MU]at h;cases h),fun l0 GV=>(by have:=(Gk l0 GV).1;rw[MU]at this;cases this)⟩⟩,fun hz=>⟨out,ok,at_,p,hD,hO,Jw,NY,hg,fun h=>⟨by have:=(hok h).1;omega,(hok h).2.1⟩,fun l0 GV=>?_⟩⟩
    · subst MT;obtain⟨VO,Ny,JK⟩:=hok rfl;have G0:=G0 rfl;refine(xq hD (by omega) hb (by omega) JK).mono fun ev w5 hh=>?_;obtain⟨e,at',p',ok',rfl,D5,K5,VD,KO,VE,IE,LW,Mj⟩:=hh;have Wy:=hO.kp K5 (fun j hj h=>by have:=apart hD hO j hj;omega);have Hr:w1.grownBy w5 none:=((Kp.of_none (S:=fun j=>w1.heap.size<=j) hg).then K5 (fun j _ h=>by omega)).grown (fun j hj h=>by omega);obtain⟨w6,hE,pE0,qE0,pE1,qE1,pE2,qE2,pE3,qE3,bE,gE⟩:=nY w5 62 (.int .i64 0) (.int .u32 0) (.int .u32 0) (.bool false) (.int .i64 e.t) (.int .u32 e.u) (.int .u32 e.v) (.bool e.add);refine⟨_,_,_,_,rfl,pE0,qE0,pE1,qE1,pE2,qE2,pE3,qE3,?_⟩;rw[← hE];have D6:=D5.kept gE;have Pd:=Wy.kept gE;have Ho:=aA Hr gE;have Rv:at'<=8*x.length:=D5.rd.le;obtain⟨ok2,Hz⟩:∃ ok2:Bool,ok2=(ok' && decide (e.u<e.v/\e.v<n)):=⟨_,rfl⟩;have l5:w2.heap.size<w5.heap.size:=by have:=(Array.getElem?_eq_some_iff.1 D5.blk).1;exact this
      refine⟨fun W=>qU W w1.heap.size w2.heap.size A k c x at' (aY t0 p') p'.isSome ok2/\aE W w1.heap.size 62 4 oA on oc (cE out)/\w1.grownBy W none/\W.heap[w5.heap.size]?=some (.cells #[.int .i64 e.t,.int .u32 e.u,.int .u32 e.v,.bool e.add] 62 (0,0)),?_,?_⟩
      · have st:∀(W:World)(b:Bool),b=ok2->w6.grownBy W none->qU (W.setCell ((⟨w2.heap.size,0,none⟩:Addr).add 6) (.bool b)) w1.heap.size w2.heap.size A k c x at' (aY t0 p') p'.isSome ok2/\aE (W.setCell ((⟨w2.heap.size,0,none⟩:Addr).add 6) (.bool b)) w1.heap.size 62 4 oA on oc (cE out)/\w1.grownBy (W.setCell ((⟨w2.heap.size,0,none⟩:Addr).add 6) (.bool b)) none/\(W.setCell ((⟨w2.heap.size,0,none⟩:Addr).add 6) (.bool b)).heap[w5.heap.size]?=some (.cells #[.int .i64 e.t,.int .u32 e.u,.int .u32 e.v,.bool e.add] 62 (0,0)):=by
          intro W b FX gW;obtain⟨m1,m2⟩:=(D6.kept gW).mark b;rw[FX]at m1 m2 ⊢;refine⟨m1,(Pd.kept gW).kp m2 (fun j hj h=>by have:=apart D6 Pd j hj;omega),((Kp.of_none (S:=fun j=>w1.heap.size<=j) (aA Ho gW)).then m2 (fun j _ h=>by omega)).grown (fun j hj h=>by omega),?_⟩;rw[m2.block _ (Array.getElem?_eq_some_iff.1 (aI bE gW)).1 (by omega)];exact aI bE gW
        refine⟨_,rfl,ok',D6.flag.1,fun ho=>⟨_,aB bE 1,_,aB bE 2,(p7 (e.u,e.v) KO).mono fun ev w7 hh=>?_⟩,fun ho=>⟨_,rfl,⟨_,D6.flag.1⟩,D6.flag.2,st w6 false (by rw[Hz,ho];rfl) (aC _ _)⟩⟩;obtain⟨rfl,g7⟩:=hh;have D7:=D6.kept g7;exact⟨_,rfl,_,rfl,⟨_,D7.flag.1⟩,D7.flag.2,st w7 _ (by rw[Hz,ho];rfl) g7⟩
      · rintro W ⟨DW,Ww,JE,bW⟩;have gA:=World.grownBy_alloc W (.cells #[.int .i64 e.t,.int .u32 e.u,.int .u32 e.v,.bool e.add] 62) none;have rE:aZ (W.alloc (.cells #[.int .i64 e.t,.int .u32 e.u,.int .u32 e.v,.bool e.add] 62)) (some ⟨W.heap.size,0,none⟩) (cE [e]):=fz _ #[.int .i64 e.t,.int .u32 e.u,.int .u32 e.v,.bool e.add] 62 (0,0);have NX:on=out.length:=by have:=hO.cases.1;rw[dz]at this;omega
        obtain⟨Y,yn,yc,w7,f1,f2,f3,f4⟩:=eh (m:=1) (d:=1) (ys:=[e]) (Ww.kept gA) rE rfl (by simp) (by omega) (Nat.le_trans JE.size gA.size);refine⟨_,aB bW 0,_,aB bW 1,_,aB bW 2,_,aB bW 3,_,_,_,w7,f1,by omega,_,?_,out++[e],ok2,at',p',rfl,by omega,by omega,?_,f2,?_,fun ho=>?_,?_,?_,fun ho=>?_,fun l0 GV=>?_⟩
        · omega
        · exact(DW.kept gA).kp (S:=fun j=>some j=(Value.slice oA on oc).ownBlock) ⟨f3.os,f3.tape,f3.output,f3.size,fun j hj hS=>f3.block j hj hS⟩ (fun h=>by have:=apart D6 Pd _ h.symm;omega) (fun h=>by have:=apart D6 Pd _ h.symm;omega) (fun a ha=>(IZ a ha).imp id (fun e h=>by have:=apart D6 Pd _ h.symm;omega))
        · intro a ha;rcases List.mem_append.1 ha with ha | ha
          · exact Jw a ha
          · simp at ha;subst ha;exact⟨⟨VD,KO⟩,VE⟩
        · rw[ho]at Hz;have h2:=Hz.symm;simp only[Bool.and_eq_true,decide_eq_true_eq]at h2;have:=(LW h2.1).2.2;simp only[List.length_append,List.length_singleton];omega
        · simp only[List.length_append,List.length_singleton];omega
        · exact aN (aA JE gA) f3 (fun j hj=>hO.block_ge j hj)
        · rw[ho]at Hz;have h2:=Hz.symm;simp only[Bool.and_eq_true,decide_eq_true_eq]at h2;obtain⟨q1,q2,q3⟩:=LW h2.1;refine⟨by simp only[List.length_append,List.length_singleton];omega,fun a ha=>?_,fun q hq=>?_⟩
          · rcases List.mem_append.1 ha with ha | ha
            · exact Ny a ha
            · simp at ha;subst ha;exact h2.2.2
          · rw[q1]at hq;cases hq;exact q2
        · obtain⟨_,j,pad,hj,IW,hp,Gg,VR⟩:=Gk l0 GV;have Gq:j<l0.length:=by omega
          have F9:=List.drop_eq_getElem_cons Gq;have Tz:=GV.1;rw[← List.take_append_drop j l0,dV.append,← hp,F9]at Tz;have N0:=Tz.2.1;rw[F9,cX,List.append_assoc]at Gg;obtain⟨c1,c2,c3⟩:=Mj l0[j] _ N0 Gg;obtain⟨q1,q2,q3⟩:=LW c1;have Uj:=GV.2.2.1 _ (List.getElem_mem Gq);have FE:=N0.2.1;refine⟨by rw[Hz,c1,c2];simp;omega,j+1,pad,by omega,?_,?_,?_,by omega⟩
          · rw[List.take_succ_eq_append_getElem Gq,IW,c2]
          · rw[List.take_succ_eq_append_getElem Gq,eQ,q1,c2]
          · rw[c3,q1,c2]
    · obtain⟨h1,j,pad,hj,IW,hp,Gg,VR⟩:=Gk l0 GV;refine⟨h1,?_⟩;rw[IW,List.take_of_length_le (by omega)]
  · rintro oA on oc w4 ⟨out,ok,at_,p,hD,hO,Jw,G0,hg,hok,Gk⟩;have Rv:at_<=8*x.length:=hD.rd.le;have NX:on=out.length:=by have:=hO.cases.1;rw[dz]at this;omega
    refine(uF (t0:=t0) hO.row NX (by omega) Jw).mono fun ev w5 hh=>?_;obtain⟨B,m,d,rfl,oB,g5⟩:=hh;have D5:=hD.kept g5;have Ku:=aA hg g5;refine⟨_,_,_,_,rfl,_,rfl,ok,D5.flag.1,fun MU=>⟨Ku,.inr ⟨rfl,fun l hl=>?_⟩⟩,fun MT=>?_⟩
    · have:=(Gk l hl).1;rw[MU]at this;cases this
    · have MT:ok=true:=by simpa using MT
      by_cases GW:kl t0 none out=true
      · rw[if_pos GW]at *;have WH:=(jN Jw).1 GW;refine⟨fun h=>absurd rfl h,fun _=>(jk oB.row (cC oB) (hr.kept_none Ku) hk (cA t0 out) hb).mono fun ev w6 hh=>?_⟩;obtain⟨rfl,rfl⟩:=hh;refine⟨_,rfl,fun h=>⟨Ku,.inr ⟨rfl,fun l hl=>?_⟩⟩,fun h=>⟨Ku,.inl ⟨_,_,_,out,rfl,hO.row.kept_none g5,NX,kJ hO,fun h=>df hO h,WH,(hok MT).1,(hok MT).2,?_⟩⟩⟩
        · have:=of_decide_eq_false h;have e:=(Gk l hl).2;rw[e]at this;exact this hl.2.2.2.symm
        · have:decide (db t0 out=x)=true:=by simpa using h
          exact(of_decide_eq_true this).symm
      · rw[if_neg GW]at *;refine⟨fun _=>⟨Ku,.inr ⟨rfl,fun l hl=>?_⟩⟩,fun h=>absurd (by omega) h⟩;have e:=(Gk l hl).2;rw[e]at GW;exact GW ((jN hl.1.evtsB).2 hl.1)
end Go.Proofs.YtlieaecnllkefaaGreat
