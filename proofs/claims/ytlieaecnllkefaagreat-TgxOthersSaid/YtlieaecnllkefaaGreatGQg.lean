/- Own texts, packed: U1, U2, U3, U4, U5, U6, U7. -/
import Derived.Test.YtlieaecnllkefaaGreatGPg
import Derived.Test.YtlieaecnllkefaaGreatGOg
import Derived.Test.YtlieaecnllkefaaGreatGYg
import Derived.Test.YtlieaecnllkefaaGreatGZg
set_option linter.unusedVariables false
set_option linter.unusedSimpArgs false
set_option maxHeartbeats 4000000
set_option maxRecDepth 100000
namespace Go.Proofs.YtlieaecnllkefaaGreat
open Go Go.V Go.RowKit
theorem z4{w:World}(x:Nat):bB (w.alloc (.cells #[.int .u64 (x:Int)] 22)) (some ⟨w.heap.size,0,none⟩) (xJ [x]):=eP w #[.int .u64 (x:Int)] 22 (0,0)
theorem zZ{w:World}(x y:Nat):bB (w.alloc (.cells #[.int .u64 (x:Int),.int .u64 (y:Int)] 22)) (some ⟨w.heap.size,0,none⟩) (xJ [x,y]):=eP w #[.int .u64 (x:Int),.int .u64 (y:Int)] 22 (0,0)
theorem px{w:World}{x:Nat}(hx:x<2^64):
    Calls P 70 #[.slice (some ⟨w.heap.size,0,none⟩) 1 1] (w.alloc (.cells #[.int .u64 (x:Int)] 22)) fun ev w'=>∃(A':OA)(n' c':Nat),ev=.returned (.slice A' n' c')/\aH w' w.heap.size 5 1 A' n' c' (cz (cy x))/\w.grownBy w' none:=by
  have ga:=World.grownBy_alloc w (.cells #[.int .u64 (x:Int)] 22) none;refine(gL (l:=[x]) (z4 x) rfl (by simpa using hx) (by simp)).mono fun ev w' hh=>?_;obtain⟨A',n',c',rfl,h1,h2⟩:=hh;rw[jN]at h1;exact⟨_,_,_,rfl,h1.mono ga.size,aB ga h2⟩
theorem vz{w:World}{x y:Nat}(hx:x<2^64)(hy:y<2^64):
    Calls P 70 #[.slice (some ⟨w.heap.size,0,none⟩) 2 2] (w.alloc (.cells #[.int .u64 (x:Int),.int .u64 (y:Int)] 22)) fun ev w'=>∃(A':OA)(n' c':Nat),ev=.returned (.slice A' n' c')/\aH w' w.heap.size 5 1 A' n' c' (cz (bY [x,y]))/\w.grownBy w' none:=by
  have ga:=World.grownBy_alloc w (.cells #[.int .u64 (x:Int),.int .u64 (y:Int)] 22) none;refine(gL (l:=[x,y]) (zZ x y) rfl (by simp;exact⟨hx,hy⟩) (by simp)).mono fun ev w' hh=>?_;obtain⟨A',n',c',rfl,h1,h2⟩:=hh;exact⟨_,_,_,rfl,h1.mono ga.size,aB ga h2⟩
theorem k8{l:List Nat}(h:∀ x∈l,x<2^32){k:Nat}(hk:l.length<=k):(bY l).length<=10*k:=by
 have:=oS (l:=l) fun x hx=>by have:=h x hx;omega
 omega
theorem AM(j p z:Nat)(h:p<=j):(j-p)+(1+z)=(j+1-p)+z:=by omega
theorem sC {w :World} {A:OA} {n c:Nat} {l:List Edge} (hr:bB w A (edges l)) (hn:n=l.length) (hl:n<=2^20) (hb:eW l) :
    Calls P 66 #[.slice A n c] w fun ev w'=>∃(A':OA)(n' c':Nat),ev=.returned (.tuple #[.slice A' n' c',.int .i64 (if lR l=true then 0 else 23)])/\aH w' w.heap.size 5 1 A' n' c' (cz (if lR l=true then kJ l else []))/\w.grownBy w' none:=by
  apply vc66;dsimp only[VC66,rt,Br,Rd,Ix,Ap,cB,cS,nb,ad,al,iq]
  try simp only[aG]
  refine(s8 hr hn (by omega)).mono fun ev w1 hh=>?_;obtain⟨rfl,g1⟩:=hh;refine⟨_,rfl,fun h=>?_,fun h=>?_⟩
  · have:lR l=false:=by unfold lR;rw[h];rfl
    rw[this];exact⟨_,_,_,rfl,aH.nil _ _ _ _,g1⟩
  have Gp:eu l=true:=by simpa using h
  have hR:=(fJ l).1 Gp;have bad:∀ {p:Nat} (hp:p<l.length),¬ l[p].1<l[p].2->lR l=false:=by
    intro p hp DJ;unfold lR;rw[Bool.and_eq_false_iff];right;rw[List.all_eq_false];exact⟨l[p],List.getElem_mem hp,by simpa using DJ⟩
  have PM:=xq (-1) 0 l;have LC:=zE (-1) 0 l (by omega) (by omega) hb (by omega);have Ry:=zm (-1) l
  refine⟨fun m oA on oc many next i w'=>∃(p q:Nat)(u v:Int)(done:List Nat),i=(p:Int)/\p<=l.length/\m=l.length-p/\-1<=u/\0<=v/\next=u+1/\many=(q:Int)/\(∀ h:p<l.length,u<l[p].1)/\dJ (-1) 0 l=done++dJ u v (l.drop p)/\fl (-1) l=q+fl u (l.drop p) ∧
      aH w' w.heap.size 5 1 oA on oc (cz (bY done))/\w.grownBy w' none/\∀ j (hj:j<l.length),j<p->l[j].1<l[j].2,
    ⟨_,0,0,-1,0,[],rfl,by omega,rfl,by omega,by omega,by omega,rfl,fun h=>by have:=hb _ (List.getElem_mem h);omega,rfl,by simp,aH.nil _ _ _ _,g1,fun j hj h=>by omega⟩,?_⟩
  rintro m oA on oc many next i w2 ⟨p,q,u,v,done,rfl,hp,rfl,hu,hv,rfl,rfl,MA,hG,hq,oO,hg,hok⟩
  have tp:(p:Int).toNat=p:=by omega
  rw[tp];have JM:done.length<=3*l.length:=by have:=congrArg List.length hG;rw[List.length_append]at this;omega
  have NG:∀ x∈done,x<2^32:=fun x hx=>LC x (by rw[hG];exact List.mem_append_left _ hx);have Kv:on=(bY done).length:=dj oO;have Q5:=k8 NG JM;refine⟨fun DF=>?_,fun DK=>?_⟩
  · have lp : p<l.length:=by omega
    obtain⟨a,e1,e2,e3⟩:=fz (hr.kept_none hg) lp;have Pw:=hb _ (List.getElem_mem lp);have Mz:=MA lp;obtain⟨U,hU⟩:∃ U,U=l[p].1:=⟨_,rfl⟩;rw[← hU]at e2 Mz;have TG:0<=U/\U<=4294967295:=by rw[hU];exact Pw.1
    have GZ:dJ u v (l.drop p)=(U-u-1).toNat ::iM U (l.drop p) ::dJ U U (l.drop p):=by
      rw[List.drop_eq_getElem_cons lp,ut u v _ _ (by rw[← hU];omega),← hU]
    have Pg:fl u (l.drop p)=1+fl U (l.drop p):=by
      rw[List.drop_eq_getElem_cons lp,fl,fl,← hU,if_neg (by omega),if_pos rfl]
    refine⟨a,e1,by omega,by omega,U,e2,by omega,fun m2 i1 rA rn rc last w'=>∃(j:Nat)(rd:List Nat),i1=(j:Int)/\p<=j/\j<=l.length/\m2=l.length-j/\(∀ t (ht:t<l.length),p<=t->t<j->l[t].1=U/\l[t].1<l[t].2)/\(j=p->last=U)/\(∀ h:p<j/\j<=l.length,last=l[j-1].2)/\U<=last ∧
        iM U (l.drop p)=(j-p)+iM U (l.drop j)/\dJ U U (l.drop p)=rd++dJ U last (l.drop j)/\fl U (l.drop p)=fl U (l.drop j) ∧
        aH w' w2.heap.size 5 1 rA rn rc (cz (bY rd))/\aH w' w.heap.size 5 1 oA on oc (cz (bY done))/\w2.grownBy w' none,
      ⟨_,p,[],rfl,Nat.le_refl _,by omega,rfl,fun t ht h1 h2=>by omega,fun _=>rfl,fun h=>by omega,Int.le_refl _,by omega,rfl,rfl,aH.nil _ _ _ _,oO,aD _ _⟩,?_⟩
    rintro m2 i1 rA rn rc last w3 ⟨j,rd,rfl,QW,hj,rfl,DY,EC,Rl,TD,EX,Mk,KX,oR,oO3,D9⟩;have tj:(j:Int).toNat=j:=by omega
    rw[tj];have G0:=aB hg D9;have FO:rd.length<=3*l.length:=by
      have:=congrArg List.length hG;rw[GZ,Mk]at this;simp only[List.length_append,List.length_cons]at this;omega
    have ML:∀ x∈rd,x<2^32:=fun x hx=>LC x (by rw[hG,GZ,Mk];simp[hx]);have OO:=k8 ML FO;have OP:rn=(bY rd).length:=dj oR;have apart:∀ k,(Value.slice oA on oc).ownBlock=some k->k<w2.heap.size:=fun k hk=>oO.block_lt k hk
    -- a vertex's numbers end
    have ends : j ≠ p->iM U (l.drop j)=0->(∀ h:j<l.length,U<l[j].1) →
        ((0<=U/\U<=18446744073709551615)/\((0<=U-(u+1)/\U-(u+1)<=18446744073709551615)/\((-9223372036854775808<=(j:Int)-p/\(j:Int)-p<=9223372036854775807)/\((0<=(j:Int)-p/\(j:Int)-p<=18446744073709551615) ∧
        Calls P 70 #[.slice (some ⟨w3.heap.size,0,none⟩) 2 2] (w3.alloc (.cells #[.int .u64 (U-(u+1)),.int .u64 ((j:Int)-p)] 22)) fun ev__2 wv_6=>∃(x71A:OA)(x71n x71c:Nat),ev__2=.returned (.slice x71A x71n x71c)/\∃(x72A:OA)(x72n x72c:Nat),∃ wv_7:World,Sem.run P (Builtin.append_ #[26,26] 26 #[.slice oA on oc,.slice x71A x71n x71c]) wv_6=.ok (.slice x72A x72n x72c) wv_7 ∧
          ∃(x74A:OA)(x74n x74c:Nat),∃ wv_8:World,Sem.run P (Builtin.append_ #[26,26] 26 #[.slice x72A x72n x72c,.slice rA rn rc]) wv_7=.ok (.slice x74A x74n x74c) wv_8/\((0<=(q:Int)+1/\(q:Int)+1<=18446744073709551615)/\((0<=U/\U<=18446744073709551615)/\((0<=U+1/\U+1<=18446744073709551615)/\∃ m_1:Nat,m_1<l.length-p ∧
          ∃ (p' q':Nat) (u' v':Int) (done':List Nat),(j:Int)=(p':Int)/\p'<=l.length/\m_1=l.length-p'/\-1<=u'/\0<=v'/\U+1=u'+1/\(q:Int)+1=(q':Int)/\(∀ h:p'<l.length,u'<l[p'].1)/\dJ (-1) 0 l=done'++dJ u' v' (l.drop p')/\fl (-1) l=q'+fl u' (l.drop p') ∧
            aH wv_8 w.heap.size 5 1 x74A x74n x74c (cz (bY done'))/\w.grownBy wv_8 none/\∀ t (ht:t<l.length),t<p'->l[t].1<l[t].2))))))):=by
      intro DJ MN GW;refine⟨by omega,by omega,by omega,by omega,?_⟩;have k1:U-(u+1)=(((U-u-1).toNat:Nat):Int):=by omega
      have k2:(j:Int)-p=((j-p:Nat):Int):=by omega
      rw[k1,k2];refine(vz (by omega) (by omega)).mono fun ev w4 hh=>?_;obtain⟨X,xn,xc,rfl,oX,g4⟩:=hh;have LO:xn=(bY [(U-u-1).toNat,j-p]).length:=dj oX;have Qh:=k8 (l:=[(U-u-1).toNat,j-p]) (by intro x hx;simp at hx;omega) (k:=2) (by simp);obtain⟨Y,yn,yc,w5,f1,f2,f3,f4⟩:=bD (oO3.kept g4) oX.row LO (fun h=>dw oX h) (by omega) (Nat.le_trans G0.size g4.size);have oR5 : aH w5 w2.heap.size 5 1 rA rn rc (cz (bY rd)):=(oR.kept g4).apart f3 (by
        cases hk:(Value.slice rA rn rc).ownBlock with
        | none=>exact .inl rfl
        | some k => refine .inr fun h=>?_
                    have:=oR.block_ge k hk;have:=apart k h.symm;omega)
      obtain⟨Z,zn,zc,w6,f5,f6,f7,f8⟩:=bD f2 oR5.row OP (fun h=>dw oR5 h) (by omega) (Nat.le_trans (Nat.le_trans G0.size g4.size) f3.size);have gY:w.grownBy w5 none:=aP (aB G0 g4) f3 (fun k hk=>oO3.block_ge k hk);refine⟨_,_,_,rfl,_,_,_,w5,f1,_,_,_,w6,f5,by omega,by omega,by omega,l.length-j,by omega,j,q+1,U,last,done++([(U-u-1).toNat,j-p]++rd),rfl,hj,rfl,by omega,by omega,rfl,by omega,GW,?_,by omega,?_,aP gY f7 (fun k hk=>f2.block_ge k hk),?_⟩
      · rw[hG,GZ,Mk,EX,MN];simp
      · rw[kc,kc,← List.append_assoc];exact f6
      · intro t ht MD;by_cases h:t<p
        · exact hok t ht h
        · exact(DY t ht (by omega) MD).2
    refine⟨fun Rm=>?_,fun Rm=>?_⟩
    · have lj :j<l.length:=by omega
      obtain⟨b,q1,q2,q3⟩:=fz (hr.kept_none G0) lj;have RV:=hb _ (List.getElem_mem lj);refine⟨b,q1,by omega,by omega,_,q2,fun Kg=>?_,fun Pp=>?_⟩
      · refine⟨b,q1,by omega,by omega,_,q3,by omega,fun DQ=>?_,fun ET=>?_⟩
        · have:lR l=false:=by
            by_cases JH:j=p
            · subst JH;exact bad lj (by rw[Kg];have:=EC rfl;omega)
            · exfalso;have h1:=Rl ⟨by omega,hj⟩;have h2:=DY (j-1) (by omega) (by omega) (by omega);have h3:=List.pairwise_iff_getElem.1 hR (j-1) j (by omega) lj (by omega);rw[dI]at h3;omega
          rw[this];exact⟨_,_,_,rfl,aH.nil _ _ _ _,G0⟩
        · refine⟨by omega,by omega,?_⟩;have k1:l[j].2-last-1=(((l[j].2-last-1).toNat:Nat):Int):=by omega
          rw[k1];refine(px (by omega)).mono fun ev w4 hh=>?_;obtain⟨X,xn,xc,rfl,oX,g4⟩:=hh;have LO:xn=(cy (l[j].2-last-1).toNat).length:=dj oX;have J4:=dk (v:=(l[j].2-last-1).toNat) (by omega);obtain⟨Y,yn,yc,w5,f1,f2,f3,f4⟩:=bD (oR.kept g4) oX.row LO (fun h=>dw oX h) (by omega) (Nat.le_trans D9.size g4.size);have NH:l.drop j=l[j] ::l.drop (j+1):=List.drop_eq_getElem_cons lj;refine⟨_,_,_,rfl,_,_,_,w5,f1,by omega,l.length-(j+1),by omega,j+1,rd++[(l[j].2-last-1).toNat],by omega,by omega,by omega,rfl,?_,fun h=>by omega,fun h=>by simp,?_,?_,?_,?_,?_,?_,?_⟩
          · intro t ht h1 h2;by_cases h:t=j
            · subst h;exact⟨Kg,by omega⟩
            · exact DY t ht h1 (by omega)
          · omega
          · rw[EX,NH,fI,if_pos Kg];exact AM j p _ QW
          · rw[Mk,NH,pr _ _ _ _ Kg,List.append_assoc];rfl
          · rw[KX,NH,fl,if_pos Kg]
          · rw[kc,jN];exact f2
          · refine(oO3.kept g4).apart f3 ?_;cases hk:(Value.slice oA on oc).ownBlock with
            | none=>exact .inl rfl
            | some k => refine .inr fun h=>?_
                        have:=oR.block_ge k h.symm;have:=apart k hk;omega
          · exact aP (aB D9 g4) f3 (fun k hk=>oR.block_ge k hk)
      · have JH:j≠p:=fun h=>by subst h;exact Pp hU.symm
        refine ends JH (tO fun e he=>?_) (fun _=>?_)
        · rw[List.drop_eq_getElem_cons lj]at he;have RK:l[j]=e:=Option.some.inj he;rw[← RK];exact Pp
        · have h2:=DY (j-1) (by omega) (by omega) (by omega);have h3:=List.pairwise_iff_getElem.1 hR (j-1) j (by omega) lj (by omega);rw[dI]at h3;omega
    · have Nk:j=l.length:=by omega
      refine ends (by omega) ?_ (fun h=>by omega);rw[Nk,List.drop_length];rfl
  · have GG:p=l.length:=by omega
    subst GG;rw[List.drop_length]at hG hq;have DN:lR l=true:=by
      unfold lR;rw[Gp,Bool.true_and,List.all_eq_true];intro e he;obtain⟨t,ht,rfl⟩:=List.mem_iff_getElem.1 he;simpa using hok t ht ht
    rw[DN];refine(px (by omega)).mono fun ev w3 hh=>?_;obtain⟨X,xn,xc,rfl,oX,g3⟩:=hh;have J4:=dk (v:=q) (by omega);have LO:xn=(cy q).length:=dj oX;obtain⟨Y,yn,yc,w4,f1,f2,f3,f4⟩:=bD oX (oO.kept g3).row Kv (fun h=>dw oO h) (by omega) g3.size;refine⟨_,_,_,rfl,_,_,_,w4,f1,_,_,_,rfl,?_,aP (aB hg g3) f3 (fun k hk=>by have:=oX.block_ge k hk;have:=hg.size;omega)⟩;have:(if true=true then kJ l else [])=cy q++bY done:=by
      rw[if_pos rfl];unfold kJ vt;rw[dW,hG,hq];simp[dJ,fl]
    rw[this];exact f2.mono hg.size
def eO(w:World)(g:Nat)(l:List Int)(ok:Bool):Prop:=∃(A:OA)(n c:Nat),w.heap[g]?=some (.cells #[.slice A n c,.bool ok] 186 (0,0))/\bB w A (cz l)/\n=l.length/\n<=c/\∀ a,A=some a->l=[]∨a.block<g
theorem eO.kp{w w':World}{S:Nat->Prop}{g:Nat}{l:List Int}{ok:Bool}(h:eO w g l ok)(hk:Kp w w' S)(hS:∀ k,k<=g->¬ S k):eO w' g l ok:=by
 obtain⟨A,n,c,h1,h2,h3,h4,h5⟩:=h;exact⟨A,n,c,by rw[hk.block g (Array.getElem?_eq_some_iff.1 h1).1 (hS g (Nat.le_refl _))];exact h1,h2.kpE hk (fun a ha=>(h5 a ha).imp (fun e=>by rw[e];rfl) (fun e=>hS _ (by omega))),h3,h4,h5⟩
theorem eO.kept{w w':World}{g:Nat}{l:List Int}{ok:Bool}(h:eO w g l ok)(hg:w.grownBy w' none):eO w' g l ok:=h.kp (S:=fun _=>False) (Kp.of_none hg) (fun _ _ h=>h)
theorem eO.lt{w:World}{g:Nat}{l:List Int}{ok:Bool}(h:eO w g l ok):g<w.heap.size:=by
 obtain⟨A,n,c,h1,_⟩:=h;exact(Array.getElem?_eq_some_iff.1 h1).1
theorem eO.flag{w:World}{g:Nat}{l:List Int}{ok:Bool}(h:eO w g l ok):w.cell? ((⟨g,0,none⟩:Addr).add 1)=some (.bool ok)/\w.frozen? ((⟨g,0,none⟩:Addr).add 1)=false:=by
 obtain⟨A,n,c,h1,_⟩:=h;rw[aN];exact⟨aA h1 1,aC h1 1⟩
theorem eO.mark{w:World}{g:Nat}{l:List Int}{ok:Bool}(h:eO w g l ok)(b:Bool):eO (w.setCell ((⟨g,0,none⟩:Addr).add 1) (.bool b)) g l b/\Kp w (w.setCell ((⟨g,0,none⟩:Addr).add 1) (.bool b)) (fun k=>k=g):=by
 obtain⟨A,n,c,h1,h2,h3,h4,h5⟩:=h;rw[aN];have K:Kp w (w.setCell ⟨g,1,none⟩ (.bool b)) (fun k=>k=g):=cv (Kp.refl w _) rfl;exact⟨⟨A,n,c,by simpa using aF h1 1 (.bool b),h2.kpE K (fun a ha=>(h5 a ha).imp (fun e=>by rw[e];rfl) (fun e=>by omega)),h3,h4,h5⟩,K⟩
theorem kH{w:World}{g:Nat}{l:List Int}{ok:Bool}(h:eO w g l ok)(hb:aR l)(hl:l.length<=2^40):
    Calls P 164 #[.pointer (some ⟨g,0,none⟩)] w fun ev w'=>ev=.returned (.int .u64 (cN 4294967295 l).1)/\eO w' g (l.drop (cN 4294967295 l).2.1) (ok && decide ((cN 4294967295 l).2.2=0))/\Kp w w' (fun k=>k=g):=by
  obtain⟨A,n,c,h1,h2,h3,h4,h5⟩:=h;apply vc164;dsimp only[VC164,Wt,Bb,Rs,iq]
  try simp only[aG]
  refine⟨_,rfl,_,_,_,aA h1 0,?_⟩;refine(kR (most:=4294967295) h2 h3 hb (by omega)).mono fun ev w1 hh=>?_;obtain⟨rfl,g1⟩:=hh;have ht:=iW (most:=4294967295) (b:=l) (fun x hx=>(hb x hx).1);obtain⟨v,k,e,hv⟩:∃ v k e,cN 4294967295 l=(v,k,e):=⟨_,_,_,rfl⟩;rw[hv]at ht ⊢;simp only at ht ⊢;have E5:=aI g1;have lt:g<w.heap.size:=(Array.getElem?_eq_some_iff.1 h1).1;have Fv:w1.drew.heap[g]?=some (.cells #[.slice A n c,.bool ok] 186 (0,0)):=by rw[E5.block g lt (by simp)];exact h1
  have tk:(k:Int).toNat=k:=by omega
  have Ma:k<=n:=by omega
  have EK:=aF Fv 0 (.slice (bN A c k 1) (n-k) (c-k));have fin:∀ q:Bool,eO ((w1.drew.setCell ⟨g,0,none⟩ (.slice (bN A c k 1) (n-k) (c-k))).setCell ⟨g,1,none⟩ (.bool q)) g (l.drop k) q/\Kp w ((w1.drew.setCell ⟨g,0,none⟩ (.slice (bN A c k 1) (n-k) (c-k))).setCell ⟨g,1,none⟩ (.bool q)) (fun k=>k=g):=by
    intro q;have K:Kp w ((w1.drew.setCell ⟨g,0,none⟩ (.slice (bN A c k 1) (n-k) (c-k))).setCell ⟨g,1,none⟩ (.bool q)) (fun k=>k=g):=cv (cv (Kp.of_none E5) rfl) rfl;refine⟨⟨_,_,_,by simpa using aF EK 1 (.bool q),?_,by simp;omega,by omega,?_⟩,K⟩
    · exact pk (h2.kpE K (fun a ha=>(h5 a ha).imp (fun e=>by rw[e];rfl) (fun e=>by omega))) (by omega)
    · intro a ha;obtain⟨a',e1,e2⟩:=um ha;exact(h5 a' e1).imp (fun e=>by rw[e];simp) (fun e=>by omega)
  refine⟨v,(k:Int),e,rfl,_,rfl,_,_,_,aA Fv 0,⟨by omega,by omega⟩,?_⟩;rw[tk];refine⟨_,rfl,ok,by rw[aN];exact aA Fv 1,fun h=>?_,fun h=>?_⟩
  · refine⟨_,rfl,⟨_,aA Fv 0⟩,aC Fv 0,_,rfl,⟨_,by rw[aN];exact aA EK 1⟩,by rw[aN];exact aC EK 1,rfl,?_⟩;rw[aN,h,Bool.true_and];exact fin _
  · refine⟨_,rfl,⟨_,aA Fv 0⟩,aC Fv 0,_,rfl,⟨_,by rw[aN];exact aA EK 1⟩,by rw[aN];exact aC EK 1,rfl,?_⟩;rw[aN,h,Bool.false_and];exact fin _
theorem uA{l:List Int}(hb:aR l):0<=(cN 4294967295 l).1/\(cN 4294967295 l).1<=4294967295/\(cN 4294967295 l).2.1<=l.length/\((cN 4294967295 l).2.2=0->0<(cN 4294967295 l).2.1):=by
 rcases iW (most:=4294967295) (b:=l) (fun x hx=>(hb x hx).1)with⟨h1,h2,h3,h4,h5⟩ | ⟨h1,h2,h3⟩
 ·exact⟨h4,h5,h3,fun _=>h2⟩
 ·rw[h2,h3];exact⟨by omega,by omega,by omega,fun h=>absurd h h1⟩
theorem j8{x:Nat}(hx:x<2^32)(r:List Int):cN 4294967295 (cy x++r)=((x:Int),(cy x).length,0):=eZ (by omega) (by omega) r
theorem sh{l:List Int}{p x:Nat}{r:List Int}(h:l.drop p=cy x++r):l.drop (p+(cy x).length)=r:=by
 rw[← List.drop_drop,h,List.drop_left' rfl]
def ol(l:List Int)(n:Int)(l0:List Edge):Prop:=qg l0/\(∀ e∈l0,e.2<n)/\l=kJ l0
theorem vr {w:World} {g:Nat} {l:List Int} {n:Int} (h:eO w g l true) (hb:aR l) (hl:l.length<=2^16) :
    Calls P 122 #[.pointer (some ⟨g,0,none⟩),.int .u64 n] w fun ev w'=>∃(A':OA)(n' c':Nat)(out:List Edge)(ok:Bool)(p:Nat),ev=.returned (.slice A' n' c')/\aH w' w.heap.size 45 2 A' n' c' (edges out)/\eW out/\out.length<=l.length/\(∀ e∈out,e.2<n) ∧
      eO w' g (l.drop p) ok/\Kp w w' (fun k=>k=g)/\∀ l0,ol l n l0->ok=true/\out=l0:=by
  apply vc122;dsimp only[VC122,Wt,Br,Bb,Ap,cI,nb]
  try simp only[aG]
  have Nx:=h.lt;have En:∀ p,aR (l.drop p):=fun p y hy=>hb y (List.mem_of_mem_drop hy);refine(kH h hb (by omega)).mono fun ev w1 hh=>?_;obtain⟨rfl,h1,K1⟩:=hh;have t0:=uA hb;obtain⟨v0,p0,e0,Hy⟩:∃ v p e,cN 4294967295 l=(v,p,e):=⟨_,_,_,rfl⟩;rw[Hy]at h1 t0 ⊢;simp only[Bool.true_and]at h1 t0 ⊢
  refine⟨_,rfl,fun m oA on oc next many w'=>∃(q p:Nat)(ok:Bool)(out:List Edge),many=(q:Int)/\q=m/\q<=4294967295/\p<=l.length/\eO w' g (l.drop p) ok/\aH w' w.heap.size 45 2 oA on oc (edges out)/\eW out/\out.length<=p/\(∀ e∈out,e.2<n)/\Kp w w' (fun k=>k=g) ∧
      (ok=true->0<=next/\next<=(p:Int)*8589934592) ∧
      ∀ l0,ol l n l0->∃(j:Nat)(u v:Int),ok=true/\j<=l0.length/\out=l0.take j/\next=u+1/\(∀ h:j<l0.length,u<l0[j].1)/\l.drop p=bY (dJ u v (l0.drop j))/\many=(fl u (l0.drop j):Int),
    ⟨_,v0.toNat,p0,_,[],by omega,rfl,by omega,t0.2.2.1,h1,aH.nil _ _ _ _,fun e he=>by simp at he,by simp,fun e he=>by simp at he,K1,fun _=>by omega,?_⟩,?_⟩
  · intro l0 EC;obtain⟨hok,Ij,rfl⟩:=EC;have DF:=qA hok.edgesB hok.len;have hq:=DF _ (List.mem_cons_self (a:=fl (-1) l0) (l:=dJ (-1) 0 l0));have ht:=j8 hq (bY (dJ (-1) 0 l0));have he:kJ l0=cy (fl (-1) l0)++bY (dJ (-1) 0 l0):=by unfold kJ vt;rw[dW]
    rw[he]at Hy ⊢;rw[ht]at Hy;simp only[Prod.mk.injEq]at Hy;obtain⟨rfl,rfl,rfl⟩:=Hy;refine⟨0,-1,0,rfl,by omega,rfl,by omega,fun h=>by have:=hok.right _ (List.getElem_mem h);omega,?_,rfl⟩;rw[List.drop_left' rfl];rfl
  rintro m oA on oc next many w2 ⟨q,p,ok,out,rfl,rfl,hq,hp,hA,oO,GA,E7,Lu,hK,MU,Ea⟩
  refine⟨fun DZ=>⟨_,rfl,ok,hA.flag.1,fun hok=>?_,fun hok=>?_⟩,fun hz=>?_⟩
  · subst hok;have MU:=MU rfl;have Nc:(l.drop p).length<=2^16:=by rw[List.length_drop];omega
    refine(kH hA (En p) (by omega)).mono fun ev w3 hh=>?_;obtain⟨rfl,h3,K3⟩:=hh;have t3:=uA (En p);obtain⟨v3,p3,e3,J9⟩:∃ v p' e,cN 4294967295 (l.drop p)=(v,p',e):=⟨_,_,_,rfl⟩;rw[J9]at h3 t3 ⊢;simp only[Bool.true_and,List.drop_drop,List.length_drop]at h3 t3 ⊢;refine⟨_,rfl,by omega,by omega,(kH h3 (En _) (by rw[List.length_drop];omega)).mono fun ev w4 hh=>?_⟩;obtain⟨rfl,h4,K4⟩:=hh;have t4:=uA (En (p+p3));obtain⟨v4,p4,e4,J8⟩:∃ v p' e,cN 4294967295 (l.drop (p+p3))=(v,p',e):=⟨_,_,_,rfl⟩;rw[J8]at h4 t4 ⊢;simp only[List.drop_drop,List.length_drop]at h4 t4 ⊢;have LB:Kp w w4 (fun k=>k=g):=(hK.then K3 (fun k _ h=>h)).then K4 (fun k _ h=>h);have oO4:aH w4 w.heap.size 45 2 oA on oc (edges out):=(oO.kp K3 (fun k hk e=>by have:=oO.block_ge k hk;omega)).kp K4 (fun k hk e=>by have:=oO.block_ge k hk;omega)
    refine⟨_,rfl,fun m2 oA on oc last k w'=>∃(kk p2:Nat)(ok2:Bool)(out2:List Edge),k=(kk:Int)/\kk=m2/\kk<=4294967295/\p<=p2/\p2<=l.length/\(ok2=true->p+1<=p2)/\eO w' g (l.drop p2) ok2/\aH w' w.heap.size 45 2 oA on oc (edges out2)/\eW out2/\out2.length<=p2/\(∀ e∈out2,e.2<n)/\Kp w w' (fun k=>k=g) ∧
        (ok2=true->next+v3<=last/\last<=1125899906842624) ∧
        ∀ l0,ol l n l0->∃(j:Nat),ok2=true/\j<=l0.length/\out2=l0.take j/\(∀ h:j<l0.length,next+v3<=l0[j].1)/\l.drop p2=bY (dJ (next+v3) last (l0.drop j))/\k=(iM (next+v3) (l0.drop j):Int)/\(q:Int)-1=(fl (next+v3) (l0.drop j):Int)/\(∀ h:j<l0.length,l0[j].1=next+v3->last<l0[j].2)/\0<=next+v3,
      ⟨_,v4.toNat,p+(p3+p4),_,out,by omega,rfl,by omega,by omega,by omega,fun h=>?_,by rw[Nat.add_assoc]at h4;exact h4,oO4,GA,by omega,Lu,LB,fun h=>⟨Int.le_refl _,by omega⟩,?_⟩,?_⟩
    · simp only[Bool.and_eq_true,decide_eq_true_eq]at h;have:=t3.2.2.2 h.1;omega
    · intro l0 EC;obtain⟨j,u,v,_,hj,FX,S9,MA,hd,Il⟩:=Ea l0 EC;have hok:=EC.1;have Ey:j<l0.length:=by
        by_cases Ey:j<l0.length
        · exact Ey
        · rw[List.drop_eq_nil_of_le (by omega)]at Il;simp[fl]at Il;omega
      have hr:=hok.right _ (List.getElem_mem Ey);have hu:=MA Ey;have EI:=List.drop_eq_getElem_cons Ey;have hG:=ut u v l0[j] (l0.drop (j+1)) (by omega);rw[← EI]at hG;have FO:=y6 l0[j].1 (l0.drop j);have DH:=hok.len;rw[List.length_drop]at FO;rw[hG,dW,dW]at hd;have QA:=j8 (x:=(l0[j].1-u-1).toNat) (by omega) (cy (iM l0[j].1 (l0.drop j))++bY (dJ l0[j].1 l0[j].1 (l0.drop j)));rw[hd,QA]at J9;simp only[Prod.mk.injEq]at J9;obtain⟨J9,IN,RI⟩:=J9;have G4:=sh hd;rw[IN]at G4;have LW:=j8 (x:=iM l0[j].1 (l0.drop j)) (by omega) (bY (dJ l0[j].1 l0[j].1 (l0.drop j)));rw[G4,LW]at J8;simp only[Prod.mk.injEq]at J8;obtain⟨J8,Q1,RH⟩:=J8;have Ps:=sh G4;rw[Q1]at Ps;have hU:next+v3=l0[j].1:=by omega
      have Ph:fl u (l0.drop j)=1+fl l0[j].1 (l0.drop j):=by rw[EI,fl,fl,if_neg (by omega),if_pos rfl]
      refine⟨j,by rw[← RI,← RH];rfl,hj,FX,fun _=>by omega,?_,?_,?_,fun hh e=>?_,by omega⟩
      · rw[← Nat.add_assoc,Ps,hU]
      · rw[hU];omega
      · rw[hU];omega
      · omega
    rintro m2 oA on oc last k w5 ⟨kk,p2,ok2,out2,rfl,rfl,Tg,JC,EG,Fl,LJ,oO2,Ju,MT,Jk,Og,Fo,G6⟩
    have back:(kk=0∨ok2=false)->(0<=(q:Int)-1/\(q:Int)-1<=18446744073709551615)/\∃ m_1:Nat,m_1<q/\∃(q' p':Nat)(ok:Bool)(out:List Edge),(q:Int)-1=(q':Int)/\q'=m_1/\q'<=4294967295/\p'<=l.length/\eO w5 g (l.drop p') ok/\aH w5 w.heap.size 45 2 oA on oc (edges out)/\eW out/\out.length<=p'/\(∀ e∈out,e.2<n)/\Kp w w5 (fun k=>k=g) ∧
        (ok=true->0<=next+v3+1/\next+v3+1<=(p':Int)*8589934592) ∧
        ∀ l0,ol l n l0->∃(j:Nat)(u v:Int),ok=true/\j<=l0.length/\out=l0.take j/\next+v3+1=u+1/\(∀ h:j<l0.length,u<l0[j].1)/\l.drop p'=bY (dJ u v (l0.drop j))/\(q:Int)-1=(fl u (l0.drop j):Int):=by
      intro FG;refine⟨by omega,q-1,by omega,q-1,p2,ok2,out2,by omega,rfl,by omega,EG,LJ,oO2,Ju,MT,Jk,Og,fun ho=>?_,fun l0 EC=>?_⟩
      · have:=Fl ho;omega
      · obtain⟨j,h1,h2,h3,h4,h5,h6,h7,h8,h9⟩:=G6 l0 EC;refine⟨j,next+v3,last,h1,h2,h3,by omega,fun Ey=>?_,h5,h7⟩;have DK:=h4 Ey;have Gu:kk=0:=by
          rcases FG with h | h
          · exact h
          · rw[h]at h1;cases h1
        subst Gu;rw[List.drop_eq_getElem_cons Ey,fI]at h6;split at h6
        · omega
        · omega
    refine⟨fun Tf=>⟨_,rfl,ok2,LJ.flag.1,fun Fb=>?_,fun Fb=>back (.inr Fb)⟩,fun Gu=>back (.inl (by omega))⟩;subst Fb;have Fo:=Fo rfl;refine(kH LJ (En p2) (by rw[List.length_drop];omega)).mono fun ev w6 hh=>?_;obtain⟨rfl,h6,K6⟩:=hh;have t6:=uA (En p2);obtain⟨v6,p6,e6,LS⟩:∃ v p' e,cN 4294967295 (l.drop p2)=(v,p',e):=⟨_,_,_,rfl⟩;rw[LS]at h6 t6 ⊢;simp only[Bool.true_and,List.drop_drop,List.length_drop]at h6 t6 ⊢;have Sq:Kp w w6 (fun k=>k=g):=Og.then K6 (fun k _ h=>h);have oO6:aH w6 w.heap.size 45 2 oA on oc (edges out2):=oO2.kp K6 (fun k hk e=>by have:=oO2.block_ge k hk;omega);have Fl:=Fl rfl;obtain⟨ok3,Gr⟩:∃ ok3,ok3=decide (e6=0):=⟨_,rfl⟩;rw[← Gr]at h6
    have tail:∀ b:Bool,b=(ok3 && (decide (last+(v6+1)<n) && decide (last+(v6+1)<=4294967295))) →
        ∃ a64:Addr,(some (⟨g,0,none⟩:Addr))=some a64/\∃ x66:Bool,World.cell? (w6.setCell ((⟨g,0,none⟩:Addr).add 1) (.bool b)) (a64.add 1)=some (.bool x66)/\((x66=true->((0<=next+v3/\next+v3<=4294967295)/\((0<=last+(v6+1)/\last+(v6+1)<=4294967295)/\∃(x74A:OA)(x74n x74c:Nat),∃ wv_7:World,Sem.run P (Builtin.append_ #[40,40] 40 #[.slice oA on oc,.slice (some ⟨(w6.setCell ((⟨g,0,none⟩:Addr).add 1) (.bool b)).heap.size,0,none⟩) 1 1]) ((w6.setCell ((⟨g,0,none⟩:Addr).add 1) (.bool b)).alloc (.cells #[.int .u32 (next+v3),.int .u32 (last+(v6+1))] 45))=.ok (.slice x74A x74n x74c) wv_7/\((0<=(kk:Int)-1/\(kk:Int)-1<=18446744073709551615)/\∃ m_3:Nat,m_3<kk ∧
          ∃ (kk' p2:Nat) (ok2:Bool) (out2:List Edge),(kk:Int)-1=(kk':Int)/\kk'=m_3/\kk'<=4294967295/\p<=p2/\p2<=l.length/\(ok2=true->p+1<=p2)/\eO wv_7 g (l.drop p2) ok2/\aH wv_7 w.heap.size 45 2 x74A x74n x74c (edges out2)/\eW out2/\out2.length<=p2/\(∀ e∈out2,e.2<n)/\Kp w wv_7 (fun k=>k=g) ∧
            (ok2=true->next+v3<=last+(v6+1)/\last+(v6+1)<=1125899906842624) ∧
            ∀ l0,ol l n l0->∃(j:Nat),ok2=true/\j<=l0.length/\out2=l0.take j/\(∀ h:j<l0.length,next+v3<=l0[j].1)/\l.drop p2=bY (dJ (next+v3) (last+(v6+1)) (l0.drop j))/\(kk:Int)-1=(iM (next+v3) (l0.drop j):Int)/\(q:Int)-1=(fl (next+v3) (l0.drop j):Int)/\(∀ h:j<l0.length,l0[j].1=next+v3->last+(v6+1)<l0[j].2)/\0<=next+v3)))) ∧
         (x66=false->((0<=(kk:Int)-1/\(kk:Int)-1<=18446744073709551615)/\∃ m_3:Nat,m_3<kk ∧
          ∃ (kk' p2:Nat) (ok2:Bool) (out2:List Edge),(kk:Int)-1=(kk':Int)/\kk'=m_3/\kk'<=4294967295/\p<=p2/\p2<=l.length/\(ok2=true->p+1<=p2)/\eO (w6.setCell ((⟨g,0,none⟩:Addr).add 1) (.bool b)) g (l.drop p2) ok2/\aH (w6.setCell ((⟨g,0,none⟩:Addr).add 1) (.bool b)) w.heap.size 45 2 oA on oc (edges out2)/\eW out2/\out2.length<=p2/\(∀ e∈out2,e.2<n)/\Kp w (w6.setCell ((⟨g,0,none⟩:Addr).add 1) (.bool b)) (fun k=>k=g) ∧
            (ok2=true->next+v3<=last+(v6+1)/\last+(v6+1)<=1125899906842624) ∧
            ∀ l0,ol l n l0->∃(j:Nat),ok2=true/\j<=l0.length/\out2=l0.take j/\(∀ h:j<l0.length,next+v3<=l0[j].1)/\l.drop p2=bY (dJ (next+v3) (last+(v6+1)) (l0.drop j))/\(kk:Int)-1=(iM (next+v3) (l0.drop j):Int)/\(q:Int)-1=(fl (next+v3) (l0.drop j):Int)/\(∀ h:j<l0.length,l0[j].1=next+v3->last+(v6+1)<l0[j].2)/\0<=next+v3))):=by
      intro b E6;obtain⟨hM,KM⟩:=h6.mark b;have Oe:Kp w (w6.setCell ((⟨g,0,none⟩:Addr).add 1) (.bool b)) (fun k=>k=g):=Sq.then KM (fun k _ h=>h);have oOM:=oO6.kp KM (fun k hk e=>by have:=oO6.block_ge k hk;omega);have Ff:w.heap.size<=(w6.setCell ((⟨g,0,none⟩:Addr).add 1) (.bool b)).heap.size:=Oe.size
      -- what comes of it, if the bytes are those of edges
      have cond:∀ l0,ol l n l0->b=true/\∃ j,∃ hj:j<l0.length,out2=l0.take j/\l0[j].1=next+v3/\l0[j].2=last+(v6+1)/\l.drop (p2+p6)=bY (dJ (next+v3) (last+(v6+1)) (l0.drop (j+1)))/\(kk:Int)-1=(iM (next+v3) (l0.drop (j+1)):Int)/\(q:Int)-1=(fl (next+v3) (l0.drop (j+1)):Int)/\0<=next+v3:=by
        intro l0 EC;obtain⟨j,h1,h2,h3,h4,h5,JU,h7,h8,h9⟩:=G6 l0 EC;have hok:=EC.1;have Ey:j<l0.length:=by
          by_cases Ey:j<l0.length
          · exact Ey
          · rw[List.drop_eq_nil_of_le (by omega)]at JU;simp[iM]at JU;omega
        have EI:=List.drop_eq_getElem_cons Ey;have DY:l0[j].1=next+v3:=by
          rw[EI,fI]at JU;split at JU
          · assumption
          · simp at JU;omega
        have hr:=hok.right _ (List.getElem_mem Ey);have Ij:=EC.2.1 _ (List.getElem_mem Ey)
        -- the last neighbour is below
        have DF:last<l0[j].2:=h8 Ey DY;rw[EI,pr _ _ _ _ DY,dW]at h5;have Qz:=j8 (x:=(l0[j].2-last-1).toNat) (by omega) (bY (dJ (next+v3) l0[j].2 (l0.drop (j+1))));rw[h5,Qz]at LS;simp only[Prod.mk.injEq]at LS;obtain⟨hv,Q0,RG⟩:=LS;have hd:=sh h5;rw[Q0]at hd;have Gi:l0[j].2=last+(v6+1):=by omega
        rw[EI,fI,if_pos DY]at JU;rw[EI,fl,if_pos DY]at h7;refine⟨?_,j,Ey,h3,DY,Gi,by rw[hd,Gi],by omega,h7,h9⟩;rw[E6,Gr,← RG];simp only[decide_true,Bool.true_and,Bool.and_eq_true,decide_eq_true_eq];omega
      refine⟨_,rfl,b,hM.flag.1,fun Hr=>?_,fun Gc=>?_⟩
      · rw[Hr]at E6;have Ek:=E6.symm;simp only[Bool.and_eq_true,decide_eq_true_eq]at Ek;have gA:=World.grownBy_alloc (w6.setCell ((⟨g,0,none⟩:Addr).add 1) (.bool b)) (.cells #[.int .u32 (next+v3),.int .u32 (last+(v6+1))] 45) none;have rE:bB ((w6.setCell ((⟨g,0,none⟩:Addr).add 1) (.bool b)).alloc (.cells #[.int .u32 (next+v3),.int .u32 (last+(v6+1))] 45)) (some ⟨(w6.setCell ((⟨g,0,none⟩:Addr).add 1) (.bool b)).heap.size,0,none⟩) (edges [(next+v3,last+(v6+1))]):=eP _ #[.int .u32 (next+v3),.int .u32 (last+(v6+1))] 45 (0,0);have Q2:on=out2.length:=by have:=oO2.cases.1;rw[dA]at this;omega
        obtain⟨Y,yn,yc,w7,f1,f2,f3,f4⟩:=dt (m:=1) (d:=1) (ys:=[(next+v3,last+(v6+1))]) (oOM.kept gA) rE rfl (by simp) (by omega) (Nat.le_trans Ff gA.size);refine⟨by omega,by omega,_,_,_,w7,f1,by omega,kk-1,by omega,kk-1,p2+p6,true,out2++[(next+v3,last+(v6+1))],by omega,rfl,by omega,by omega,by omega,fun _=>by omega,?_,f2,?_,?_,?_,?_,fun _=>by omega,fun l0 EC=>?_⟩
        · have:=(hM.kept gA).kp (S:=fun k=>some k=(Value.slice oA on oc).ownBlock) ⟨f3.os,f3.tape,f3.output,f3.size,fun k hk hS=>f3.block k hk hS⟩ (fun k hk e=>by have:=oO6.block_ge k e.symm;omega);rw[Hr]at this;exact this
        · intro e he;rcases List.mem_append.1 he with he | he
          · exact Ju e he
          · simp at he;subst he;simp only;omega
        · have:=t6.2.2.2 (by rw[Gr]at Ek;simpa using Ek.1);simp only[List.length_append,List.length_singleton];omega
        · intro e he;rcases List.mem_append.1 he with he | he
          · exact Jk e he
          · simp at he;subst he;exact Ek.2.1
        · exact(Oe.then (Kp.of_none (S:=fun k=>k=g) gA) (fun k _ h=>h)).step f3 (fun k hk=>.inl (by have:=oO6.block_ge k hk;omega))
        · obtain⟨_,j,hj,c1,c2,c3,c4,c5,c6,c7⟩:=cond l0 EC;refine⟨j+1,rfl,by omega,?_,fun h=>?_,c4,c5,c6,fun h e=>?_,c7⟩
          · rw[List.take_succ_eq_append_getElem hj,← c1];congr 2;exact Prod.ext c2.symm c3.symm
          · have:=List.pairwise_iff_getElem.1 EC.1.rise j (j+1) hj h (by omega);rw[dI]at this;omega
          · have:=List.pairwise_iff_getElem.1 EC.1.rise j (j+1) hj h (by omega);rw[dI]at this;omega
      · refine⟨by omega,kk-1,by omega,kk-1,p2+p6,b,out2,by omega,rfl,by omega,by omega,by omega,fun h=>(by rw[Gc]at h;cases h),hM,oOM,Ju,by omega,Jk,Oe,fun h=>(by rw[Gc]at h;cases h),fun l0 EC=>?_⟩;have:=(cond l0 EC).1;rw[Gc]at this;cases this
    refine⟨_,rfl,by omega,by omega,_,rfl,ok3,h6.flag.1,fun PW=>⟨fun DF=>?_,fun DK=>?_⟩,fun SF=>?_⟩
    · exact⟨_,rfl,⟨_,h6.flag.1⟩,h6.flag.2,tail _ (by rw[PW];simp[DF])⟩
    · exact⟨_,rfl,⟨_,h6.flag.1⟩,h6.flag.2,tail _ (by rw[PW];simp;omega)⟩
    · exact⟨_,rfl,⟨_,h6.flag.1⟩,h6.flag.2,tail _ (by rw[SF];rfl)⟩
  · exact⟨_,_,_,out,ok,p,rfl,oO,GA,by omega,Lu,hA,hK,fun l0 EC=>by obtain⟨j,u,v,h1,_⟩:=Ea l0 EC;rw[hok]at h1;cases h1⟩
  · refine⟨_,_,_,out,ok,p,rfl,oO,GA,by omega,Lu,hA,hK,fun l0 EC=>?_⟩;obtain⟨j,u,v,h1,h2,h3,h4,h5,h6,h7⟩:=Ea l0 EC;refine⟨h1,?_⟩;have hj:j=l0.length:=by
      by_cases hj:j<l0.length
      · exfalso;have:=h5 hj;rw[List.drop_eq_getElem_cons hj,fl,if_neg (by omega)]at h7;omega
      · omega
    rw[h3,hj,List.take_length]
def C7(x:List Int)(n:Int)(ev:Ending)(w':World):Prop :=
 (∃(A':OA)(n' c':Nat)(l:List Edge),ev=.returned (.tuple #[.slice A' n' c',.int .i64 0])/\bB w' A' (edges l)/\n'=l.length/\n'<=c'/\(A'=none->c'=0)/\ol x n l) ∨
 (ev=.returned (.tuple #[.slice none 0 0,.int .i64 21])/\∀ l,¬ ol x n l)
theorem xo {w:World} {A:OA} {k c:Nat} {x:List Int} {n:Int} (hr:bB w A (cz x)) (hk:k=x.length) (hc:k<=c) (hb:aR x) (hl:x.length<=2^16) :
    Calls P 87 #[.slice A k c,.int .u64 n] w fun ev w'=>w.grownBy w' none/\C7 x n ev w':=by
  apply vc87;dsimp only[VC87,rt,Br,cB,cS,cT,nb,iq];have F7:∀ a,A=some a->x=[]∨a.block<w.heap.size:=fun a ha=>by
    by_cases hx:x=[]
    · exact .inl hx
    · obtain⟨b,e1,e2⟩:=hr.blk (by intro e;exact hx (by simpa[cz]using e));rw[ha]at e1;cases e1;exact .inr e2
  have g1:=World.grownBy_alloc w (.cells #[.slice A k c,.bool true] 186) none;have b1:(w.alloc (.cells #[.slice A k c,.bool true] 186)).heap[w.heap.size]?=some (.cells #[.slice A k c,.bool true] 186 (0,0)):=heap_alloc_new w _;have hA:eO (w.alloc (.cells #[.slice A k c,.bool true] 186)) w.heap.size x true:=⟨A,k,c,b1,hr.kept_none g1,hk,hc,F7⟩;refine(vr (n:=n) hA hb hl).mono fun ev w2 hh=>?_;obtain⟨A',n',c',out,ok,p,rfl,oO,GA,E7,Lu,LJ,K2,Ea⟩:=hh;have ER:n'=out.length:=by have:=oO.cases.1;rw[dA]at this;omega
  have g2:w.grownBy w2 none:=by
    have:Kp w w2 (fun k=>k=w.heap.size):=(Kp.of_none g1).then K2 (fun k _ h=>h);exact this.grown (fun k hk e=>by omega)
  refine⟨_,_,_,rfl,(sC oO.row ER (by omega) GA).mono fun ev w3 hh=>?_⟩;obtain⟨B,m,d,rfl,oB,g3⟩:=hh;have Oo:=LJ.kept g3;have DP:=aB g2 g3;refine⟨_,_,_,_,rfl,_,rfl,ok,Oo.flag.1,fun hok=>⟨DP,.inr ⟨rfl,fun l hl=>?_⟩⟩,fun hok=>?_⟩
  · have:=(Ea l hl).1;rw[hok]at this;cases this
  · have hok:ok=true:=by simpa using hok
    by_cases EQ:lR out=true
    · rw[if_pos EQ]at *;have Q6:=(nZ GA (by omega)).1 EQ;refine⟨fun h=>absurd rfl h,fun _=>(iB oB.row (dj oB) (hr.kept_none DP) hk (dY out) hb).mono fun ev w4 hh=>?_⟩;obtain⟨rfl,rfl⟩:=hh;refine⟨_,rfl,fun h=>⟨DP,.inr ⟨rfl,fun l hl=>?_⟩⟩,fun h=>⟨DP,.inl ⟨_,_,_,out,rfl,oO.row.kept_none g3,ER,nK oO,fun h=>dw oO h,Q6,Lu,?_⟩⟩⟩
      · have:=of_decide_eq_false h;have e:=(Ea l hl).2;rw[e]at this;exact this hl.2.2.symm
      · have:decide (kJ out=x)=true:=by simpa using h
        exact(of_decide_eq_true this).symm
    · rw[if_neg EQ]at *;refine⟨fun _=>⟨DP,.inr ⟨rfl,fun l hl=>?_⟩⟩,fun h=>absurd (by omega) h⟩;have e:=(Ea l hl).2;rw[e]at EQ;exact EQ ((nZ (hl.1.edgesB) hl.1.len).2 hl.1)
theorem Cm:∀ k:Fin 256,(k.1=0/\bt aV k.1=0)∨(0<(bt aV k.1).toNat/\(bt aV k.1).toNat<=8/\2^((bt aV k.1).toNat-1)<=k.1/\k.1<2^(bt aV k.1).toNat):=by decide +kernel
theorem xi{v n:Nat}(h0:0<n)(h1:2^(n-1)<=v)(h2:v<2^n):blen v=n:=by
 have hv:0<v:=Nat.lt_of_lt_of_le (Nat.two_pow_pos _) h1;obtain⟨k1,k2⟩:=(gm v).2 hv;have k3:=(gm v).1;have a1:blen v-1<n:=(Nat.pow_lt_pow_iff_right (a:=2) (by omega)).1 (Nat.lt_of_le_of_lt k1 h2);have a2:n-1<blen v:=(Nat.pow_lt_pow_iff_right (a:=2) (by omega)).1 (Nat.lt_of_le_of_lt h1 k3);omega
theorem Dk{k:Nat}(hk:k<256):bt aV k=(blen k:Int)/\blen k<=8:=by
 have h8:blen k<=8:=mB (by omega);refine⟨?_,h8⟩;rcases Cm ⟨k,hk⟩with⟨h1,h2⟩ | ⟨h1,h2,h3,h4⟩
 ·simp only at h1 h2;subst h1;rw[h2,mA];rfl
 ·simp only at h1 h2 h3 h4;rw[xi h1 h3 h4];omega
theorem dl{x:Nat}:∀ {k:Nat},2^k<=x->blen x=k+blen (x / 2^k)
 | 0,h=>by simp
 | k+1,h=>by
  have h':=h;rw[Nat.pow_succ]at h;have hp:=Nat.two_pow_pos k;have ih:=dl (x:=x) (k:=k) (by omega);have h2:2<=x / 2^k:=by rw[Nat.le_div_iff_mul_le hp];omega
  have e:x / 2^k / 2=x / 2^(k+1):=by rw[Nat.div_div_eq_div_mul,Nat.pow_succ]
  rw[ih,xj (by omega),e];omega
theorem iy{w:World}{R:Ending->World->Prop}{y cI:Int}{k c b:Nat}(hy:y=(k:Int))(hk:k<256)(hc:cI=(c:Int))(Tw:c<=56)(hb:b=c+blen k)(hR:R (.returned (.int .i64 (b:Int))) w):
    aG .u8 y/\((0<=y/\y<(ByteArray.size aV:Int))/\(aG .i64 (bt aV y.toNat)/\(aG .i64 (cI+bt aV y.toNat)/\R (.returned (.int .i64 (cI+bt aV y.toNat))) w))):=by
  have hs:(ByteArray.size aV:Int)=256:=by kernel_rfl
  have ht:=Dk hk;have Qg:y.toNat=k:=by omega
  rw[Qg,ht.1,hs,hc];simp only[aG];refine⟨by omega,by omega,by omega,by omega,?_⟩;have:(c:Int)+(blen k:Int)=(b:Int):=by rw[hb];simp
  rw[this];exact hR
theorem Bx{w:World}{R:Ending->World->Prop}{v:Nat}(hv:v<2^64)(hR:R (.returned (.int .i64 (blen v:Int))) w):Calls P 140 #[.int .u64 (v:Int)] w R:=by
 apply vc140;dsimp only[VC140,Br,iq];have p32:(2:Int)^32=4294967296:=rfl;have p16:(2:Int)^16=65536:=rfl;have p8:(2:Int)^8=256:=rfl;simp only[p32,p16,p8];refine⟨fun h1=>⟨by omega,fun h2=>⟨by omega,by simp only[aG];omega,fun h3=>⟨by omega,by simp only[aG];omega,?_⟩,fun h3=>?_⟩,fun h2=>⟨fun h3=>⟨by omega,by simp only[aG];omega,?_⟩,fun h3=>?_⟩⟩,fun h1=>⟨fun h2=>⟨by omega,by simp only[aG];omega,fun h3=>⟨by omega,by simp only[aG];omega,?_⟩,fun h3=>?_⟩,fun h2=>⟨fun h3=>⟨by omega,by simp only[aG];omega,?_⟩,fun h3=>?_⟩⟩⟩
 ·refine iy (k:=v / 4294967296 / 65536 / 256) (c:=56) ?_ ?_ ?_ ?_ ?_ hR
  ·omega
  ·omega
  ·rfl
  ·omega
  ·
   have e0:=dl (x:=v) (k:=32) (by omega);have e1:=dl (x:=v / 4294967296) (k:=16) (by omega);have e2:=dl (x:=v / 4294967296 / 65536) (k:=8) (by omega);simp only[show(2:Nat)^32=4294967296 from rfl,show(2:Nat)^16=65536 from rfl,show(2:Nat)^8=256 from rfl]at *;omega
 ·refine iy (k:=v / 4294967296 / 65536) (c:=48) ?_ ?_ ?_ ?_ ?_ hR
  ·omega
  ·omega
  ·rfl
  ·omega
  ·
   have e0:=dl (x:=v) (k:=32) (by omega);have e1:=dl (x:=v / 4294967296) (k:=16) (by omega);simp only[show(2:Nat)^32=4294967296 from rfl,show(2:Nat)^16=65536 from rfl,show(2:Nat)^8=256 from rfl]at *;omega
 ·refine iy (k:=v / 4294967296 / 256) (c:=40) ?_ ?_ ?_ ?_ ?_ hR
  ·omega
  ·omega
  ·rfl
  ·omega
  ·
   have e0:=dl (x:=v) (k:=32) (by omega);have e1:=dl (x:=v / 4294967296) (k:=8) (by omega);simp only[show(2:Nat)^32=4294967296 from rfl,show(2:Nat)^16=65536 from rfl,show(2:Nat)^8=256 from rfl]at *;omega
 ·refine iy (k:=v / 4294967296) (c:=32) ?_ ?_ ?_ ?_ ?_ hR
  ·omega
  ·omega
  ·rfl
  ·omega
  ·
   have e0:=dl (x:=v) (k:=32) (by omega);simp only[show(2:Nat)^32=4294967296 from rfl,show(2:Nat)^16=65536 from rfl,show(2:Nat)^8=256 from rfl]at *;omega
 ·refine iy (k:=v / 65536 / 256) (c:=24) ?_ ?_ ?_ ?_ ?_ hR
  ·omega
  ·omega
  ·rfl
  ·omega
  ·
   have e0:=dl (x:=v) (k:=16) (by omega);have e1:=dl (x:=v / 65536) (k:=8) (by omega);simp only[show(2:Nat)^32=4294967296 from rfl,show(2:Nat)^16=65536 from rfl,show(2:Nat)^8=256 from rfl]at *;omega
 ·refine iy (k:=v / 65536) (c:=16) ?_ ?_ ?_ ?_ ?_ hR
  ·omega
  ·omega
  ·rfl
  ·omega
  ·
   have e0:=dl (x:=v) (k:=16) (by omega);simp only[show(2:Nat)^32=4294967296 from rfl,show(2:Nat)^16=65536 from rfl,show(2:Nat)^8=256 from rfl]at *;omega
 ·refine iy (k:=v / 256) (c:=8) ?_ ?_ ?_ ?_ ?_ hR
  ·omega
  ·omega
  ·rfl
  ·omega
  ·
   have e0:=dl (x:=v) (k:=8) (by omega);simp only[show(2:Nat)^32=4294967296 from rfl,show(2:Nat)^16=65536 from rfl,show(2:Nat)^8=256 from rfl]at *;omega
 ·refine iy (k:=v) (c:=0) ?_ ?_ ?_ ?_ ?_ hR
  ·omega
  ·omega
  ·rfl
  ·omega
  ·omega
theorem iz{w:World}{v:Nat}(hv:v<2^64):Calls P 140 #[.int .u64 (v:Int)] w fun ev w'=>ev=.returned (.int .i64 (blen v:Int))/\w'=w:=Bx hv ⟨rfl,rfl⟩
theorem qd:∀ n:Nat,cX 0 n=List.replicate n false
 | 0=>rfl
 | n+1=>by
  rw[cX,qd n,List.replicate_succ];congr 1;simp[fo]
theorem _root_.Go.V.Kp.tysThen{w w' w'':World}{base:Nat}{ts:List TypeId}(h:Kp w w' (xB w base ts))(h':Kp w' w'' (xB w' base ts)):Kp w w'' (xB w base ts):=by
 refine h.then h' fun k hk ht=>?_;by_cases hc:xB w base ts k
 ·exact hc
 ·obtain⟨h1,t,h2,cur,fr,h3⟩:=ht;exact⟨h1,t,h2,cur,fr,by rw[← h.block k hk hc];exact h3⟩
theorem ng{w:World}{base g v:Nat}{bits:List Bool}(h:Wr w base g bits)(hv:0<v/\v<2^64)(hl:bits.length<=2^29)(DM:base<=w.heap.size):
    Calls P 150 #[.pointer (some ⟨g,0,none⟩),.int .u64 (v:Int)] w fun ev w'=>ev=.returned (.tuple #[])/\Wr w' base g (bits++gx v)/\Kp w w' (xB w base [214,5]):=by
  apply vc150;dsimp only[VC150,rt,Br,cI,cU,iq]
  try simp only[aG]
  have hb:=(gm v).2 hv.1;have Ek:=mB (v:=v) (k:=64) hv.2;refine⟨fun h=>(by cases h),fun _=>⟨fun h=>(by omega),fun _=>(iz hv.2).mono fun ev w1 hh=>?_⟩⟩;obtain⟨rfl,rfl⟩:=hh;have e:(blen v:Int)-1=((blen v-1:Nat):Int):=by omega
  refine⟨_,rfl,by omega,?_⟩;rw[e];refine(mc (v:=0) (n:=blen v-1) h (by omega) (by omega) (by omega) DM).mono fun ev w2 hh=>?_;obtain⟨rfl,h2,k2⟩:=hh;rw[qd]at h2;refine⟨rfl,(mc (v:=(v:Int)) (n:=blen v) h2 (by omega) Ek (by simp;omega) (Nat.le_trans DM k2.size)).mono fun ev w3 hh=>?_⟩;obtain⟨rfl,h3,k3⟩:=hh;refine⟨rfl,trivial,?_,k2.tysThen k3⟩;unfold gx;rw[← List.append_assoc];exact h3
theorem AT{bs:List Bool}{z:Nat}(h:∀ i,i<z->bs[i]?=some false):z<=pu bs:=by
 induction z generalizing bs with
 | zero=>omega
 | succ z ih =>
  cases bs with
  | nil=>have:=h 0 (by omega);simp at this
  | cons b bs =>
   have h0:=h 0 (by omega);simp at h0;subst h0;have:=ih (bs:=bs) (fun i hi=>by simpa using h (i+1) (by omega));unfold pu at this ⊢;rw[List.takeWhile_cons];simp;omega
theorem xg(k:IntKind)(a b:Int):dC .or k a b=dC .or k b a:=by
 unfold dC;simp[BitVec.or_comm]
theorem CV{l:List Int}{at_ i:Nat}(h:at_+i<8*l.length):((aS l).drop at_)[i]?=some (ef l (at_+i)):=by
 rw[List.getElem?_drop];unfold aS;simp[h]
def Ca(w':World)(g:Nat)(A:OA)(n c:Nat)(l:List Int)(at_:Nat)(ev:Ending):Prop :=
 match pe ((aS l).drop at_)with
 | some (v,k)=>ev=.returned (.tuple #[.int .u64 v,.bool true])/\iD w' g A n c l (at_+k)
 | none=>ev=.returned (.tuple #[.int .u64 0,.bool false])/\iD w' g A n c l at_
theorem wC {w:World} {g:Nat} {A:OA} {n c:Nat} {l:List Int} {at_:Nat} (h:iD w g A n c l at_) (hl:l.length<=2^40) (hb:aR l) :
    Calls P 184 #[.pointer (some ⟨g,0,none⟩)] w fun ev w'=>Kp w w' (fun q=>q=g)/\Ca w' g A n c l at_ ev:=by
  apply vc184;dsimp only[VC184,rt,Wt,Br,Rd,Rs,Ws,nb,iq]
  try simp only[aG]
  have DF:=(Array.getElem?_eq_some_iff.1 h.blk).1;have s0:(w.alloc (.cells #[.slice none 0 0,.int .i64 0] 240)).heap[w.heap.size]?=some (.cells #[.slice none 0 0,.int .i64 0] 240 (0,0)):=heap_alloc_new w _;have s1:=aF s0 0 (.slice A n c);have s2:=aF s1 1 (.int .i64 (at_:Int));have g1:w.grownBy (((w.alloc (.cells #[.slice none 0 0,.int .i64 0] 240)).setCell ⟨w.heap.size,0,none⟩ (.slice A n c)).setCell ⟨w.heap.size,1,none⟩ (.int .i64 (at_:Int))) none :=
    (cv (cv (Kp.of_none (S:=fun k=>w.heap.size<=k) (pR (aD w none) _)) (Nat.le_refl _)) (Nat.le_refl _)).grown (fun k hk e=>by omega)
  refine⟨fun h=>(by cases h),fun _=>⟨_,rfl,_,_,_,aA h.blk 0,_,by rw[aN];exact aA h.blk 1,⟨_,aA s0 0⟩,aC s0 0,⟨_,aA s1 1⟩,aC s1 1,?_⟩⟩;have bW:(((w.alloc (.cells #[.slice none 0 0,.int .i64 0] 240)).setCell ⟨w.heap.size,0,none⟩ (.slice A n c)).setCell ⟨w.heap.size,1,none⟩ (.int .i64 (at_:Int))).heap[w.heap.size]?=some (.cells #[.slice A n c,.int .i64 (at_:Int)] 240 (0,0)):=by simpa using s2
  obtain⟨w1,Ez⟩:∃ w1,w1=((w.alloc (.cells #[.slice none 0 0,.int .i64 0] 240)).setCell ⟨w.heap.size,0,none⟩ (.slice A n c)).setCell ⟨w.heap.size,1,none⟩ (.int .i64 (at_:Int)):=⟨_,rfl⟩;rw[← Ez]at bW g1 ⊢;have JM:((aS l).drop at_).length=8*l.length-at_:=by rw[List.length_drop,dK]
  have DQ:=h.le
  -- back to where it was
  have back:∀(W:World)(z:Nat),Kp w W (fun q=>q=g)->W.heap[w.heap.size]?=some (.cells #[.slice A n c,.int .i64 (at_:Int)] 240 (0,0))->iD W g A n c l (at_+z)->pe ((aS l).drop at_)=none →
      ∃ (x40A:OA) (x40n x40c:Nat),World.cell? W ⟨w.heap.size,0,none⟩=some (.slice x40A x40n x40c)/\∃ x40:Int,World.cell? W ⟨w.heap.size,1,none⟩=some (.int .i64 x40)/\∃ a41:Addr,(some (⟨g,0,none⟩:Addr))=some a41/\((∃ uv_:Value,World.cell? W a41=some uv_)/\World.frozen? W a41=false/\((∃ uv_:Value,World.cell? (World.setCell W a41 (.slice x40A x40n x40c)) (a41.add 1)=some uv_)/\World.frozen? (World.setCell W a41 (.slice x40A x40n x40c)) (a41.add 1)=false ∧
        (Kp w (World.setCell (World.setCell W a41 (.slice x40A x40n x40c)) (a41.add 1) (.int .i64 x40)) (fun q=>q=g)/\Ca (World.setCell (World.setCell W a41 (.slice x40A x40n x40c)) (a41.add 1) (.int .i64 x40)) g A n c l at_ (.returned (.tuple #[.int .u64 0,.bool false]))))):=by
    intro W z hK hB hR hT;have t1:=aF hR.blk 0 (.slice A n c);have t2:=aF t1 1 (.int .i64 (at_:Int));have K:Kp w ((W.setCell ⟨g,0,none⟩ (.slice A n c)).setCell ⟨g,1,none⟩ (.int .i64 (at_:Int))) (fun q=>q=g):=cv (cv hK rfl) rfl;refine⟨_,_,_,aA hB 0,_,aA hB 1,_,rfl,⟨_,aA hR.blk 0⟩,aC hR.blk 0,⟨_,by rw[aN];exact aA t1 1⟩,by rw[aN];exact aC t1 1,?_⟩;rw[aN];refine⟨K,?_⟩;unfold Ca;rw[hT];exact⟨rfl,by simpa using t2,h.row.kpE K (fun a ha=>(h.ne a ha).imp (fun e=>by rw[e];rfl) id),h.len,h.le,h.ne⟩
  refine⟨fun m i W=>∃ z:Nat,i=(z:Int)/\z<=64/\64-z=m/\Kp w W (fun q=>q=g)/\W.heap[w.heap.size]?=some (.cells #[.slice A n c,.int .i64 (at_:Int)] 240 (0,0))/\iD W g A n c l (at_+z)/\∀ j,j<z->((aS l).drop at_)[j]?=some false,
    ⟨_,0,rfl,by omega,rfl,Kp.of_none g1,bW,h.kept g1,fun j hj=>by omega⟩,?_⟩
  rintro m i w2 ⟨z,rfl,hz,rfl,hK,hB,hR,Ge⟩;have tz:(z:Int).toNat=z:=by omega
  rw[tz];refine⟨fun O9=>(j7 (k:=1) hR hl hb (by omega)).mono fun ev w3 hh=>?_,fun DK=>back w2 z hK hB hR ?_⟩
  · obtain⟨K3,⟨r1,rfl,R3⟩ | ⟨r1,rfl,R3⟩⟩:=hh
    · have FT:Kp w w3 (fun q=>q=g):=hK.then K3 (fun k _ h=>h);have Iz:w3.heap[w.heap.size]?=some (.cells #[.slice A n c,.int .i64 (at_:Int)] 240 (0,0)):=by rw[K3.block _ (Array.getElem?_eq_some_iff.1 hB).1 (by omega)];exact hB
      have FH:=CV (l:=l) (at_:=at_) (i:=z) (by omega);have E9:=oG (l:=l) (at_:=at_+z) (by omega);rw[E9];refine⟨_,_,rfl,fun h=>(by cases h),fun _=>⟨fun h0=>⟨by omega,_,?_,z+1,by omega,by omega,rfl,FT,Iz,by rw[← Nat.add_assoc];exact R3,fun j hj=>?_⟩,fun h1=>?_⟩⟩
      · omega
      · by_cases e:j=z
        · subst e;rw[FH];congr 1;cases JO:ef l (at_+j)with
          | false=>rfl
          | true=>rw[JO]at h0;simp[fq]at h0
        · exact Ge j (by omega)
      · have Hr:ef l (at_+z)=true:=by
          cases JO:ef l (at_+z)with
          | true=>rfl
          | false=>rw[JO]at h1;simp[fq]at h1
        rw[Hr]at FH;have JY:pu ((aS l).drop at_)=z:=Dg Ge (by rw[FH];simp);refine(j7 (k:=z) R3 hl hb (by omega)).mono fun ev w4 hh=>?_;obtain⟨K4,⟨r2,rfl,R4⟩ | ⟨r2,rfl,R4⟩⟩:=hh
        · have LB:Kp w w4 (fun q=>q=g):=FT.then K4 (fun k _ h=>h);have hv:=qH (((aS l).drop (at_+z+1)).take z);have Qs:(((aS l).drop (at_+z+1)).take z).length=z:=by rw[List.length_take,List.length_drop,dK];omega
          rw[Qs]at hv;have FZ:min z 64=z:=by omega
          have hp:=Int.pow_pos (n:=2) (m:=z) (by omega);have MQ:(2:Int)^z<=2^63:=by
            have:=Nat.pow_le_pow_right (n:=2) (by omega) (show z<=63 by omega);have e:((2^z:Nat):Int)=2^z:=by simp
            omega
          rw[FZ];refine⟨_,_,rfl,fun h=>(by cases h),fun _=>⟨⟨by omega,by omega,by omega⟩,LB,?_⟩⟩;unfold Ca pe;rw[JY,if_pos ⟨by omega,by rw[JM];omega⟩];refine⟨?_,?_⟩
          · rw[xg,uR hv.1 hv.2 (by omega) (by omega),List.drop_drop,← Nat.add_assoc];congr 5;omega
          · have:at_+(2*z+1)=at_+z+1+z:=by omega
            rw[this];exact R4
        · have LB:Kp w w4 (fun q=>q=g):=FT.then K4 (fun k _ h=>h);refine⟨_,_,rfl,fun _=>back w4 (z+1) LB (by rw[K4.block _ (Array.getElem?_eq_some_iff.1 Iz).1 (by omega)];exact Iz) (by rw[← Nat.add_assoc];exact R4) ?_,fun h=>absurd rfl h⟩;unfold pe;rw[JY,if_neg (by rw[JM];omega)]
    · refine⟨_,_,rfl,fun _=>back w3 z (hK.then K3 (fun k _ h=>h)) (by rw[K3.block _ (Array.getElem?_eq_some_iff.1 hB).1 (by omega)];exact hB) R3 ?_,fun h=>absurd rfl h⟩;have h1:=AT Ge;unfold pe;rw[if_neg (by rw[JM];omega)]
  · have h1:=AT Ge;unfold pe;rw[if_neg (by omega)]
theorem od(g i j:Nat):(⟨g,i,none⟩:Addr).add j=⟨g,i+j,none⟩:=by unfold Addr.add;split <;>simp_all
theorem jX{t0:Int}:∀ {l:List aU} {p:Option aU},jY t0 p l=true↔(∀ e∈l,0<=e.t/\e.t<=4611686018427387903/\e.u<e.v)/\(∀ j (hj:j+1<l.length),bC l[j] l[j+1]=true)/\(∀ e,l.head?=some e->match p with | none=>e.t=t0 | some q=>bC q e=true)
 | [],p=>by simp[jY]
 | e ::l,p=>by
  have ih:=jX (t0:=t0) (l:=l) (p:=some e);unfold jY;rw[Bool.and_eq_true,Bool.and_eq_true,ih,decide_eq_true_eq];constructor
  ·rintro⟨⟨h1,h2⟩,h3,h4,h5⟩;refine⟨fun a ha=>?_,fun j hj=>?_,fun a ha=>?_⟩
   ·rcases List.mem_cons.1 ha with rfl | ha
    ·exact h1
    ·exact h3 a ha
   ·cases j with
    | zero =>
     have h0:0<l.length:=by simpa using hj
     exact h5 l[0] (by rw[List.head?_eq_getElem?];simp[h0])
    | succ j=>exact h4 j (by simpa using hj)
   ·have:a=e:=by simpa using ha.symm
    subst this;cases p with
    | none=>simpa using h2
    | some q=>exact h2
  ·rintro⟨h1,h2,h3⟩;refine⟨⟨h1 e (by simp),?_⟩,fun a ha=>h1 a (by simp[ha]),fun j hj=>h2 (j+1) (Nat.succ_lt_succ hj),fun a ha=>?_⟩
   ·have:=h3 e rfl;cases p with
    | none=>simpa using this
    | some q=>exact this
   ·have h0:0<l.length:=by cases l with | nil=>simp at ha | cons=>simp
    have:=h2 0 (by simpa using h0);have e':l[0]=a:=by rw[List.head?_eq_getElem?,List.getElem?_eq_getElem h0]at ha;exact Option.some.inj ha
    rw[← e'];exact this
theorem vk {w:World} {A:OA} {n c:Nat} {l:List aU} {t0:Int} (hr:bB w A (cw l)) (hn:n=l.length) (hl:n<=2^20) :
    Calls P 106 #[.int .i64 t0,.slice A n c] w fun ev w'=>ev=.returned (.bool (jY t0 none l))/\w.grownBy w' none:=by
  apply vc106;dsimp only[VC106,rb,Wt,Br,Rd,Ix,Ws,cB,nb,ad,al,iq]
  try simp only[aG]
  have no:∀ {p:Nat} (hp:p<l.length),¬ (0<=l[p].t/\l[p].t<=4611686018427387903/\l[p].u<l[p].v)->jY t0 none l=false:=by
    intro p hp h;rw[Bool.eq_false_iff];intro hd;exact h ((jX.1 hd).1 _ (List.getElem_mem hp))
  refine⟨fun m i w'=>∃ p:Nat,i=(p:Int)/\p<=l.length/\l.length-p=m/\w.grownBy w' none/\(∀ j (hj:j<l.length),j<p->0<=l[j].t/\l[j].t<=4611686018427387903/\l[j].u<l[j].v)/\∀ j (hj:j+1<l.length),j+1<p->bC l[j] l[j+1]=true,
    ⟨_,0,rfl,by omega,rfl,aD _ _,fun j hj h=>by omega,fun j hj h=>by omega⟩,?_⟩
  rintro m i w1 ⟨p,rfl,hp,rfl,hg,hok,Gc⟩;have tp:(p:Int).toNat=p:=by omega
  have tp1:((p:Int)-1).toNat=p-1:=by omega
  rw[tp,tp1];refine⟨fun DF=>?_,fun DK=>?_⟩
  · have lp:p<l.length:=by omega
    obtain⟨a,e1,e2,e3,e4,e5⟩:=eS (hr.kept_none hg) lp;obtain⟨w2,hE,pE0,qE0,pE1,qE1,pE2,qE2,pE3,qE3,bE,gE⟩:=ud w1 62 (.int .i64 0) (.int .u32 0) (.int .u32 0) (.bool false) (.int .i64 l[p].t) (.int .u32 l[p].u) (.int .u32 l[p].v) (.bool l[p].add);refine⟨a,e1,by omega,by omega,_,e2,_,e3,_,e4,_,e5,pE0,qE0,pE1,qE1,pE2,qE2,pE3,qE3,?_⟩;rw[← hE];have gd:=aI (aD w2 none);have bE2:=aE bE gd;have DR:=aB (aB hg gE) gd;refine⟨_,aA bE2 0,fun h1=>⟨?_,DR⟩,fun h1=>⟨_,aA bE2 0,fun h2=>⟨?_,DR⟩,fun h2=>⟨_,aA bE2 1,_,aA bE2 2,fun h3=>⟨?_,DR⟩,fun h3=>?_⟩⟩⟩
    · rw[no lp (by omega)]
    · rw[no lp (by omega)]
    · rw[no lp (by omega)]
    · have ok':∀ j (hj:j<l.length),j<p+1->0<=l[j].t/\l[j].t<=4611686018427387903/\l[j].u<l[j].v:=by
        intro j hj JH;by_cases e:j=p
        · subst e;omega
        · exact hok j hj (by omega)
      refine⟨fun DZ=>?_,fun hz=>⟨by omega,_,?_,p+1,by omega,by omega,rfl,DR,ok',fun j hj h=>by omega⟩⟩
      · obtain⟨a',q1,q2,q3,q4,q5⟩:=eS (hr.kept_none DR) (show p-1<l.length by omega);refine⟨by omega,a',q1,by omega,by omega,_,q2,_,q3,_,q4,_,q5,_,aA bE2 0,_,aA bE2 1,_,aA bE2 2,_,aA bE2 3,(mL l[p-1] l[p]).mono fun ev w3 hh=>?_⟩;obtain⟨rfl,g3⟩:=hh;refine⟨_,rfl,fun h4=>⟨?_,aB DR g3⟩,fun h4=>⟨by omega,_,?_,p+1,by omega,by omega,rfl,aB DR g3,ok',fun j hj JH=>?_⟩⟩
        · congr 2
          symm
          rw[Bool.eq_false_iff];intro hd;have:=(jX.1 hd).2.1 (p-1) (by omega);have e:p-1+1=p:=by omega
          simp only[e]at this;rw[this]at h4;cases h4
        · omega
        · by_cases e:j+1=p
          · subst e;simpa using h4
          · exact Gc j hj (by omega)
      · omega
  · have:p=l.length:=by omega
    subst this;refine⟨fun h0=>⟨?_,hg⟩,fun h0=>?_⟩
    · have:l=[]:=List.eq_nil_of_length_eq_zero (by omega);subst this;rfl
    · have l0:0<l.length:=by omega
      obtain⟨a,e1,e2,e3,e4,e5⟩:=eS (hr.kept_none hg) l0;refine⟨a,e1,by omega,by omega,_,by simpa[Addr.add]using e2,?_,hg⟩;congr 2;have FR:l.head?=some l[0]:=by rw[List.head?_eq_getElem?,List.getElem?_eq_getElem l0]
      cases hd:jY t0 none l with
      | true=>simpa using(jX.1 hd).2.2 _ FR
      | false =>
        rw[decide_eq_false_iff_not];intro h;have:jY t0 none l=true:=jX.2 ⟨fun e he=>by obtain⟨j,hj,rfl⟩:=List.mem_iff_getElem.1 he;exact hok j hj hj,fun j hj=>Gc j hj hj,fun e he=>by
          rw[FR]at he;cases he;exact h⟩
        rw[hd]at this;cases this
def cE(t0:Int)(p:Option aU):aU:=p.getD ⟨t0,0,0,false⟩
theorem se(t0:Int)(p:Option aU)(e:aU):gk t0 p e=(e.t-(cE t0 p).t).toNat+1:=by cases p <;>rfl
theorem sf(t0:Int)(p:Option aU)(e:aU):ja p e=if p.isSome=true/\e.t=(cE t0 p).t then(e.u-(cE t0 p).u).toNat+1 else e.u.toNat+1:=by cases p <;>simp[ja,cE]
theorem sc(t0:Int)(p:Option aU)(e:aU):iL p e=if p.isSome=true/\e.t=(cE t0 p).t then(if e.u=(cE t0 p).u then(e.v-(cE t0 p).v).toNat else(e.v-e.u).toNat) else(e.v-e.u).toNat:=by
 cases p with
 | none=>simp[iL]
 | some q =>
  simp only[iL,cE,Option.getD_some,Option.isSome_some,true_and];by_cases h:e.t=q.t
  ·by_cases h2:e.u=q.u
   ·simp[h,h2]
   ·simp[h,h2]
  ·simp[h]
structure DWr(w:World)(base g gw:Nat)(t0:Int)(p:Option aU)(bits:List Bool):Prop where
 wr:Wr w base g bits
 low:base<=gw
 blk:w.heap[gw]?=some (.cells #[.pointer (some ⟨g,0,none⟩),.int .i64 (cE t0 p).t,.int .u32 (cE t0 p).u,.int .u32 (cE t0 p).v,.bool (cE t0 p).add,.bool p.isSome] 166 (0,0))
theorem zb{w:World}{base k:Nat}{ts:List TypeId}{cur:Array Value}{t:TypeId}{fr:Nat×Nat}(h:w.heap[k]?=some (.cells cur t fr))(ht:t ∉ ts):¬ xB w base ts k:=by
 rintro⟨_,t',h1,cur',fr',h2⟩;rw[h]at h2;cases h2;exact ht h1
theorem wO{w:World}{base g gw:Nat}{t0:Int}{p:Option aU}{e:aU}{bits:List Bool}(h:DWr w base g gw t0 p bits)(he:yU t0 p e)(hp:jA p)(EG:∀ q,p=some q->q.u<=4294967295/\q.v<=4294967295)(hl:bits.length<=2^28)(DM:base<=w.heap.size)(LX:0<=t0∨p≠none):
    Calls P 108 #[.pointer (some ⟨gw,0,none⟩),evtV e] w fun ev w'=>ev=.returned (.tuple #[])/\DWr w' base g gw t0 (some e) (bits++xA t0 p e)/\Kp w w' (fun k=>xB w base [214,5] k∨k=gw):=by
  apply vc108;dsimp only[VC108,rt,Wt,Br,Bb,Rd,Rc,Ws,cU,nb,iq];have hn:=he.nums hp;have Pj:=zu hp he;obtain⟨h1,h2,h3⟩:=he;have hq:0<=(cE t0 p).t/\0<=(cE t0 p).u/\(cE t0 p).u<=4294967295/\0<=(cE t0 p).v/\(cE t0 p).v<=4294967295/\(cE t0 p).t<=e.t/\(p.isSome=true->e.t=(cE t0 p).t->(cE t0 p).u<e.u∨(cE t0 p).u=e.u/\(cE t0 p).v<e.v):=by
    cases p with
    | none=>simp only at h3;simp[cE];omega
    | some q =>
      have a1:=hp q rfl;have a2:=EG q rfl;simp only[dT]at h3;simp only[cE,Option.getD_some];refine⟨by omega,by omega,by omega,by omega,by omega,by omega,fun _ _=>by omega⟩
  have Gb:=h.blk;have Nx:=(Array.getElem?_eq_some_iff.1 Gb).1;have hG:=se t0 p e;have hF:=sf t0 p e;have hS:=sc t0 p e;generalize SZ:cE t0 p=q at *;generalize Gz:p.isSome=any at *;obtain⟨gaps,Ir⟩:∃ x,x=gk t0 p e:=⟨_,rfl⟩;obtain⟨fst,KZ⟩:∃ x,x=ja p e:=⟨_,rfl⟩;obtain⟨snd,Kf⟩:∃ x,x=iL p e:=⟨_,rfl⟩;have JK:xA t0 p e=gx gaps++(e.add ::(gx fst++gx snd)):=by unfold xA;rw[Ir,KZ,Kf]
  rw[← Ir]at hG hn;rw[← KZ]at hF hn;rw[← Kf]at hS hn;rw[JK]at Pj ⊢;simp only[List.length_append,List.length_cons]at Pj;simp only[aG];obtain⟨w1,DG,g1,b1⟩:=fQ w #[.int .i64 e.t,.int .u32 e.u,.int .u32 e.v,.bool e.add] 62;rw[← DG];have gd:=aB g1 (aI (aD w1 none));have bd:w1.drew.heap[w.heap.size]?=some (.cells #[.int .i64 e.t,.int .u32 e.u,.int .u32 e.v,.bool e.add] 62 (0,0)):=b1;have bG:=aE Gb gd;have L6:62 ∉ [214,5]:=by decide
  have KF:166 ∉ [214,5]:=by decide
  have DK:0<gaps:=by rw[hG];omega
  have kgap:e.t-q.t+1=(gaps:Int):=by rw[hG];omega
  refine⟨_,rfl,_,aA bG 0,_,aA bd 0,_,rfl,_,by rw[aN];exact aA bG 1,by omega,by omega,by omega,?_⟩;rw[kgap];refine(ng (h.wr.kept gd) ⟨DK,by omega⟩ (by omega) (Nat.le_trans DM gd.size)).mono fun ev w2 hh=>?_;obtain⟨rfl,Iw,K2⟩:=hh;have stay:∀ {W W':World} {k:Nat} {cur:Array Value} {t:TypeId},W.heap[k]?=some (.cells cur t (0,0))->Kp W W' (xB W base [214,5])->t ∉ [214,5]->W'.heap[k]?=some (.cells cur t (0,0)):=by
    intro W W' k cur t hb hK ht;rw[hK.block k (Array.getElem?_eq_some_iff.1 hb).1 (zb hb ht)];exact hb
  have b2:=stay bd K2 L6;have bG2:=stay bG K2 KF;have Kw:Kp w w2 (xB w base [214,5]):=(Kp.of_none (S:=xB w base [214,5]) gd).tysThen K2;refine⟨rfl,fun s w'=>s=fq e.add/\w'=w2,⟨_,aA b2 3,fun ha=>⟨by rw[ha];rfl,rfl⟩,fun ha=>⟨by rw[ha];rfl,rfl⟩⟩,?_⟩;rintro s w3 ⟨rfl,rfl⟩;have Tx:=fL e.add;refine⟨_,rfl,_,aA bG2 0,(mc (v:=fq e.add) (n:=1) Iw (by omega) (by omega) (by simp;omega) (Nat.le_trans DM Kw.size)).mono fun ev w4 hh=>?_⟩;obtain⟨rfl,PB,K4⟩:=hh;have FH:cX (fq e.add) 1=[e.add]:=by cases e.add <;>rfl
  rw[FH]at PB;have b4:=stay b2 K4 L6;have bG4:=stay bG2 K4 KF;have Kw4:=Kw.tysThen K4;have gd4:=aI (aD w4 none)
  -- the vertices of the event ahead
  have s0:(w4.drew.alloc (.cells #[.int .u32 0,.int .u32 0] 45)).heap[w4.drew.heap.size]?=some (.cells #[.int .u32 0,.int .u32 0] 45 (0,0)):=heap_alloc_new w4.drew _;have s1:=aF s0 0 (.int .u32 q.u);have s2:=aF s1 1 (.int .u32 q.v);have gS0:=aB gd4 (World.grownBy_alloc w4.drew (.cells #[.int .u32 0,.int .u32 0] 45) none);have gS:w4.grownBy (((w4.drew.alloc (.cells #[.int .u32 0,.int .u32 0] 45)).setCell ⟨w4.drew.heap.size,0,none⟩ (.int .u32 q.u)).setCell ⟨w4.drew.heap.size,1,none⟩ (.int .u32 q.v)) none :=
    (cv (cv (Kp.of_none (S:=fun k=>w4.heap.size<=k) gS0) (Nat.le_refl _)) (Nat.le_refl _)).grown (fun k hk e=>by omega)
  have bQ:(((w4.drew.alloc (.cells #[.int .u32 0,.int .u32 0] 45)).setCell ⟨w4.drew.heap.size,0,none⟩ (.int .u32 q.u)).setCell ⟨w4.drew.heap.size,1,none⟩ (.int .u32 q.v)).heap[w4.drew.heap.size]?=some (.cells #[.int .u32 q.u,.int .u32 q.v] 45 (0,0)):=by simpa using s2
  refine⟨rfl,fun wq=>w4.grownBy wq none,gd4,_,fun wq gq=>aA (aE b4 gq) 1,by omega,by omega,_,fun wq gq=>aA (aE b4 gq) 2,_,fun wq gq=>aA (aE b4 gq) 1,by omega,by omega,_,rfl,_,fun wq gq=>by rw[eL,aN];exact aA (aE bG4 gq) 2,_,fun wq gq=>by rw[eL,eL,aN];exact aA (aE bG4 gq) 3,gS0,⟨_,aA s0 0⟩,aC s0 0,⟨_,aA s1 1⟩,aC s1 1,gS,?_⟩;obtain⟨w5,LR⟩:∃ w5,w5=((w4.drew.alloc (.cells #[.int .u32 0,.int .u32 0] 45)).setCell ⟨w4.drew.heap.size,0,none⟩ (.int .u32 q.u)).setCell ⟨w4.drew.heap.size,1,none⟩ (.int .u32 q.v):=⟨_,rfl⟩;rw[← LR]at gS bQ ⊢;have gS5:=aB gS (aI (aD w5 none));have bQ5:=aE bQ (aI (aD w5 none));refine⟨fun u v w'=>u=(fst:Int)/\v=(snd:Int)/\w'=w5.drew,⟨fun b w'=>b=(any && decide (e.t=q.t))/\w'=w5.drew,⟨_,rfl,_,by rw[aN];exact aA (aE bG4 gS5) 5,fun ha=>⟨_,aA (aE b4 gS5) 0,_,rfl,_,by rw[aN];exact aA (aE bG4 gS5) 1,by rw[ha];rfl,rfl⟩,fun ha=>⟨by rw[ha];rfl,rfl⟩⟩,?_⟩,?_⟩
  · rintro b w6 ⟨hb,rfl⟩;refine⟨fun Hr=>?_,fun Gc=>⟨?_,?_,rfl⟩⟩
    · rw[Hr]at hb;have E6:=hb.symm;simp only[Bool.and_eq_true,decide_eq_true_eq]at E6;have ho:=hq.2.2.2.2.2.2 E6.1 E6.2;rw[if_pos ⟨E6.1,E6.2⟩]at hF hS;refine⟨_,aA bQ5 0,by omega,by omega,_,aA (aE b4 gS5) 1,_,aA bQ5 0,fun hs=>⟨_,aA (aE b4 gS5) 2,_,aA bQ5 1,by omega,by omega,by omega,?_,rfl⟩,fun hs=>⟨by omega,?_,rfl⟩⟩
      · rw[if_pos hs]at hS;omega
      · rw[if_neg hs]at hS;omega
    · have:¬ (any=true/\e.t=q.t):=by rintro⟨a1,a2⟩;rw[a1,Gc]at hb;simp[a2]at hb
      rw[if_neg this]at hF;omega
    · have:¬ (any=true/\e.t=q.t):=by rintro⟨a1,a2⟩;rw[a1,Gc]at hb;simp[a2]at hb
      rw[if_neg this]at hS;omega
  · rintro u v w6 ⟨rfl,rfl,rfl⟩;have b6:=aE b4 gS5;have bG6:=aE bG4 gS5;have Kw6:Kp w w5.drew (xB w base [214,5]):=Kw4.tysThen (Kp.of_none gS5);refine⟨_,rfl,_,aA bG6 0,(ng (PB.kept gS5) ⟨hn.2.1.1,by omega⟩ (by simp;omega) (Nat.le_trans DM Kw6.size)).mono fun ev w7 hh=>?_⟩;obtain⟨rfl,Me,K7⟩:=hh;have b7:=stay b6 K7 L6;have bG7:=stay bG6 K7 KF;have Kw7:=Kw6.tysThen K7;refine⟨rfl,_,rfl,_,aA bG7 0,(ng Me ⟨hn.2.2.1,by omega⟩ (by simp;omega) (Nat.le_trans DM Kw7.size)).mono fun ev w8 hh=>?_⟩;obtain⟨rfl,Sa,K8⟩:=hh;have b8:=stay b7 K8 L6;have bG8:=stay bG7 K8 KF;have Kw8:=Kw7.tysThen K8;have t1:=aF bG8 1 (.int .i64 e.t);have t2:=aF t1 2 (.int .u32 e.u);have t3:=aF t2 3 (.int .u32 e.v);have t4:=aF t3 4 (.bool e.add);have t5:=aF t4 5 (.bool true);have K9:Kp w8 (((((w8.setCell ⟨gw,1,none⟩ (.int .i64 e.t)).setCell ⟨gw,2,none⟩ (.int .u32 e.u)).setCell ⟨gw,3,none⟩ (.int .u32 e.v)).setCell ⟨gw,4,none⟩ (.bool e.add)).setCell ⟨gw,5,none⟩ (.bool true)) (fun k=>k=gw):=cv (cv (cv (cv (cv (Kp.refl w8 _) rfl) rfl) rfl) rfl) rfl;refine⟨rfl,_,aA b8 0,_,aA b8 1,_,aA b8 2,_,aA b8 3,_,rfl,?_⟩;simp only[od,Nat.zero_add,Nat.reduceAdd];refine⟨⟨_,aA bG8 1⟩,aC bG8 1,⟨_,aA t1 2⟩,aC t1 2,⟨_,aA t2 3⟩,aC t2 3,⟨_,aA t3 4⟩,aC t3 4,_,rfl,?_⟩;simp only[od,Nat.zero_add,Nat.reduceAdd];refine⟨⟨_,aA t4 5⟩,aC t4 5,trivial,⟨?_,h.low,?_⟩,?_⟩
    · have:bits++(gx gaps++(e.add ::(gx fst++gx snd)))=bits++gx gaps++[e.add]++gx fst++gx snd:=by simp[List.append_assoc]
      rw[this];refine Sa.kp K9 (fun k hk ht e=>?_);subst e;exact zb bG8 KF ht
    · exact Eq.trans (b:=some (.cells #[.pointer (some ⟨g,0,none⟩),.int .i64 e.t,.int .u32 e.u,.int .u32 e.v,.bool e.add,.bool true] 166 (0,0))) (by simpa using t5) rfl
    · exact(Kw8.mono (fun k _ h=>.inl h)).then K9 (fun k _ h=>.inr h)
theorem lT.mem{l:List aU}(h:lT l){e:aU}(he:e∈l):(0<=e.u/\e.u<=4294967295)/\0<=e.v/\e.v<=4294967295:=(h e he).1
theorem si {w:World} {A:OA} {n c:Nat} {l:List aU} {t0:Int} (hr:bB w A (cw l)) (hn:n=l.length) (hl:n<=2^19) (hb:lT l) :
    Calls P 67 #[.int .i64 t0,.slice A n c] w fun ev w'=>∃(A':OA)(n' c':Nat),ev=.returned (.tuple #[.slice A' n' c',.int .i64 (if jY t0 none l=true then 0 else 23)])/\aH w' w.heap.size 5 1 A' n' c' (cz (if jY t0 none l=true then ez t0 l else []))/\w.grownBy w' none:=by
  apply vc67;dsimp only[VC67,rt,Wt,Br,Rd,Ix,Ws,cB,cS,cU,nb,ad,al,iq]
  try simp only[aG]
  refine(vk (t0:=t0) hr hn (by omega)).mono fun ev w1 hh=>?_;obtain⟨rfl,g1⟩:=hh;refine⟨_,rfl,fun h=>?_,fun h=>?_⟩
  · rw[h];exact⟨_,_,_,rfl,aH.nil _ _ _ _,g1⟩
  have hd:jY t0 none l=true:=by simpa using h
  rw[hd];have hD:=(lN hb).1 hd;have DH:=mw (fun q hq=>by cases hq) hD;refine(kO (base:=w.heap.size) g1.size).mono fun ev w2 hh=>?_;obtain⟨rfl,Iw,g2⟩:=hh;have g3:=World.grownBy_alloc w2 (.cells #[.pointer (some ⟨w1.heap.size,0,none⟩),.int .i64 t0,.int .u32 0,.int .u32 0,.bool false,.bool false] 166) none;have b3:(w2.alloc (.cells #[.pointer (some ⟨w1.heap.size,0,none⟩),.int .i64 t0,.int .u32 0,.int .u32 0,.bool false,.bool false] 166)).heap[w2.heap.size]?=some (.cells #[.pointer (some ⟨w1.heap.size,0,none⟩),.int .i64 t0,.int .u32 0,.int .u32 0,.bool false,.bool false] 166 (0,0)):=heap_alloc_new w2 _;have Fe:=aB g1 g2;have F7:w.heap.size<=w2.heap.size:=Fe.size;obtain⟨w3,Ep⟩:∃ w3,w3=w2.alloc (.cells #[.pointer (some ⟨w1.heap.size,0,none⟩),.int .i64 t0,.int .u32 0,.int .u32 0,.bool false,.bool false] 166):=⟨_,rfl⟩;refine⟨_,rfl,?_⟩;rw[← Ep]at g3 b3 ⊢;have D0:DWr w3 w.heap.size w1.heap.size w2.heap.size t0 none []:=⟨Iw.kept g3,F7,b3⟩;have DP:=aB Fe g3;refine⟨fun m i w'=>∃ p:Nat,i=(p:Int)/\p<=l.length/\l.length-p=m/\w.grownBy w' none/\DWr w' w.heap.size w1.heap.size w2.heap.size t0 (f9 (l.take p) none) (dN t0 none (l.take p)),⟨_,0,rfl,by omega,rfl,DP,by simpa[f9,dN]using D0⟩,?_⟩;rintro m i w4 ⟨p,rfl,hp,rfl,hg,hW⟩;have tp:(p:Int).toNat=p:=by omega
  rw[tp];refine⟨fun DF=>?_,fun DK=>?_⟩
  · have lp:p<l.length:=by omega
    obtain⟨a,e1,e2,e3,e4,e5⟩:=eS (hr.kept_none hg) lp;obtain⟨w5,hE,pE0,qE0,pE1,qE1,pE2,qE2,pE3,qE3,bE,gE⟩:=ud w4 62 (.int .i64 0) (.int .u32 0) (.int .u32 0) (.bool false) (.int .i64 l[p].t) (.int .u32 l[p].u) (.int .u32 l[p].v) (.bool l[p].add);refine⟨a,e1,by omega,by omega,_,e2,_,e3,_,e4,_,e5,pE0,qE0,pE1,qE1,pE2,qE2,pE3,qE3,?_⟩;rw[← hE];have MF:l=l.take p++(l[p] ::l.drop (p+1)):=by rw[← List.drop_eq_getElem_cons lp,List.take_append_drop]
    have LF:=hD;rw[MF,dO.append]at LF;obtain⟨Sv,Ol,_⟩:=LF;have Nc:=mw (fun q hq=>by cases hq) Sv;have HW:(l.take p).length<=2^19:=by rw[List.length_take];omega
    have Gh:∀ q,f9 (l.take p) none=some q->q∈l:=by
      intro q hq;cases p with
      | zero=>simp[f9]at hq
      | succ p =>
        rw[List.take_succ_eq_append_getElem (show p<l.length by omega),kq]at hq;cases hq;exact List.getElem_mem _
    have Mg:jA (f9 (l.take p) none):=by
      intro q hq;have h1:=hb.mem (Gh q hq);obtain⟨j,hj,rfl⟩:=List.mem_iff_getElem.1 (Gh q hq);have h2:=(jX.1 hd).1 _ (Gh _ hq);omega
    refine⟨_,aA bE 0,_,aA bE 1,_,aA bE 2,_,aA bE 3,(wO (e:=l[p]) (⟨hW.wr.kept gE,hW.low,aE hW.blk gE⟩:DWr w5 _ _ _ _ _ _) Ol Mg (fun q hq=>by have:=hb.mem (Gh q hq);omega) (by omega) (Nat.le_trans hg.size gE.size) ?_).mono fun ev w6 hh=>?_⟩
    · by_cases MR:p=0
      · left;subst MR;have:=Ol.1;have h2:=Ol.2.2;simp[f9]at h2;omega
      · right;obtain⟨k,rfl⟩:∃ k,p=k+1:=⟨p-1,by omega⟩;rw[List.take_succ_eq_append_getElem (show k<l.length by omega),kq];simp
    · obtain⟨rfl,h6,K6⟩:=hh;refine⟨rfl,by omega,_,?_,p+1,by omega,by omega,rfl,(((Kp.of_none (S:=fun k=>w.heap.size<=k) (aB hg gE)).then K6 (fun k _ h=>by rcases h with h | h;exact h.1;omega)).grown (fun k hk e=>by omega)),?_⟩
      · omega
      · rw[List.take_succ_eq_append_getElem lp,kq,nW];have:dN t0 (f9 (l.take p) none) [l[p]]=xA t0 (f9 (l.take p) none) l[p]:=by simp[dN]
        rw[this];exact h6
  · have:p=l.length:=by omega
    subst this;rw[List.take_length]at hW;refine⟨_,rfl,_,aA hW.blk 0,(pY hW.wr (by omega)).mono fun ev w5 hh=>?_⟩;obtain⟨B,k,d,rfl,oB,g5⟩:=hh;exact⟨_,_,_,rfl,_,_,_,rfl,oB.mono hg.size,aB hg g5⟩
structure pt(w:World)(g gr:Nat)(A:OA)(n c:Nat)(l:List Int)(at_:Nat)(q:aU)(any ok:Bool):Prop where
 rd:iD w g A n c l at_
 blk:w.heap[gr]?=some (.cells #[.pointer (some ⟨g,0,none⟩),.int .i64 q.t,.int .u32 q.u,.int .u32 q.v,.bool q.add,.bool any,.bool ok] 192 (0,0))
 ne:g≠gr
 neA:∀ a,A=some a->l=[]∨a.block≠gr
theorem pt.kept{w w':World}{g gr:Nat}{A:OA}{n c:Nat}{l:List Int}{at_:Nat}{q:aU}{any ok:Bool}(h:pt w g gr A n c l at_ q any ok)(hg:w.grownBy w' none):pt w' g gr A n c l at_ q any ok :=
 ⟨h.rd.kept hg,aE h.blk hg,h.ne,h.neA⟩
theorem pt.mark{w:World}{g gr:Nat}{A:OA}{n c:Nat}{l:List Int}{at_:Nat}{q:aU}{any ok:Bool}(h:pt w g gr A n c l at_ q any ok)(b:Bool):
    pt (w.setCell ((⟨gr,0,none⟩:Addr).add 6) (.bool b)) g gr A n c l at_ q any b/\Kp w (w.setCell ((⟨gr,0,none⟩:Addr).add 6) (.bool b)) (fun k=>k=gr):=by
  rw[aN];have K:Kp w (w.setCell ⟨gr,6,none⟩ (.bool b)) (fun k=>k=gr):=cv (Kp.refl w _) rfl;exact⟨⟨h.rd.kp K h.ne (fun a ha=>h.neA a ha),by simpa using aF h.blk 6 (.bool b),h.ne,h.neA⟩,K⟩
theorem pt.flag{w:World}{g gr:Nat}{A:OA}{n c:Nat}{l:List Int}{at_:Nat}{q:aU}{any ok:Bool}(h:pt w g gr A n c l at_ q any ok):w.cell? ((⟨gr,0,none⟩:Addr).add 6)=some (.bool ok)/\w.frozen? ((⟨gr,0,none⟩:Addr).add 6)=false:=by
 rw[aN];exact⟨aA h.blk 6,aC h.blk 6⟩
def sH(bs:List Bool)(most v:Int)(k:Nat)(b:Bool):Prop:=(∃ v' k',pe bs=some (v',k')/\v=v'/\k=k'/\b=decide (v'<=most))∨(pe bs=none/\v=0/\k=0/\b=false)
theorem nq{w:World}{g gr:Nat}{A:OA}{n c:Nat}{l:List Int}{at_:Nat}{q:aU}{any ok:Bool}{most:Int}(h:pt w g gr A n c l at_ q any ok)(hl:l.length<=2^40)(hb:aR l):
    Calls P 165 #[.pointer (some ⟨gr,0,none⟩),.int .u64 most] w fun ev w'=>∃(v:Int)(k:Nat)(b:Bool),ev=.returned (.int .u64 v)/\sH ((aS l).drop at_) most v k b/\pt w' g gr A n c l (at_+k) q any (ok && b)/\Kp w w' (fun k=>k=g∨k=gr):=by
  apply vc165;dsimp only[VC165,Wt,Bb];refine⟨_,rfl,_,aA h.blk 0,(wC h.rd hl hb).mono fun ev w1 hh=>?_⟩;obtain⟨K1,hG⟩:=hh;have Ph:=(Array.getElem?_eq_some_iff.1 h.blk).1;have b1:w1.heap[gr]?=some (.cells #[.pointer (some ⟨g,0,none⟩),.int .i64 q.t,.int .u32 q.u,.int .u32 q.v,.bool q.add,.bool any,.bool ok] 192 (0,0)):=by rw[K1.block gr Ph (fun e=>h.ne e.symm)];exact h.blk
  unfold Ca at hG;obtain⟨v,k,b,is,hR,he,hN,En⟩:∃(v:Int)(k:Nat)(b is:Bool),iD w1 g A n c l (at_+k)/\ev=.returned (.tuple #[.int .u64 v,.bool is])/\sH ((aS l).drop at_) most v k b/\b=(is && decide (v<=most)):=by
    cases hT:pe ((aS l).drop at_)with
    | none =>
      rw[hT]at hG;exact⟨0,0,false,false,hG.2,hG.1,.inr ⟨hT,rfl,rfl,rfl⟩,rfl⟩
    | some x =>
      obtain⟨v,k⟩:=x;rw[hT]at hG;exact⟨v,k,decide (v<=most),true,hG.2,hG.1,.inl ⟨v,k,hT,rfl,rfl,rfl⟩,by simp⟩
  have hD:pt w1 g gr A n c l (at_+k) q any ok:=⟨hR,b1,h.ne,h.neA⟩;have st:∀ b':Bool,b'=(ok && b)->∃(v':Int)(k:Nat)(b:Bool),Ending.returned (.int .u64 v)=.returned (.int .u64 v')/\sH ((aS l).drop at_) most v' k b/\pt (World.setCell w1 ((⟨gr,0,none⟩:Addr).add 6) (.bool b')) g gr A n c l (at_+k) q any (ok && b)/\Kp w (World.setCell w1 ((⟨gr,0,none⟩:Addr).add 6) (.bool b')) (fun k=>k=g∨k=gr):=by
    intro b' E6;obtain⟨m1,m2⟩:=hD.mark b';exact⟨v,k,b,rfl,hN,by rw[← E6];exact m1,(K1.mono (fun k _ h=>.inl h)).then m2 (fun k _ h=>.inr h)⟩
  refine⟨v,is,he,_,rfl,ok,hD.flag.1,fun ho=>⟨fun hi=>⟨_,rfl,⟨_,hD.flag.1⟩,hD.flag.2,st _ ?_⟩,fun hi=>⟨_,rfl,⟨_,hD.flag.1⟩,hD.flag.2,st _ ?_⟩⟩,fun ho=>⟨_,rfl,⟨_,hD.flag.1⟩,hD.flag.2,st _ ?_⟩⟩
  · rw[ho,En,hi];rfl
  · rw[ho,En,hi];rfl
  · rw[ho];rfl
theorem sH.ok{bs:List Bool}{most v:Int}{k:Nat}{b:Bool}(h:sH bs most v k b)(hb:b=true):1<=v/\v<=most/\0<k/\k<=bs.length:=by
 rcases h with⟨v',k',h1,rfl,rfl,rfl⟩ | ⟨_,_,_,rfl⟩
 ·have:=CM h1;have:=of_decide_eq_true hb;omega
 ·cases hb
theorem sH.put{bs rest:List Bool}{most v:Int}{k x:Nat}{b:Bool}(h:sH bs most v k b)(hx:0<x/\x<2^64)(hm:(x:Int)<=most)(he:bs=gx x++rest):v=(x:Int)/\k=(gx x).length/\b=true/\bs.drop k=rest:=by
 have ht:=rO hx.1 hx.2 rest;rw[← he]at ht;rcases h with⟨v',k',h1,rfl,rfl,rfl⟩ | ⟨h1,_⟩
 ·rw[ht]at h1;simp only[Option.some.injEq,Prod.mk.injEq]at h1;obtain⟨rfl,rfl⟩:=h1;exact⟨rfl,rfl,by simpa using hm,by rw[he,List.drop_left' rfl]⟩
 ·rw[ht]at h1;cases h1
def sG(e:aU):Prop:=(0<=e.t/\e.t<=4611686018427387903)/\0<=e.u/\e.u<e.v/\e.v<=4294967295
theorem AV(x:Int):0<=IntKind.u32.wrap x/\IntKind.u32.wrap x<=4294967295:=by
 have h:IntKind.u32.wrap x=x % 4294967296:=rfl;rw[h];omega
theorem lW{x:Int}(hx:0<=x/\x<=4294967295):IntKind.u32.wrap x=x:=by
 have h:IntKind.u32.wrap x=x % 4294967296:=rfl;rw[h];omega
theorem vl {w : World} {g gr:Nat} {A:OA} {n c:Nat} {l:List Int} {at_:Nat} {t0:Int} {p:Option aU} (h:pt w g gr A n c l at_ (cE t0 p) p.isSome true) (hl:l.length<=2^40) (hb:aR l) (LX:0<=t0/\t0<=4611686018427387903) (hp:∀ q,p=some q->sG q) :
    Calls P 124 #[.pointer (some ⟨gr,0,none⟩)] w fun ev w'=>∃(e:aU)(at':Nat)(p':Option aU)(ok:Bool),ev=.returned (evtV e)/\pt w' g gr A n c l at' (cE t0 p') p'.isSome ok/\Kp w w' (fun k=>k=g∨k=gr)/\(0<=e.u/\e.u<=4294967295)/\(0<=e.v/\e.v<=4294967295)/\(-9223372036854775808<=e.t/\e.t<=9223372036854775807)/\at_<=at' ∧
      (ok=true->p'=some e/\sG e/\at_<at') ∧
      ∀ e0 rest,yU t0 p e0->(aS l).drop at_=xA t0 p e0++rest->ok=true/\e=e0/\(aS l).drop at'=rest:=by
  apply vc124;dsimp only[VC124,Wt,Br,Bb,Rd,Ws,cI,nb,iq]
  try simp only[aG]
  have hq:(0<=(cE t0 p).t/\(cE t0 p).t<=4611686018427387903)/\(0<=(cE t0 p).u/\(cE t0 p).u<=4294967295)/\0<=(cE t0 p).v/\(cE t0 p).v<=4294967295/\(p.isSome=true->(cE t0 p).u<(cE t0 p).v):=by
    cases p with
    | none=>simp[cE];omega
    | some q=>have:=hp q rfl;unfold sG at this;simp[cE];omega
  have Mg:jA p:=fun q hq=>by have:=hp q hq;unfold sG at this;omega
  have Js:=se t0 p;have Jt:=sf t0 p;have Jp:=sc t0 p;obtain⟨q,Kn⟩:∃ q,q=cE t0 p:=⟨_,rfl⟩;obtain⟨any,Gz⟩:∃ any,any=p.isSome:=⟨_,rfl⟩;rw[← Kn,← Gz]at h;rw[← Kn]at hq Js Jt Jp;rw[← Gz]at hq Jt Jp;have Nz:=(Array.getElem?_eq_some_iff.1 h.blk).1;have KY:=(Array.getElem?_eq_some_iff.1 h.rd.blk).1;obtain⟨w0,FB,g0,b0⟩:=fQ w #[.int .i64 0,.int .u32 0,.int .u32 0,.bool false] 62;rw[← FB];have keepR:∀ {W W':World},W.heap[w.heap.size]?=some (.cells #[.int .i64 0,.int .u32 0,.int .u32 0,.bool false] 62 (0,0))->Kp W W' (fun k=>k=g∨k=gr)->W'.heap[w.heap.size]?=some (.cells #[.int .i64 0,.int .u32 0,.int .u32 0,.bool false] 62 (0,0)):=by
    intro W W' hB hK;rw[hK.block _ (Array.getElem?_eq_some_iff.1 hB).1 (by omega)];exact hB
  refine(nq (most:=4611686018427387904) (h.kept g0) hl hb).mono fun ev w1 hh=>?_;obtain⟨tv,k1,o1,rfl,N1,D1,K1⟩:=hh;rw[Bool.true_and]at D1;have HT:=keepR b0 K1;refine⟨_,rfl,_,rfl,_,aA D1.blk 0,(j7 (k:=1) D1.rd hl hb (by omega)).mono fun ev w2 hh=>?_⟩;obtain⟨K2,Sf⟩:=hh;have Ny:=(Array.getElem?_eq_some_iff.1 D1.blk).1
  obtain⟨sv,o2,k2,ND,D2,Iy⟩:∃(sv:Int)(o2:Bool)(k2:Nat),ev=.returned (.tuple #[.int .u64 sv,.bool o2])/\pt w2 g gr A n c l (at_+k1+k2) q any o1 ∧
      ((o2=true/\k2=1/\at_+k1+1<=8*l.length/\sv=fq (ef l (at_+k1)))∨(o2=false/\k2=0/\sv=0/\8*l.length<at_+k1+1)):=by
    have Iv:w2.heap[gr]?=_:=(K2.block gr Ny (fun e=>h.ne e.symm)).trans D1.blk;rcases Sf with⟨r1,r2,r3⟩ | ⟨r1,r2,r3⟩
    · rw[oG r1]at r2;exact⟨_,true,1,r2,⟨r3,Iv,h.ne,h.neA⟩,.inl ⟨rfl,rfl,r1,rfl⟩⟩
    · exact⟨_,false,0,r2,⟨r3,Iv,h.ne,h.neA⟩,.inr ⟨rfl,rfl,rfl,r1⟩⟩
  have HS:=keepR HT (K2.mono (fun k _ h=>.inl h));refine⟨sv,o2,ND,(nq (most:=4294967296) D2 hl hb).mono fun ev w3 hh=>?_⟩;obtain⟨uv,k3,o3,rfl,N3,D3,K3⟩:=hh;have Iz:=keepR HS K3;refine⟨_,rfl,(nq (most:=4294967296) D3 hl hb).mono fun ev w4 hh=>?_⟩;obtain⟨vv,k4,o4,rfl,N4,D4,K4⟩:=hh;have PT:=keepR Iz K4;have Kw4:Kp w w4 (fun k=>k=g∨k=gr):=((((Kp.of_none (S:=fun k=>k=g∨k=gr) g0).then K1 (fun k _ h=>h)).then K2 (fun k _ h=>.inl h)).then K3 (fun k _ h=>h)).then K4 (fun k _ h=>h);have lenb:∀ a:Nat,((aS l).drop a).length=8*l.length-a:=fun a=>by rw[List.length_drop,dK]
  -- what comes of bits that begin with an event's
  have cond:∀ e0 rest,yU t0 p e0->(aS l).drop at_=xA t0 p e0++rest->tv=(gk t0 p e0:Int)/\o1=true/\o2=true/\sv=fq e0.add/\uv=(ja p e0:Int)/\o3=true/\vv=(iL p e0:Int)/\o4=true/\(aS l).drop (at_+k1+k2+k3+k4)=rest:=by
    intro e0 rest he Ew;have hn:=he.nums Mg;unfold xA at Ew;simp only[List.append_assoc,List.cons_append]at Ew;obtain⟨c1,c2,c3,c4⟩:=N1.put ⟨by unfold gk;omega,by omega⟩ (by have:=he.1;have:=he.2.2;rw[Js];have:=hq.1;omega) Ew;rw[List.drop_drop]at c4;have Pa:at_+k1<8*l.length:=by
      have:=congrArg List.length c4;rw[lenb]at this;simp at this;omega
    have hd:=pj (l:=l) (at_:=at_+k1) (by omega);rw[hd]at c4;simp only[List.cons.injEq]at c4;rcases Iy with⟨s1,s2,s3,s4⟩ | ⟨s1,s2,s3,s4⟩
    · subst s2;obtain⟨c5,c6,c7,c8⟩:=N3.put ⟨hn.2.1.1,by omega⟩ (by omega) c4.2;rw[List.drop_drop]at c8;obtain⟨c9,c10,c11,c12⟩:=N4.put ⟨hn.2.2.1,by omega⟩ (by omega) c8;rw[List.drop_drop]at c12;exact⟨c1,c3,s1,by rw[s4,c4.1],c5,c7,c9,c11,c12⟩
    · omega
  refine⟨_,rfl,fun W=>pt W g gr A n c l (at_+k1+k2+k3+k4) q any (((o1 && o3) && o4) && o2)/\Kp w W (fun k=>k=g∨k=gr)/\W.heap[w.heap.size]?=some (.cells #[.int .i64 0,.int .u32 0,.int .u32 0,.bool false] 62 (0,0)),⟨_,rfl,_,D4.flag.1,fun ho=>⟨_,rfl,⟨_,D4.flag.1⟩,D4.flag.2,?_⟩,fun ho=>⟨_,rfl,⟨_,D4.flag.1⟩,D4.flag.2,?_⟩⟩,?_⟩
  · obtain⟨m1,m2⟩:=D4.mark o2;rw[ho,Bool.true_and];exact⟨m1,Kw4.then m2 (fun k _ h=>.inr h),keepR PT (m2.mono (fun k _ h=>.inr h))⟩
  · obtain⟨m1,m2⟩:=D4.mark false;rw[ho,Bool.false_and];exact⟨m1,Kw4.then m2 (fun k _ h=>.inr h),keepR PT (m2.mono (fun k _ h=>.inr h))⟩
  rintro w5 ⟨D5,K5,FU⟩;generalize OZ:(((o1 && o3) && o4) && o2)=oo at D5;have Ff:w.heap.size≠gr/\w.heap.size≠g:=by omega
  refine⟨_,rfl,oo,D5.flag.1,fun hf=>?_,fun ht=>?_⟩
  · -- it ends RE
    subst hf;have s1:=aF FU 0 (.int .i64 0);have s2:=aF s1 1 (.int .u32 0);have s3:=aF s2 2 (.int .u32 0);have s4:=aF s3 3 (.bool false);have K6:Kp w5 ((((w5.setCell ⟨w.heap.size,0,none⟩ (.int .i64 0)).setCell ⟨w.heap.size,1,none⟩ (.int .u32 0)).setCell ⟨w.heap.size,2,none⟩ (.int .u32 0)).setCell ⟨w.heap.size,3,none⟩ (.bool false)) (fun k=>k=w.heap.size):=cv (cv (cv (cv (Kp.refl w5 _) rfl) rfl) rfl) rfl;refine⟨⟨_,aA FU 0⟩,aC FU 0,⟨_,aA s1 1⟩,aC s1 1,⟨_,aA s2 2⟩,aC s2 2,⟨_,aA s3 3⟩,aC s3 3,_,aA s4 0,_,aA s4 1,_,aA s4 2,_,aA s4 3,⟨0,0,0,false⟩,at_+k1+k2+k3+k4,p,false,rfl,?_,?_,by simp,by simp,by simp,by omega,fun h=>(by cases h),fun e0 rest he Ew=>?_⟩
    · rw [← Kn,← Gz]
      exact ⟨D5.rd.kp K6 (fun e=>Ff.2 e.symm) (fun a ha=>(D5.rd.row.blk (w:=w5) |>fun _=>by
          by_cases hx:l=[]
          · exact .inl hx
          · obtain⟨b,e1,e2⟩:=h.rd.row.blk (by intro e;exact hx (by simpa[cz]using e));rw[ha]at e1;cases e1;exact .inr (by omega))),by rw[K6.block gr (Array.getElem?_eq_some_iff.1 D5.blk).1 (by omega)];exact D5.blk,h.ne,h.neA⟩
    · exact K5.step (r:=some w.heap.size) ⟨K6.os,K6.tape,K6.output,K6.size,fun k hk hr=>K6.block k hk (fun e=>hr (by rw[e]))⟩ (fun k hk=>by cases hk;exact .inl (Nat.le_refl _))
    · have:=cond e0 rest he Ew;rw[this.2.1,this.2.2.1,this.2.2.2.2.2.1,this.2.2.2.2.2.2.2.1]at OZ;simp at OZ
  · have Qx : oo=true:=by simpa using ht
    subst Qx;have L1:o1=true/\o3=true/\o4=true/\o2=true:=by
      cases o1 <;>cases o3 <;>cases o4 <;>cases o2 <;>simp_all
    have n1:=N1.ok L1.1;have n3:=N3.ok L1.2.1;have n4:=N4.ok L1.2.2.1;rw[lenb]at n1 n3 n4;have Fy:k2=1/\sv=fq (ef l (at_+k1)):=by
      rcases Iy with⟨s1,s2,s3,s4⟩ | ⟨s1,_⟩
      · exact⟨s2,s4⟩
      · rw[L1.2.2.2]at s1;cases s1
    -- the event's block
    obtain⟨T,Lv⟩:∃ T,T=q.t+(tv-1):=⟨_,rfl⟩;have s0:(w5.alloc (.cells #[.int .i64 0,.int .u32 0,.int .u32 0,.bool false] 62)).heap[w5.heap.size]?=some (.cells #[.int .i64 0,.int .u32 0,.int .u32 0,.bool false] 62 (0,0)):=heap_alloc_new w5 _;have s1:=aF s0 0 (.int .i64 T);have s2:=aF s1 1 (.int .u32 0);have s3:=aF s2 2 (.int .u32 0);have s4:=aF s3 3 (.bool (decide (sv=1)));have gA:w5.grownBy ((((((w5.alloc (.cells #[.int .i64 0,.int .u32 0,.int .u32 0,.bool false] 62)).setCell ⟨w5.heap.size,0,none⟩ (.int .i64 T)).setCell ⟨w5.heap.size,1,none⟩ (.int .u32 0)).setCell ⟨w5.heap.size,2,none⟩ (.int .u32 0)).setCell ⟨w5.heap.size,3,none⟩ (.bool (decide (sv=1))))) none :=
      (cv (cv (cv (cv (Kp.of_none (S:=fun k=>w5.heap.size<=k) (pR (aD w5 none) _)) (Nat.le_refl _)) (Nat.le_refl _)) (Nat.le_refl _)) (Nat.le_refl _)).grown (fun k hk e=>by omega)
    have bA:((((((w5.alloc (.cells #[.int .i64 0,.int .u32 0,.int .u32 0,.bool false] 62)).setCell ⟨w5.heap.size,0,none⟩ (.int .i64 T)).setCell ⟨w5.heap.size,1,none⟩ (.int .u32 0)).setCell ⟨w5.heap.size,2,none⟩ (.int .u32 0)).setCell ⟨w5.heap.size,3,none⟩ (.bool (decide (sv=1))))).heap[w5.heap.size]?=some (.cells #[.int .i64 T,.int .u32 0,.int .u32 0,.bool (decide (sv=1))] 62 (0,0)):=by simpa using s4
    refine⟨_,rfl,_,by rw[aN];exact aA D5.blk 1,by omega,by omega,by omega,?_⟩;rw[← Lv];refine⟨⟨_,aA s0 0⟩,aC s0 0,⟨_,aA s1 1⟩,aC s1 1,⟨_,aA s2 2⟩,aC s2 2,⟨_,aA s3 3⟩,aC s3 3,by omega,?_⟩;obtain⟨w6,Qo⟩:∃ w6,w6=(((((w5.alloc (.cells #[.int .i64 0,.int .u32 0,.int .u32 0,.bool false] 62)).setCell ⟨w5.heap.size,0,none⟩ (.int .i64 T)).setCell ⟨w5.heap.size,1,none⟩ (.int .u32 0)).setCell ⟨w5.heap.size,2,none⟩ (.int .u32 0)).setCell ⟨w5.heap.size,3,none⟩ (.bool (decide (sv=1)))):=⟨_,rfl⟩;rw[← Qo]at gA bA ⊢;have D6:=D5.kept gA;have LI:=aE FU gA;have K6:Kp w w6 (fun k=>k=g∨k=gr):=K5.then (Kp.of_none gA) (fun k _ h=>h)
    -- the vertices
    obtain⟨U,hU⟩:∃ U:Int,U=if any=true/\tv=1 then uv-1+q.u else uv-1:=⟨_,rfl⟩;obtain⟨Bs,He⟩:∃ Bs:Int,Bs=if(any=true/\tv=1)/\U=q.u then q.v-U else 0:=⟨_,rfl⟩;have TC:0<=U/\U<=8589934592:=by rw[hU];split <;>omega
    have TJ:0<=Bs/\Bs<=4294967295:=by
      rw[He];split
      · rename_i hc;have:=hq.2.2.2.2 hc.1.1;omega
      · omega
    refine⟨fun u b W=>u=U/\b=Bs/\W=w6,⟨fun b W=>b=(any && decide (tv=1))/\W=w6,⟨_,rfl,_,by rw[aN];exact aA D6.blk 5,fun ha=>⟨by rw[ha];rfl,rfl⟩,fun ha=>⟨by rw[ha];rfl,rfl⟩⟩,?_⟩,?_⟩
    · rintro b W ⟨En,rfl⟩;refine⟨fun Hr=>?_,fun Gc=>⟨?_,?_,rfl⟩⟩
      · rw[Hr]at En;have E6:=En.symm;simp only[Bool.and_eq_true,decide_eq_true_eq]at E6;rw[if_pos E6]at hU;refine⟨_,rfl,_,by rw[eL,aN];exact aA D6.blk 2,by omega,by omega,fun bb W'=>bb=Bs/\W'=W,⟨_,rfl,_,by rw[eL,aN];exact aA D6.blk 2,by omega,fun hs=>?_,fun hs=>⟨?_,rfl⟩⟩,?_⟩
        · rw[if_pos ⟨E6,by omega⟩]at He;have:=hq.2.2.2.2 E6.1;refine⟨_,rfl,_,by rw[eL,eL,aN];exact aA D6.blk 3,by omega,by omega,by omega,rfl⟩
        · rw[if_neg (by rintro⟨_,h2⟩;omega)]at He;exact He.symm
        · rintro bb W' ⟨rfl,rfl⟩;exact⟨by omega,rfl,rfl⟩
      · have:¬ (any=true/\tv=1):=by rintro⟨a1,a2⟩;rw[a1,Gc]at En;simp[a2]at En
        rw[if_neg this]at hU;omega
      · have:¬ (any=true/\tv=1):=by rintro⟨a1,a2⟩;rw[a1,Gc]at En;simp[a2]at En
        rw[if_neg (fun hc=>this hc.1)]at He;exact He.symm
    · rintro u bs W ⟨rfl,rfl,rfl⟩;obtain⟨V,hV⟩:∃ V,V=vv+(u+bs):=⟨_,rfl⟩;refine⟨by omega,by omega,?_⟩;rw[← hV];obtain⟨o7,JE⟩:∃ o7:Bool,o7=(decide (T<=4611686018427387903) && (decide (u<=4294967295) && decide (V<=4294967295))):=⟨_,rfl⟩;refine⟨fun W'=>pt W' g gr A n c l (at_+k1+k2+k3+k4) q any o7/\Kp w W' (fun k=>k=g∨k=gr)/\W'.heap[w.heap.size]?=some (.cells #[.int .i64 0,.int .u32 0,.int .u32 0,.bool false] 62 (0,0))/\W'.heap[w5.heap.size]?=some (.cells #[.int .i64 T,.int .u32 0,.int .u32 0,.bool (decide (sv=1))] 62 (0,0)),?_,?_⟩
      · have l5:w.heap.size<w5.heap.size:=(Array.getElem?_eq_some_iff.1 FU).1;have st:∀ b:Bool,b=o7->pt (W.setCell ((⟨gr,0,none⟩:Addr).add 6) (.bool b)) g gr A n c l (at_+k1+k2+k3+k4) q any o7/\Kp w (W.setCell ((⟨gr,0,none⟩:Addr).add 6) (.bool b)) (fun k=>k=g∨k=gr)/\(W.setCell ((⟨gr,0,none⟩:Addr).add 6) (.bool b)).heap[w.heap.size]?=some (.cells #[.int .i64 0,.int .u32 0,.int .u32 0,.bool false] 62 (0,0))/\(W.setCell ((⟨gr,0,none⟩:Addr).add 6) (.bool b)).heap[w5.heap.size]?=some (.cells #[.int .i64 T,.int .u32 0,.int .u32 0,.bool (decide (sv=1))] 62 (0,0)):=by
          rintro b rfl;obtain⟨m1,m2⟩:=D6.mark b;refine⟨m1,K6.then m2 (fun k _ h=>.inr h),keepR LI (m2.mono (fun k _ h=>.inr h)),?_⟩;rw[m2.block _ (Array.getElem?_eq_some_iff.1 bA).1 (by omega)];exact bA
        refine⟨_,aA bA 0,fun c1=>⟨fun c2=>⟨_,rfl,⟨_,D6.flag.1⟩,D6.flag.2,st _ ?_⟩,fun c2=>⟨_,rfl,⟨_,D6.flag.1⟩,D6.flag.2,st _ ?_⟩⟩,fun c1=>⟨_,rfl,⟨_,D6.flag.1⟩,D6.flag.2,st _ ?_⟩⟩
        · rw[JE];simp[c1,c2]
        · rw[JE];simp;omega
        · rw[JE];simp;omega
      · rintro w7 ⟨D7,K7,PR,bE7⟩;have l5:w.heap.size<w5.heap.size:=(Array.getElem?_eq_some_iff.1 FU).1;have Qk:=AV u;have Qj:=AV V;obtain⟨Eu,Mn⟩:∃ Eu,Eu=IntKind.u32.wrap u:=⟨_,rfl⟩;obtain⟨Ev,Mm⟩:∃ Ev,Ev=IntKind.u32.wrap V:=⟨_,rfl⟩;rw[← Mn,← Mm];have r1:=aF bE7 1 (.int .u32 Eu);have r2:=aF r1 2 (.int .u32 Ev);have K8:Kp w7 ((w7.setCell ⟨w5.heap.size,1,none⟩ (.int .u32 Eu)).setCell ⟨w5.heap.size,2,none⟩ (.int .u32 Ev)) (fun k=>k=w5.heap.size):=cv (cv (Kp.refl w7 _) rfl) rfl;have bE8:((w7.setCell ⟨w5.heap.size,1,none⟩ (.int .u32 Eu)).setCell ⟨w5.heap.size,2,none⟩ (.int .u32 Ev)).heap[w5.heap.size]?=some (.cells #[.int .i64 T,.int .u32 Eu,.int .u32 Ev,.bool (decide (sv=1))] 62 (0,0)):=by simpa using r2
        refine⟨⟨_,aA bE7 1⟩,aC bE7 1,⟨_,aA r1 2⟩,aC r1 2,?_⟩;obtain⟨w8,Qm⟩:∃ w8,w8=(w7.setCell ⟨w5.heap.size,1,none⟩ (.int .u32 Eu)).setCell ⟨w5.heap.size,2,none⟩ (.int .u32 Ev):=⟨_,rfl⟩;rw[← Qm]at K8 bE8 ⊢;have bR8:w8.heap[gr]?=_:=(K8.block gr (Array.getElem?_eq_some_iff.1 D7.blk).1 (by have:=Nz;omega)).trans D7.blk;have PQ:w8.heap[w.heap.size]?=_:=(K8.block _ (Array.getElem?_eq_some_iff.1 PR).1 (by omega)).trans PR;have t1:=aF bR8 1 (.int .i64 T);have t2:=aF t1 2 (.int .u32 Eu);have t3:=aF t2 3 (.int .u32 Ev);have t4:=aF t3 4 (.bool (decide (sv=1)));have t5:=aF t4 5 (.bool true);have K9:Kp w8 (((((w8.setCell ⟨gr,1,none⟩ (.int .i64 T)).setCell ⟨gr,2,none⟩ (.int .u32 Eu)).setCell ⟨gr,3,none⟩ (.int .u32 Ev)).setCell ⟨gr,4,none⟩ (.bool (decide (sv=1)))).setCell ⟨gr,5,none⟩ (.bool true)) (fun k=>k=gr):=cv (cv (cv (cv (cv (Kp.refl w8 _) rfl) rfl) rfl) rfl) rfl;refine⟨_,aA bE8 0,_,aA bE8 1,_,aA bE8 2,_,aA bE8 3,_,rfl,?_⟩;simp only[od,Nat.zero_add,Nat.reduceAdd];refine⟨⟨_,aA bR8 1⟩,aC bR8 1,⟨_,aA t1 2⟩,aC t1 2,⟨_,aA t2 3⟩,aC t2 3,⟨_,aA t3 4⟩,aC t3 4,_,rfl,?_⟩;simp only[od,Nat.zero_add,Nat.reduceAdd];refine⟨⟨_,aA t4 5⟩,aC t4 5,?_⟩;obtain⟨w9,OJ⟩:∃ w9,w9=((((w8.setCell ⟨gr,1,none⟩ (.int .i64 T)).setCell ⟨gr,2,none⟩ (.int .u32 Eu)).setCell ⟨gr,3,none⟩ (.int .u32 Ev)).setCell ⟨gr,4,none⟩ (.bool (decide (sv=1)))).setCell ⟨gr,5,none⟩ (.bool true):=⟨_,rfl⟩;have bR9:w9.heap[gr]?=some (.cells #[.pointer (some ⟨g,0,none⟩),.int .i64 T,.int .u32 Eu,.int .u32 Ev,.bool (decide (sv=1)),.bool true,.bool o7] 192 (0,0)):=by rw[OJ];simpa using t5
        rw[← OJ]at K9 ⊢;have bE9:w9.heap[w5.heap.size]?=_:=(K9.block _ (Array.getElem?_eq_some_iff.1 bE8).1 (by omega)).trans bE8;have Om:w9.heap[w.heap.size]?=_:=(K9.block _ (Array.getElem?_eq_some_iff.1 PQ).1 (by omega)).trans PQ;have v1:=aF Om 0 (.int .i64 T);have v2:=aF v1 1 (.int .u32 Eu);have v3:=aF v2 2 (.int .u32 Ev);have v4:=aF v3 3 (.bool (decide (sv=1)));have K10:Kp w9 ((((w9.setCell ⟨w.heap.size,0,none⟩ (.int .i64 T)).setCell ⟨w.heap.size,1,none⟩ (.int .u32 Eu)).setCell ⟨w.heap.size,2,none⟩ (.int .u32 Ev)).setCell ⟨w.heap.size,3,none⟩ (.bool (decide (sv=1)))) (fun k=>k=w.heap.size):=cv (cv (cv (cv (Kp.refl w9 _) rfl) rfl) rfl) rfl;have Kall:Kp w ((((w9.setCell ⟨w.heap.size,0,none⟩ (.int .i64 T)).setCell ⟨w.heap.size,1,none⟩ (.int .u32 Eu)).setCell ⟨w.heap.size,2,none⟩ (.int .u32 Ev)).setCell ⟨w.heap.size,3,none⟩ (.bool (decide (sv=1)))) (fun k=>k=g∨k=gr):=by
          have a1:Kp w w9 (fun k=>k=g∨k=gr∨w.heap.size<=k):=((K7.mono (fun k _ h=>by rcases h with h | h;exact .inl h;exact .inr (.inl h))).then K8 (fun k _ h=>.inr (.inr (by omega)))).then K9 (fun k _ h=>.inr (.inl h));have a2:=a1.then K10 (fun k _ h=>.inr (.inr (by omega)));exact a2.mono (fun k hk h=>by omega)
        refine⟨_,aA bE9 0,_,aA bE9 1,_,aA bE9 2,_,aA bE9 3,⟨_,aA Om 0⟩,aC Om 0,⟨_,aA v1 1⟩,aC v1 1,⟨_,aA v2 2⟩,aC v2 2,⟨_,aA v3 3⟩,aC v3 3,_,aA v4 0,_,aA v4 1,_,aA v4 2,_,aA v4 3,⟨T,Eu,Ev,decide (sv=1)⟩,at_+k1+k2+k3+k4,some ⟨T,Eu,Ev,decide (sv=1)⟩,o7,rfl,⟨?_,?_,h.ne,h.neA⟩,Kall,by rw[Mn];exact Qk,by rw[Mm];exact Qj,by simp only;omega,by omega,fun ho=>?_,fun e0 rest he Ew=>?_⟩
        · have rowb:∀ a,A=some a->l=[]∨a.block<w.heap.size:=fun a ha=>by
            by_cases hx:l=[]
            · exact .inl hx
            · obtain⟨b,e1,e2⟩:=h.rd.row.blk (by intro e;exact hx (by simpa[cz]using e));rw[ha]at e1;cases e1;exact .inr e2
          exact((D7.rd.kp K8 (by omega) (fun a ha=>(rowb a ha).imp id (fun e=>by omega))).kp K9 (fun e=>h.ne e) (fun a ha=>h.neA a ha)).kp K10 (by omega) (fun a ha=>(rowb a ha).imp id (fun e=>by omega))
        · exact(K10.block gr (Array.getElem?_eq_some_iff.1 bR9).1 (by omega)).trans bR9
        · rw[ho]at JE;have FE:=JE.symm;simp only[Bool.and_eq_true,decide_eq_true_eq]at FE;have e1:Eu=u:=by rw[Mn];exact lW (by omega)
          have e2:Ev=V:=by rw[Mm];exact lW (by omega)
          refine⟨rfl,⟨⟨by simp only;omega,by simp only;omega⟩,by simp only;omega,by simp only;omega,by simp only;omega⟩,by omega⟩
        · obtain⟨c1,_,_,c4,c5,_,c7,_,c9⟩:=cond e0 rest he Ew;have hn:=he.nums Mg;obtain⟨h1,h2,h3⟩:=he;rw[Js]at c1;rw[Jt]at c5;rw[Jp]at c7;have HB:q.t<=e0.t/\(any=true->e0.t=q.t->q.u<e0.u∨q.u=e0.u/\q.v<e0.v):=by
            cases p with
            | none=>simp only at h3;rw[Gz,Kn];simp[cE];omega
            | some q' =>
              simp only[dT]at h3;rw[Gz,Kn];simp only[cE,Option.getD_some];exact⟨by omega,fun _ _=>by omega⟩
          have Sc:T=e0.t:=by omega
          have DY:(any=true/\tv=1)↔(any=true/\e0.t=q.t):=by
            constructor
            · rintro⟨a1,a2⟩;exact⟨a1,by omega⟩
            · rintro⟨a1,a2⟩;exact⟨a1,by omega⟩
          have Qu:u=e0.u:=by
            rw[hU];by_cases hc:any=true/\e0.t=q.t
            · rw[if_pos (DY.2 hc)];rw[if_pos hc]at c5;have:=HB.2 hc.1 hc.2;omega
            · rw[if_neg (fun h=>hc (DY.1 h))];rw[if_neg hc]at c5;omega
          have Qt:V=e0.v:=by
            rw[hV,He];by_cases hc:any=true/\e0.t=q.t
            · rw[if_pos hc]at c7;have:=HB.2 hc.1 hc.2;by_cases hd:e0.u=q.u
              · rw[if_pos ⟨DY.2 hc,by omega⟩];rw[if_pos hd]at c7;omega
              · rw[if_neg (fun h=>hd (by omega))];rw[if_neg hd]at c7;omega
            · rw[if_neg hc]at c7;rw[if_neg (fun h=>hc (DY.1 h.1))];omega
          have e1:Eu=e0.u:=by rw[Mn,Qu];exact lW (by omega)
          have e2:Ev=e0.v:=by rw[Mm,Qt];exact lW (by omega)
          refine⟨?_,?_,c9⟩
          · rw[JE];simp;omega
          · rw[Sc,e1,e2,c4];have:decide (fq e0.add=1)=e0.add:=by cases e0.add <;>rfl
            rw[this]
theorem pt.kp{w w':World}{S:Nat->Prop}{g gr:Nat}{A:OA}{n c:Nat}{l:List Int}{at_:Nat}{q:aU}{any ok:Bool}(h:pt w g gr A n c l at_ q any ok)(hk:Kp w w' S)(h1:¬ S g)(h2:¬ S gr)(h3:∀ a,A=some a->l=[]∨¬ S a.block):pt w' g gr A n c l at_ q any ok :=
 ⟨h.rd.kp hk h1 h3,(hk.block gr (Array.getElem?_eq_some_iff.1 h.blk).1 h2).trans h.blk,h.ne,h.neA⟩
def zF(x:List Int)(t0 count n:Int)(l:List aU):Prop:=dO t0 none l/\(l.length:Int)=count/\(∀ e∈l,e.v<n)/\x=ez t0 l
def C5(x:List Int)(t0 count n:Int)(ev:Ending)(w':World):Prop :=
 (∃(A':OA)(n' c':Nat)(l:List aU),ev=.returned (.tuple #[.slice A' n' c',.int .i64 0])/\bB w' A' (cw l)/\n'=l.length/\n'<=c'/\(A'=none->c'=0)/\zF x t0 count n l) ∨
 (ev=.returned (.tuple #[.slice none 0 0,.int .i64 21])/\∀ l,¬ zF x t0 count n l)
theorem dO.evtsB{t0:Int}:∀ {l:List aU} {p:Option aU},dO t0 p l->lT l
 | [],_,_=>by intro e he;simp at he
 | a ::l,p,h=>by
  intro e he;rcases List.mem_cons.1 he with rfl | he
  ·have h1:=h.1.1;have h2:=h.1.2.1;omega
  ·exact(dO.evtsB h.2) e he
theorem pW {w:World} {A:OA} {k c:Nat} {x:List Int} {t0 count n:Int} (hr:bB w A (cz x)) (hk:k=x.length) (hc:k<=c) (hb:aR x) (hl:x.length<2^16) (EU:count<=9223372036854775807) :
    Calls P 88 #[.slice A k c,.int .i64 t0,.int .i64 count,.int .u64 n] w fun ev w'=>w.grownBy w' none/\C5 x t0 count n ev w':=by
  apply vc88;dsimp only[VC88,rt,Wt,Br,Bb,Rd,Ap,Ws,cB,cT,nb,iq]
  try simp only[aG]
  have F7:∀ a,A=some a->x=[]∨a.block<w.heap.size:=fun a ha=>by
    by_cases hx:x=[]
    · exact .inl hx
    · obtain⟨b,e1,e2⟩:=hr.blk (by intro e;exact hx (by simpa[cz]using e));rw[ha]at e1;cases e1;exact .inr e2
  refine⟨fun b w'=>(b=true↔(0<count/\(t0<0∨t0>4611686018427387903))∨count<0)/\w'=w,⟨fun h=>⟨fun h1=>⟨by simp[h,h1],rfl⟩,fun h1=>⟨fun h2=>⟨by simp[h,h2],rfl⟩,fun h2=>⟨by simp;omega,rfl⟩⟩⟩,fun h=>⟨by simp;omega,rfl⟩⟩,?_⟩;rintro bad w1 ⟨FI,rfl⟩;refine⟨fun Hr=>⟨aD _ _,.inr ⟨rfl,fun l hl=>?_⟩⟩,fun Gc=>?_⟩
  · obtain⟨h1,h2,_⟩:=hl;rcases FI.1 Hr with⟨h3,h4⟩ | h3
    · cases l with
      | nil=>simp at h2;omega
      | cons e l=>have:=h1.1.1;have h5:=h1.1.2.2;simp only at h5;omega
    · omega
  have Gj:¬ ((0<count/\(t0<0∨t0>4611686018427387903))∨count<0):=fun h=>by rw[FI.2 h]at Gc;cases Gc
  apply vc123;dsimp only[VC123,nb,iq];have g1:=World.grownBy_alloc w1 (.cells #[.slice A k c,.int .i64 0] 240) none;have b1:(w1.alloc (.cells #[.slice A k c,.int .i64 0] 240)).heap[w1.heap.size]?=some (.cells #[.slice A k c,.int .i64 0] 240 (0,0)):=heap_alloc_new w1 _;refine⟨_,rfl,?_⟩;obtain⟨w2,FM⟩:∃ w2,w2=w1.alloc (.cells #[.slice A k c,.int .i64 0] 240):=⟨_,rfl⟩;rw[← FM]at g1 b1 ⊢;have g2:=World.grownBy_alloc w2 (.cells #[.pointer (some ⟨w1.heap.size,0,none⟩),.int .i64 t0,.int .u32 0,.int .u32 0,.bool false,.bool false,.bool true] 192) none;have b2:(w2.alloc (.cells #[.pointer (some ⟨w1.heap.size,0,none⟩),.int .i64 t0,.int .u32 0,.int .u32 0,.bool false,.bool false,.bool true] 192)).heap[w2.heap.size]?=some (.cells #[.pointer (some ⟨w1.heap.size,0,none⟩),.int .i64 t0,.int .u32 0,.int .u32 0,.bool false,.bool false,.bool true] 192 (0,0)):=heap_alloc_new w2 _;obtain⟨w3,Ep⟩:∃ w3,w3=w2.alloc (.cells #[.pointer (some ⟨w1.heap.size,0,none⟩),.int .i64 t0,.int .u32 0,.int .u32 0,.bool false,.bool false,.bool true] 192):=⟨_,rfl⟩;rw[← Ep]at g2 b2 ⊢;have l12:w1.heap.size<w2.heap.size:=(Array.getElem?_eq_some_iff.1 b1).1;have DP:=aB g1 g2;have D0:pt w3 w1.heap.size w2.heap.size A k c x 0 (cE t0 none) (none:Option aU).isSome true :=
    ⟨⟨aE b1 g2,hr.kept_none DP,hk,by omega,fun a ha=>(F7 a ha).imp id (fun e=>by omega)⟩,b2,by omega,fun a ha=>(F7 a ha).imp id (fun e=>by omega)⟩
  have tyE1:62≠240:=by decide
  have tyE2:62≠192:=by decide
  -- the row of events lies apart from the reader
  have apart:∀ {W:World} {at_:Nat} {q:aU} {any ok:Bool} {oA:OA} {on oc:Nat} {out:List aU},pt W w1.heap.size w2.heap.size A k c x at_ q any ok->aH W w1.heap.size 62 4 oA on oc (cw out)->∀ j,(Value.slice oA on oc).ownBlock=some j->w1.heap.size<=j/\j≠w1.heap.size/\j≠w2.heap.size:=by
    intro W at_ q any ok oA on oc out hD hO j hj;obtain⟨cur,Em⟩:=hO.block_type j hj;refine⟨hO.block_ge j hj,fun e=>?_,fun e=>?_⟩
    · rw[e,hD.rd.blk]at Em;cases Em
    · rw[e,hD.blk]at Em;cases Em
  refine⟨fun oA on oc w'=>∃(out:List aU)(ok:Bool)(at_:Nat)(p:Option aU),pt w' w1.heap.size w2.heap.size A k c x at_ (cE t0 p) p.isSome ok/\aH w' w1.heap.size 62 4 oA on oc (cw out)/\lT out/\out.length<=at_+1/\w1.grownBy w' none/\(ok=true->(out.length:Int)=count/\∀ e∈out,e.v<n)/\∀ l0,zF x t0 count n l0->ok=true/\out=l0,
    ⟨fun m Dw oA on oc w'=>∃(out:List aU)(ok:Bool)(at_:Nat)(p:Option aU),Dw.toNat=m/\0<=Dw/\Dw<=count/\pt w' w1.heap.size w2.heap.size A k c x at_ (cE t0 p) p.isSome ok/\aH w' w1.heap.size 62 4 oA on oc (cw out)/\lT out/\(ok=true->out.length<=at_)/\out.length<=at_+1/\w1.grownBy w' none/\(ok=true->(out.length:Int)+Dw=count/\(∀ e∈out,e.v<n)/\∀ q,p=some q->sG q) ∧
      ∀ l0,zF x t0 count n l0->ok=true/\∃(j:Nat)(pad:List Bool),j<=l0.length/\out=l0.take j/\p=f9 (l0.take j) none/\(aS x).drop at_=dN t0 p (l0.drop j)++pad/\Dw=(l0.length:Int)-j,
    ⟨_,[],true,0,none,rfl,by omega,by omega,D0,aH.nil _ _ _ _,fun e he=>by simp at he,by simp,by simp,DP,fun _=>⟨by simp,fun e he=>by simp at he,fun q hq=>by cases hq⟩,fun l0 EC=>⟨rfl,0,List.replicate (8*(((dN t0 none l0).length+7) / 8)-(dN t0 none l0).length) false,by omega,rfl,rfl,?_,by have:=EC.2.1;omega⟩⟩,?_⟩,?_⟩
  · rw[EC.2.2.2];unfold ez;rw[fF];rfl
  · rintro m Dw oA on oc w4 ⟨out,ok,at_,p,rfl,Er,Ja,hD,hO,GA,E7,Kx,hg,hok,Ea⟩;refine⟨fun DZ=>⟨_,rfl,ok,hD.flag.1,fun JD=>?_,fun L2=>⟨out,ok,at_,p,hD,hO,GA,Kx,hg,fun h=>(by rw[L2]at h;cases h),fun l0 EC=>(by have:=(Ea l0 EC).1;rw[L2]at this;cases this)⟩⟩,fun hz=>⟨out,ok,at_,p,hD,hO,GA,Kx,hg,fun h=>⟨by have:=(hok h).1;omega,(hok h).2.1⟩,fun l0 EC=>?_⟩⟩
    · subst JD;obtain⟨RN,Qr,MF⟩:=hok rfl;have E7:=E7 rfl;refine(vl hD (by omega) hb (by omega) MF).mono fun ev w5 hh=>?_;obtain⟨e,at',p',ok',rfl,D5,K5,RB,JK,RC,GM,IP,I8⟩:=hh;have Sm:=hO.kp K5 (fun j hj h=>by have:=apart hD hO j hj;omega);have Hq:w1.grownBy w5 none:=((Kp.of_none (S:=fun j=>w1.heap.size<=j) hg).then K5 (fun j _ h=>by omega)).grown (fun j hj h=>by omega);obtain⟨w6,hE,pE0,qE0,pE1,qE1,pE2,qE2,pE3,qE3,bE,gE⟩:=ud w5 62 (.int .i64 0) (.int .u32 0) (.int .u32 0) (.bool false) (.int .i64 e.t) (.int .u32 e.u) (.int .u32 e.v) (.bool e.add);refine⟨_,_,_,_,rfl,pE0,qE0,pE1,qE1,pE2,qE2,pE3,qE3,?_⟩;rw[← hE];have D6:=D5.kept gE;have Lz:=Sm.kept gE;have Fs:=aB Hq gE;have NR:at'<=8*x.length:=D5.rd.le;obtain⟨ok2,Fb⟩:∃ ok2:Bool,ok2=(ok' && decide (e.u<e.v/\e.v<n)):=⟨_,rfl⟩;have l5:w2.heap.size<w5.heap.size:=by have:=(Array.getElem?_eq_some_iff.1 D5.blk).1;exact this
      refine⟨fun W=>pt W w1.heap.size w2.heap.size A k c x at' (cE t0 p') p'.isSome ok2/\aH W w1.heap.size 62 4 oA on oc (cw out)/\w1.grownBy W none/\W.heap[w5.heap.size]?=some (.cells #[.int .i64 e.t,.int .u32 e.u,.int .u32 e.v,.bool e.add] 62 (0,0)),?_,?_⟩
      · have st:∀(W:World)(b:Bool),b=ok2->w6.grownBy W none->pt (W.setCell ((⟨w2.heap.size,0,none⟩:Addr).add 6) (.bool b)) w1.heap.size w2.heap.size A k c x at' (cE t0 p') p'.isSome ok2/\aH (W.setCell ((⟨w2.heap.size,0,none⟩:Addr).add 6) (.bool b)) w1.heap.size 62 4 oA on oc (cw out)/\w1.grownBy (W.setCell ((⟨w2.heap.size,0,none⟩:Addr).add 6) (.bool b)) none/\(W.setCell ((⟨w2.heap.size,0,none⟩:Addr).add 6) (.bool b)).heap[w5.heap.size]?=some (.cells #[.int .i64 e.t,.int .u32 e.u,.int .u32 e.v,.bool e.add] 62 (0,0)):=by
          intro W b Ek gW;obtain⟨m1,m2⟩:=(D6.kept gW).mark b;rw[Ek]at m1 m2 ⊢;refine⟨m1,(Lz.kept gW).kp m2 (fun j hj h=>by have:=apart D6 Lz j hj;omega),((Kp.of_none (S:=fun j=>w1.heap.size<=j) (aB Fs gW)).then m2 (fun j _ h=>by omega)).grown (fun j hj h=>by omega),?_⟩;rw[m2.block _ (Array.getElem?_eq_some_iff.1 (aE bE gW)).1 (by omega)];exact aE bE gW
        refine⟨_,rfl,ok',D6.flag.1,fun ho=>⟨_,aA bE 1,_,aA bE 2,(nU (e.u,e.v) JK).mono fun ev w7 hh=>?_⟩,fun ho=>⟨_,rfl,⟨_,D6.flag.1⟩,D6.flag.2,st w6 false (by rw[Fb,ho];rfl) (aD _ _)⟩⟩;obtain⟨rfl,g7⟩:=hh;have D7:=D6.kept g7;exact⟨_,rfl,_,rfl,⟨_,D7.flag.1⟩,D7.flag.2,st w7 _ (by rw[Fb,ho];rfl) g7⟩
      · rintro W ⟨DW,Sj,GL,bW⟩;have gA:=World.grownBy_alloc W (.cells #[.int .i64 e.t,.int .u32 e.u,.int .u32 e.v,.bool e.add] 62) none;have rE:bB (W.alloc (.cells #[.int .i64 e.t,.int .u32 e.u,.int .u32 e.v,.bool e.add] 62)) (some ⟨W.heap.size,0,none⟩) (cw [e]):=eP _ #[.int .i64 e.t,.int .u32 e.u,.int .u32 e.v,.bool e.add] 62 (0,0);have Kv:on=out.length:=by have:=hO.cases.1;rw[dg]at this;omega
        obtain⟨Y,yn,yc,w7,f1,f2,f3,f4⟩:=dU (m:=1) (d:=1) (ys:=[e]) (Sj.kept gA) rE rfl (by simp) (by omega) (Nat.le_trans GL.size gA.size);refine⟨_,aA bW 0,_,aA bW 1,_,aA bW 2,_,aA bW 3,_,_,_,w7,f1,by omega,_,?_,out++[e],ok2,at',p',rfl,by omega,by omega,?_,f2,?_,fun ho=>?_,?_,?_,fun ho=>?_,fun l0 EC=>?_⟩
        · omega
        · exact(DW.kept gA).kp (S:=fun j=>some j=(Value.slice oA on oc).ownBlock) ⟨f3.os,f3.tape,f3.output,f3.size,fun j hj hS=>f3.block j hj hS⟩ (fun h=>by have:=apart D6 Lz _ h.symm;omega) (fun h=>by have:=apart D6 Lz _ h.symm;omega) (fun a ha=>(F7 a ha).imp id (fun e h=>by have:=apart D6 Lz _ h.symm;omega))
        · intro a ha;rcases List.mem_append.1 ha with ha | ha
          · exact GA a ha
          · simp at ha;subst ha;exact⟨⟨RB,JK⟩,RC⟩
        · rw[ho]at Fb;have h2:=Fb.symm;simp only[Bool.and_eq_true,decide_eq_true_eq]at h2;have:=(IP h2.1).2.2;simp only[List.length_append,List.length_singleton];omega
        · simp only[List.length_append,List.length_singleton];omega
        · exact aP (aB GL gA) f3 (fun j hj=>hO.block_ge j hj)
        · rw[ho]at Fb;have h2:=Fb.symm;simp only[Bool.and_eq_true,decide_eq_true_eq]at h2;obtain⟨q1,q2,q3⟩:=IP h2.1;refine⟨by simp only[List.length_append,List.length_singleton];omega,fun a ha=>?_,fun q hq=>?_⟩
          · rcases List.mem_append.1 ha with ha | ha
            · exact Qr a ha
            · simp at ha;subst ha;exact h2.2.2
          · rw[q1]at hq;cases hq;exact q2
        · obtain⟨_,j,pad,hj,FX,hp,Ew,RQ⟩:=Ea l0 EC;have Ey:j<l0.length:=by omega
          have EI:=List.drop_eq_getElem_cons Ey;have PN:=EC.1;rw[← List.take_append_drop j l0,dO.append,← hp,EI]at PN;have Kz:=PN.2.1;rw[EI,dN,List.append_assoc]at Ew;obtain⟨c1,c2,c3⟩:=I8 l0[j] _ Kz Ew;obtain⟨q1,q2,q3⟩:=IP c1;have Qq:=EC.2.2.1 _ (List.getElem_mem Ey);have DF:=Kz.2.1;refine⟨by rw[Fb,c1,c2];simp;omega,j+1,pad,by omega,?_,?_,?_,by omega⟩
          · rw[List.take_succ_eq_append_getElem Ey,FX,c2]
          · rw[List.take_succ_eq_append_getElem Ey,kq,q1,c2]
          · rw[c3,q1,c2]
    · obtain⟨h1,j,pad,hj,FX,hp,Ew,RQ⟩:=Ea l0 EC;refine⟨h1,?_⟩;rw[FX,List.take_of_length_le (by omega)]
  · rintro oA on oc w4 ⟨out,ok,at_,p,hD,hO,GA,E7,hg,hok,Ea⟩;have NR:at_<=8*x.length:=hD.rd.le;have Kv:on=out.length:=by have:=hO.cases.1;rw[dg]at this;omega
    refine(si (t0:=t0) hO.row Kv (by omega) GA).mono fun ev w5 hh=>?_;obtain⟨B,m,d,rfl,oB,g5⟩:=hh;have D5:=hD.kept g5;have Hv:=aB hg g5;refine⟨_,_,_,_,rfl,_,rfl,ok,D5.flag.1,fun L2=>⟨Hv,.inr ⟨rfl,fun l hl=>?_⟩⟩,fun JD=>?_⟩
    · have:=(Ea l hl).1;rw[L2]at this;cases this
    · have JD:ok=true:=by simpa using JD
      by_cases ED:jY t0 none out=true
      · rw[if_pos ED]at *;have Sw:=(lN GA).1 ED;refine⟨fun h=>absurd rfl h,fun _=>(iB oB.row (dj oB) (hr.kept_none Hv) hk (dq t0 out) hb).mono fun ev w6 hh=>?_⟩;obtain⟨rfl,rfl⟩:=hh;refine⟨_,rfl,fun h=>⟨Hv,.inr ⟨rfl,fun l hl=>?_⟩⟩,fun h=>⟨Hv,.inl ⟨_,_,_,out,rfl,hO.row.kept_none g5,Kv,nK hO,fun h=>dw hO h,Sw,(hok JD).1,(hok JD).2,?_⟩⟩⟩
        · have:=of_decide_eq_false h;have e:=(Ea l hl).2;rw[e]at this;exact this hl.2.2.2.symm
        · have:decide (ez t0 out=x)=true:=by simpa using h
          exact(of_decide_eq_true this).symm
      · rw[if_neg ED]at *;refine⟨fun _=>⟨Hv,.inr ⟨rfl,fun l hl=>?_⟩⟩,fun h=>absurd (by omega) h⟩;have e:=(Ea l hl).2;rw[e]at ED;exact ED ((lN hl.1.evtsB).2 hl.1)
end Go.Proofs.YtlieaecnllkefaaGreat
