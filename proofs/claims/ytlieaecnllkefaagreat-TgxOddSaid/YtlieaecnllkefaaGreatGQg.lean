/- Own texts, packed: U1, U2, U3, U4, U5, U6, U7. -/
import Derived.Test.YtlieaecnllkefaaGreatGPg
import Derived.Test.YtlieaecnllkefaaGreatGOg
import Derived.Test.YtlieaecnllkefaaGreatGYg
import Derived.Test.YtlieaecnllkefaaGreatGZg
set_option linter.unusedVariables false
set_option linter.unusedSimpArgs false
set_option maxHeartbeats 4000000
set_option maxRecDepth 100000
namespace Go.Proofs.YtlieaecnllkefaaGreat
open Go Go.V Go.RowKit
theorem Ci{w:World}(x:Nat):aZ (w.alloc (.cells #[.int .u64 (x:Int)] 22)) (some ⟨w.heap.size,0,none⟩) (pN [x]):=fh w #[.int .u64 (x:Int)] 22 (0,0)
theorem Ch{w:World}(x y:Nat):aZ (w.alloc (.cells #[.int .u64 (x:Int),.int .u64 (y:Int)] 22)) (some ⟨w.heap.size,0,none⟩) (pN [x,y]):=fh w #[.int .u64 (x:Int),.int .u64 (y:Int)] 22 (0,0)
theorem ru{w:World}{x:Nat}(hx:x<2^64):
    Calls P 70 #[.slice (some ⟨w.heap.size,0,none⟩) 1 1] (w.alloc (.cells #[.int .u64 (x:Int)] 22)) fun ev w'=>∃(A':OA)(n' c':Nat),ev=.returned (.slice A' n' c')/\aE w' w.heap.size 5 1 A' n' c' (bY (cF x))/\w.grownBy w' none:=by
  have ga:=World.grownBy_alloc w (.cells #[.int .u64 (x:Int)] 22) none;refine(iW (l:=[x]) (Ci x) rfl (by simpa using hx) (by simp)).mono fun ev w' hh=>?_;obtain⟨A',n',c',rfl,h1,h2⟩:=hh;rw[i4]at h1;exact⟨_,_,_,rfl,h1.mono ga.size,aA ga h2⟩
theorem xT{w:World}{x y:Nat}(hx:x<2^64)(hy:y<2^64):
    Calls P 70 #[.slice (some ⟨w.heap.size,0,none⟩) 2 2] (w.alloc (.cells #[.int .u64 (x:Int),.int .u64 (y:Int)] 22)) fun ev w'=>∃(A':OA)(n' c':Nat),ev=.returned (.slice A' n' c')/\aE w' w.heap.size 5 1 A' n' c' (bY (bC [x,y]))/\w.grownBy w' none:=by
  have ga:=World.grownBy_alloc w (.cells #[.int .u64 (x:Int),.int .u64 (y:Int)] 22) none;refine(iW (l:=[x,y]) (Ch x y) rfl (by simp;exact⟨hx,hy⟩) (by simp)).mono fun ev w' hh=>?_;obtain⟨A',n',c',rfl,h1,h2⟩:=hh;exact⟨_,_,_,rfl,h1.mono ga.size,aA ga h2⟩
theorem mT{l:List Nat}(h:∀ x∈l,x<2^32){k:Nat}(hk:l.length<=k):(bC l).length<=10*k:=by
 have:=fN (l:=l) fun x hx=>by have:=h x hx;omega
 omega
theorem CN(j p z:Nat)(h:p<=j):(j-p)+(1+z)=(j+1-p)+z:=by omega
theorem vd {w :World} {A:OA} {n c:Nat} {l:List Edge} (hr:aZ w A (edges l)) (hn:n=l.length) (hl:n<=2^20) (hb:fJ l) :
    Calls P 66 #[.slice A n c] w fun ev w'=>∃(A':OA)(n' c':Nat),ev=.returned (.tuple #[.slice A' n' c',.int .i64 (if nC l=true then 0 else 23)])/\aE w' w.heap.size 5 1 A' n' c' (bY (if nC l=true then js l else []))/\w.grownBy w' none:=by
  apply vc66;dsimp only[VC66,rt,Br,Rd,Ix,Ap,cB,cS,nb,ad,al,iq]
  try simp only[aG]
  refine(vF hr hn (by omega)).mono fun ev w1 hh=>?_;obtain⟨rfl,g1⟩:=hh;refine⟨_,rfl,fun h=>?_,fun h=>?_⟩
  · have:nC l=false:=by unfold nC;rw[h];rfl
    rw[this];exact⟨_,_,_,rfl,aE.nil _ _ _ _,g1⟩
  have Jk:fi l=true:=by simpa using h
  have hR:=(gU l).1 Jk;have bad:∀ {p:Nat} (hp:p<l.length),¬ l[p].1<l[p].2->nC l=false:=by
    intro p hp FS;unfold nC;rw[Bool.and_eq_false_iff];right;rw[List.all_eq_false];exact⟨l[p],List.getElem_mem hp,by simpa using FS⟩
  have Tv:=zx (-1) 0 l;have Pk:=xO (-1) 0 l (by omega) (by omega) hb (by omega);have Vt:=BF (-1) l
  refine⟨fun m oA on oc many next i w'=>∃(p q:Nat)(u v:Int)(done:List Nat),i=(p:Int)/\p<=l.length/\m=l.length-p/\-1<=u/\0<=v/\next=u+1/\many=(q:Int)/\(∀ h:p<l.length,u<l[p].1)/\dL (-1) 0 l=done++dL u v (l.drop p)/\eR (-1) l=q+eR u (l.drop p) ∧
      aE w' w.heap.size 5 1 oA on oc (bY (bC done))/\w.grownBy w' none/\∀ j (hj:j<l.length),j<p->l[j].1<l[j].2,
    ⟨_,0,0,-1,0,[],rfl,by omega,rfl,by omega,by omega,by omega,rfl,fun h=>by have:=hb _ (List.getElem_mem h);omega,rfl,by simp,aE.nil _ _ _ _,g1,fun j hj h=>by omega⟩,?_⟩
  rintro m oA on oc many next i w2 ⟨p,q,u,v,done,rfl,hp,rfl,hu,hv,rfl,rfl,Qg,hG,hq,oO,hg,hok⟩
  have tp:(p:Int).toNat=p:=by omega
  rw[tp];have LA:done.length<=3*l.length:=by have:=congrArg List.length hG;rw[List.length_append]at this;omega
  have Rh:∀ x∈done,x<2^32:=fun x hx=>Pk x (by rw[hG];exact List.mem_append_left _ hx);have N0:on=(bC done).length:=cX oO;have UP:=mT Rh LA;refine⟨fun FP=>?_,fun FU=>?_⟩
  · have lp : p<l.length:=by omega
    obtain⟨a,e1,e2,e3⟩:=eT (hr.kept_none hg) lp;have VQ:=hb _ (List.getElem_mem lp);have Qf:=Qg lp;obtain⟨U,hU⟩:∃ U,U=l[p].1:=⟨_,rfl⟩;rw[← hU]at e2 Qf;have XL:0<=U/\U<=4294967295:=by rw[hU];exact VQ.1
    have J1:dL u v (l.drop p)=(U-u-1).toNat ::iz U (l.drop p) ::dL U U (l.drop p):=by
      rw[List.drop_eq_getElem_cons lp,rj u v _ _ (by rw[← hU];omega),← hU]
    have SQ:eR u (l.drop p)=1+eR U (l.drop p):=by
      rw[List.drop_eq_getElem_cons lp,eR,eR,← hU,if_neg (by omega),if_pos rfl]
    refine⟨a,e1,by omega,by omega,U,e2,by omega,fun m2 i1 rA rn rc last w'=>∃(j:Nat)(rd:List Nat),i1=(j:Int)/\p<=j/\j<=l.length/\m2=l.length-j/\(∀ t (ht:t<l.length),p<=t->t<j->l[t].1=U/\l[t].1<l[t].2)/\(j=p->last=U)/\(∀ h:p<j/\j<=l.length,last=l[j-1].2)/\U<=last ∧
        iz U (l.drop p)=(j-p)+iz U (l.drop j)/\dL U U (l.drop p)=rd++dL U last (l.drop j)/\eR U (l.drop p)=eR U (l.drop j) ∧
        aE w' w2.heap.size 5 1 rA rn rc (bY (bC rd))/\aE w' w.heap.size 5 1 oA on oc (bY (bC done))/\w2.grownBy w' none,
      ⟨_,p,[],rfl,Nat.le_refl _,by omega,rfl,fun t ht h1 h2=>by omega,fun _=>rfl,fun h=>by omega,Int.le_refl _,by omega,rfl,rfl,aE.nil _ _ _ _,oO,aC _ _⟩,?_⟩
    rintro m2 i1 rA rn rc last w3 ⟨j,rd,rfl,UI,hj,rfl,Gm,G0,Vb,XJ,GL,PZ,OH,oR,oO3,Gh⟩;have tj:(j:Int).toNat=j:=by omega
    rw[tj];have J2:=aA hg Gh;have Hs:rd.length<=3*l.length:=by
      have:=congrArg List.length hG;rw[J1,PZ]at this;simp only[List.length_append,List.length_cons]at this;omega
    have Qv:∀ x∈rd,x<2^32:=fun x hx=>Pk x (by rw[hG,J1,PZ];simp[hx]);have Sq:=mT Qv Hs;have NN:rn=(bC rd).length:=cX oR;have apart:∀ k,(Value.slice oA on oc).ownBlock=some k->k<w2.heap.size:=fun k hk=>oO.block_lt k hk
    -- a vertex's numbers end
    have ends : j ≠ p->iz U (l.drop j)=0->(∀ h:j<l.length,U<l[j].1) →
        ((0<=U/\U<=18446744073709551615)/\((0<=U-(u+1)/\U-(u+1)<=18446744073709551615)/\((-9223372036854775808<=(j:Int)-p/\(j:Int)-p<=9223372036854775807)/\((0<=(j:Int)-p/\(j:Int)-p<=18446744073709551615) ∧
        Calls P 70 #[.slice (some ⟨w3.heap.size,0,none⟩) 2 2] (w3.alloc (.cells #[.int .u64 (U-(u+1)),.int .u64 ((j:Int)-p)] 22)) fun ev__2 wv_6=>∃(x71A:OA)(x71n x71c:Nat),ev__2=.returned (.slice x71A x71n x71c)/\∃(x72A:OA)(x72n x72c:Nat),∃ wv_7:World,Sem.run P (Builtin.append_ #[26,26] 26 #[.slice oA on oc,.slice x71A x71n x71c]) wv_6=.ok (.slice x72A x72n x72c) wv_7 ∧
          ∃(x74A:OA)(x74n x74c:Nat),∃ wv_8:World,Sem.run P (Builtin.append_ #[26,26] 26 #[.slice x72A x72n x72c,.slice rA rn rc]) wv_7=.ok (.slice x74A x74n x74c) wv_8/\((0<=(q:Int)+1/\(q:Int)+1<=18446744073709551615)/\((0<=U/\U<=18446744073709551615)/\((0<=U+1/\U+1<=18446744073709551615)/\∃ m_1:Nat,m_1<l.length-p ∧
          ∃ (p' q':Nat) (u' v':Int) (done':List Nat),(j:Int)=(p':Int)/\p'<=l.length/\m_1=l.length-p'/\-1<=u'/\0<=v'/\U+1=u'+1/\(q:Int)+1=(q':Int)/\(∀ h:p'<l.length,u'<l[p'].1)/\dL (-1) 0 l=done'++dL u' v' (l.drop p')/\eR (-1) l=q'+eR u' (l.drop p') ∧
            aE wv_8 w.heap.size 5 1 x74A x74n x74c (bY (bC done'))/\w.grownBy wv_8 none/\∀ t (ht:t<l.length),t<p'->l[t].1<l[t].2))))))):=by
      intro FS Qy JU;refine⟨by omega,by omega,by omega,by omega,?_⟩;have k1:U-(u+1)=(((U-u-1).toNat:Nat):Int):=by omega
      have k2:(j:Int)-p=((j-p:Nat):Int):=by omega
      rw[k1,k2];refine(xT (by omega) (by omega)).mono fun ev w4 hh=>?_;obtain⟨X,xn,xc,rfl,oX,g4⟩:=hh;have Pw:xn=(bC [(U-u-1).toNat,j-p]).length:=cX oX;have T6:=mT (l:=[(U-u-1).toNat,j-p]) (by intro x hx;simp at hx;omega) (k:=2) (by simp);obtain⟨Y,yn,yc,w5,f1,f2,f3,f4⟩:=aO (oO3.kept g4) oX.row Pw (fun h=>cY oX h) (by omega) (Nat.le_trans J2.size g4.size);have oR5 : aE w5 w2.heap.size 5 1 rA rn rc (bY (bC rd)):=(oR.kept g4).apart f3 (by
        cases hk:(Value.slice rA rn rc).ownBlock with
        | none=>exact .inl rfl
        | some k => refine .inr fun h=>?_
                    have:=oR.block_ge k hk;have:=apart k h.symm;omega)
      obtain⟨Z,zn,zc,w6,f5,f6,f7,f8⟩:=aO f2 oR5.row NN (fun h=>cY oR5 h) (by omega) (Nat.le_trans (Nat.le_trans J2.size g4.size) f3.size);have gY:w.grownBy w5 none:=aN (aA J2 g4) f3 (fun k hk=>oO3.block_ge k hk);refine⟨_,_,_,rfl,_,_,_,w5,f1,_,_,_,w6,f5,by omega,by omega,by omega,l.length-j,by omega,j,q+1,U,last,done++([(U-u-1).toNat,j-p]++rd),rfl,hj,rfl,by omega,by omega,rfl,by omega,JU,?_,by omega,?_,aN gY f7 (fun k hk=>f2.block_ge k hk),?_⟩
      · rw[hG,J1,PZ,GL,Qy];simp
      · rw[iD,iD,← List.append_assoc];exact f6
      · intro t ht Qj;by_cases h:t<p
        · exact hok t ht h
        · exact(Gm t ht (by omega) Qj).2
    refine⟨fun Vd=>?_,fun Vd=>?_⟩
    · have lj :j<l.length:=by omega
      obtain⟨b,q1,q2,q3⟩:=eT (hr.kept_none J2) lj;have PT:=hb _ (List.getElem_mem lj);refine⟨b,q1,by omega,by omega,_,q2,fun NK=>?_,fun SZ=>?_⟩
      · refine⟨b,q1,by omega,by omega,_,q3,by omega,fun Ga=>?_,fun GV=>?_⟩
        · have:nC l=false:=by
            by_cases M8:j=p
            · subst M8;exact bad lj (by rw[NK];have:=G0 rfl;omega)
            · exfalso;have h1:=Vb ⟨by omega,hj⟩;have h2:=Gm (j-1) (by omega) (by omega) (by omega);have h3:=List.pairwise_iff_getElem.1 hR (j-1) j (by omega) lj (by omega);rw[dI]at h3;omega
          rw[this];exact⟨_,_,_,rfl,aE.nil _ _ _ _,J2⟩
        · refine⟨by omega,by omega,?_⟩;have k1:l[j].2-last-1=(((l[j].2-last-1).toNat:Nat):Int):=by omega
          rw[k1];refine(ru (by omega)).mono fun ev w4 hh=>?_;obtain⟨X,xn,xc,rfl,oX,g4⟩:=hh;have Pw:xn=(cF (l[j].2-last-1).toNat).length:=cX oX;have Ie:=cR (v:=(l[j].2-last-1).toNat) (by omega);obtain⟨Y,yn,yc,w5,f1,f2,f3,f4⟩:=aO (oR.kept g4) oX.row Pw (fun h=>cY oX h) (by omega) (Nat.le_trans Gh.size g4.size);have Ri:l.drop j=l[j] ::l.drop (j+1):=List.drop_eq_getElem_cons lj;refine⟨_,_,_,rfl,_,_,_,w5,f1,by omega,l.length-(j+1),by omega,j+1,rd++[(l[j].2-last-1).toNat],by omega,by omega,by omega,rfl,?_,fun h=>by omega,fun h=>by simp,?_,?_,?_,?_,?_,?_,?_⟩
          · intro t ht h1 h2;by_cases h:t=j
            · subst h;exact⟨NK,by omega⟩
            · exact Gm t ht h1 (by omega)
          · omega
          · rw[GL,Ri,fm,if_pos NK];exact CN j p _ UI
          · rw[PZ,Ri,lE _ _ _ _ NK,List.append_assoc];rfl
          · rw[OH,Ri,eR,if_pos NK]
          · rw[iD,i4];exact f2
          · refine(oO3.kept g4).apart f3 ?_;cases hk:(Value.slice oA on oc).ownBlock with
            | none=>exact .inl rfl
            | some k => refine .inr fun h=>?_
                        have:=oR.block_ge k h.symm;have:=apart k hk;omega
          · exact aN (aA Gh g4) f3 (fun k hk=>oR.block_ge k hk)
      · have M8:j≠p:=fun h=>by subst h;exact SZ hU.symm
        refine ends M8 (vU fun e he=>?_) (fun _=>?_)
        · rw[List.drop_eq_getElem_cons lj]at he;have VH:l[j]=e:=Option.some.inj he;rw[← VH];exact SZ
        · have h2:=Gm (j-1) (by omega) (by omega) (by omega);have h3:=List.pairwise_iff_getElem.1 hR (j-1) j (by omega) lj (by omega);rw[dI]at h3;omega
    · have QZ:j=l.length:=by omega
      refine ends (by omega) ?_ (fun h=>by omega);rw[QZ,List.drop_length];rfl
  · have HO:p=l.length:=by omega
    subst HO;rw[List.drop_length]at hG hq;have FZ:nC l=true:=by
      unfold nC;rw[Jk,Bool.true_and,List.all_eq_true];intro e he;obtain⟨t,ht,rfl⟩:=List.mem_iff_getElem.1 he;simpa using hok t ht ht
    rw[FZ];refine(ru (by omega)).mono fun ev w3 hh=>?_;obtain⟨X,xn,xc,rfl,oX,g3⟩:=hh;have Ie:=cR (v:=q) (by omega);have Pw:xn=(cF q).length:=cX oX;obtain⟨Y,yn,yc,w4,f1,f2,f3,f4⟩:=aO oX (oO.kept g3).row N0 (fun h=>cY oO h) (by omega) g3.size;refine⟨_,_,_,rfl,_,_,_,w4,f1,_,_,_,rfl,?_,aN (aA hg g3) f3 (fun k hk=>by have:=oX.block_ge k hk;have:=hg.size;omega)⟩;have:(if true=true then js l else [])=cF q++bC done:=by
      rw[if_pos rfl];unfold js vI;rw[dH,hG,hq];simp[dL,eR]
    rw[this];exact f2.mono hg.size
def fz(w:World)(g:Nat)(l:List Int)(ok:Bool):Prop:=∃(A:OA)(n c:Nat),w.heap[g]?=some (.cells #[.slice A n c,.bool ok] 186 (0,0))/\aZ w A (bY l)/\n=l.length/\n<=c/\∀ a,A=some a->l=[]∨a.block<g
theorem fz.kp{w w':World}{S:Nat->Prop}{g:Nat}{l:List Int}{ok:Bool}(h:fz w g l ok)(hk:Kp w w' S)(hS:∀ k,k<=g->¬ S k):fz w' g l ok:=by
 obtain⟨A,n,c,h1,h2,h3,h4,h5⟩:=h;exact⟨A,n,c,by rw[hk.block g (Array.getElem?_eq_some_iff.1 h1).1 (hS g (Nat.le_refl _))];exact h1,h2.kpE hk (fun a ha=>(h5 a ha).imp (fun e=>by rw[e];rfl) (fun e=>hS _ (by omega))),h3,h4,h5⟩
theorem fz.kept{w w':World}{g:Nat}{l:List Int}{ok:Bool}(h:fz w g l ok)(hg:w.grownBy w' none):fz w' g l ok:=h.kp (S:=fun _=>False) (Kp.of_none hg) (fun _ _ h=>h)
theorem fz.lt{w:World}{g:Nat}{l:List Int}{ok:Bool}(h:fz w g l ok):g<w.heap.size:=by
 obtain⟨A,n,c,h1,_⟩:=h;exact(Array.getElem?_eq_some_iff.1 h1).1
theorem fz.flag{w:World}{g:Nat}{l:List Int}{ok:Bool}(h:fz w g l ok):w.cell? ((⟨g,0,none⟩:Addr).add 1)=some (.bool ok)/\w.frozen? ((⟨g,0,none⟩:Addr).add 1)=false:=by
 obtain⟨A,n,c,h1,_⟩:=h;rw[aP];exact⟨aB h1 1,aD h1 1⟩
theorem fz.mark{w:World}{g:Nat}{l:List Int}{ok:Bool}(h:fz w g l ok)(b:Bool):fz (w.setCell ((⟨g,0,none⟩:Addr).add 1) (.bool b)) g l b/\Kp w (w.setCell ((⟨g,0,none⟩:Addr).add 1) (.bool b)) (fun k=>k=g):=by
 obtain⟨A,n,c,h1,h2,h3,h4,h5⟩:=h;rw[aP];have K:Kp w (w.setCell ⟨g,1,none⟩ (.bool b)) (fun k=>k=g):=cA (Kp.refl w _) rfl;exact⟨⟨A,n,c,by simpa using aH h1 1 (.bool b),h2.kpE K (fun a ha=>(h5 a ha).imp (fun e=>by rw[e];rfl) (fun e=>by omega)),h3,h4,h5⟩,K⟩
theorem mD{w:World}{g:Nat}{l:List Int}{ok:Bool}(h:fz w g l ok)(hb:aW l)(hl:l.length<=2^40):
    Calls P 164 #[.pointer (some ⟨g,0,none⟩)] w fun ev w'=>ev=.returned (.int .u64 (dt 4294967295 l).1)/\fz w' g (l.drop (dt 4294967295 l).2.1) (ok && decide ((dt 4294967295 l).2.2=0))/\Kp w w' (fun k=>k=g):=by
  obtain⟨A,n,c,h1,h2,h3,h4,h5⟩:=h;apply vc164;dsimp only[VC164,Wt,Bb,Rs,iq]
  try simp only[aG]
  refine⟨_,rfl,_,_,_,aB h1 0,?_⟩;refine(mK (most:=4294967295) h2 h3 hb (by omega)).mono fun ev w1 hh=>?_;obtain⟨rfl,g1⟩:=hh;have ht:=jV (most:=4294967295) (b:=l) (fun x hx=>(hb x hx).1);obtain⟨v,k,e,hv⟩:∃ v k e,dt 4294967295 l=(v,k,e):=⟨_,_,_,rfl⟩;rw[hv]at ht ⊢;simp only at ht ⊢;have HJ:=aI g1;have lt:g<w.heap.size:=(Array.getElem?_eq_some_iff.1 h1).1;have Ir:w1.drew.heap[g]?=some (.cells #[.slice A n c,.bool ok] 186 (0,0)):=by rw[HJ.block g lt (by simp)];exact h1
  have tk:(k:Int).toNat=k:=by omega
  have KH:k<=n:=by omega
  have GY:=aH Ir 0 (.slice (bK A c k 1) (n-k) (c-k));have fin:∀ q:Bool,fz ((w1.drew.setCell ⟨g,0,none⟩ (.slice (bK A c k 1) (n-k) (c-k))).setCell ⟨g,1,none⟩ (.bool q)) g (l.drop k) q/\Kp w ((w1.drew.setCell ⟨g,0,none⟩ (.slice (bK A c k 1) (n-k) (c-k))).setCell ⟨g,1,none⟩ (.bool q)) (fun k=>k=g):=by
    intro q;have K:Kp w ((w1.drew.setCell ⟨g,0,none⟩ (.slice (bK A c k 1) (n-k) (c-k))).setCell ⟨g,1,none⟩ (.bool q)) (fun k=>k=g):=cA (cA (Kp.of_none HJ) rfl) rfl;refine⟨⟨_,_,_,by simpa using aH GY 1 (.bool q),?_,by simp;omega,by omega,?_⟩,K⟩
    · exact qg (h2.kpE K (fun a ha=>(h5 a ha).imp (fun e=>by rw[e];rfl) (fun e=>by omega))) (by omega)
    · intro a ha;obtain⟨a',e1,e2⟩:=wB ha;exact(h5 a' e1).imp (fun e=>by rw[e];simp) (fun e=>by omega)
  refine⟨v,(k:Int),e,rfl,_,rfl,_,_,_,aB Ir 0,⟨by omega,by omega⟩,?_⟩;rw[tk];refine⟨_,rfl,ok,by rw[aP];exact aB Ir 1,fun h=>?_,fun h=>?_⟩
  · refine⟨_,rfl,⟨_,aB Ir 0⟩,aD Ir 0,_,rfl,⟨_,by rw[aP];exact aB GY 1⟩,by rw[aP];exact aD GY 1,rfl,?_⟩;rw[aP,h,Bool.true_and];exact fin _
  · refine⟨_,rfl,⟨_,aB Ir 0⟩,aD Ir 0,_,rfl,⟨_,by rw[aP];exact aB GY 1⟩,by rw[aP];exact aD GY 1,rfl,?_⟩;rw[aP,h,Bool.false_and];exact fin _
theorem wL{l:List Int}(hb:aW l):0<=(dt 4294967295 l).1/\(dt 4294967295 l).1<=4294967295/\(dt 4294967295 l).2.1<=l.length/\((dt 4294967295 l).2.2=0->0<(dt 4294967295 l).2.1):=by
 rcases jV (most:=4294967295) (b:=l) (fun x hx=>(hb x hx).1)with⟨h1,h2,h3,h4,h5⟩ | ⟨h1,h2,h3⟩
 ·exact⟨h4,h5,h3,fun _=>h2⟩
 ·rw[h2,h3];exact⟨by omega,by omega,by omega,fun h=>absurd h h1⟩
theorem lL{x:Nat}(hx:x<2^32)(r:List Int):dt 4294967295 (cF x++r)=((x:Int),(cF x).length,0):=fL (by omega) (by omega) r
theorem uW{l:List Int}{p x:Nat}{r:List Int}(h:l.drop p=cF x++r):l.drop (p+(cF x).length)=r:=by
 rw[← List.drop_drop,h,List.drop_left' rfl]
def qz(l:List Int)(n:Int)(l0:List Edge):Prop:=nG l0/\(∀ e∈l0,e.2<n)/\l=js l0
theorem xN {w:World} {g:Nat} {l:List Int} {n:Int} (h:fz w g l true) (hb:aW l) (hl:l.length<=2^16) :
    Calls P 122 #[.pointer (some ⟨g,0,none⟩),.int .u64 n] w fun ev w'=>∃(A':OA)(n' c':Nat)(out:List Edge)(ok:Bool)(p:Nat),ev=.returned (.slice A' n' c')/\aE w' w.heap.size 45 2 A' n' c' (edges out)/\fJ out/\out.length<=l.length/\(∀ e∈out,e.2<n) ∧
      fz w' g (l.drop p) ok/\Kp w w' (fun k=>k=g)/\∀ l0,qz l n l0->ok=true/\out=l0:=by
  apply vc122;dsimp only[VC122,Wt,Br,Bb,Ap,cI,nb]
  try simp only[aG]
  have Q7:=h.lt;have GA:∀ p,aW (l.drop p):=fun p y hy=>hb y (List.mem_of_mem_drop hy);refine(mD h hb (by omega)).mono fun ev w1 hh=>?_;obtain⟨rfl,h1,K1⟩:=hh;have t0:=wL hb;obtain⟨v0,p0,e0,Kz⟩:∃ v p e,dt 4294967295 l=(v,p,e):=⟨_,_,_,rfl⟩;rw[Kz]at h1 t0 ⊢;simp only[Bool.true_and]at h1 t0 ⊢
  refine⟨_,rfl,fun m oA on oc next many w'=>∃(q p:Nat)(ok:Bool)(out:List Edge),many=(q:Int)/\q=m/\q<=4294967295/\p<=l.length/\fz w' g (l.drop p) ok/\aE w' w.heap.size 45 2 oA on oc (edges out)/\fJ out/\out.length<=p/\(∀ e∈out,e.2<n)/\Kp w w' (fun k=>k=g) ∧
      (ok=true->0<=next/\next<=(p:Int)*8589934592) ∧
      ∀ l0,qz l n l0->∃(j:Nat)(u v:Int),ok=true/\j<=l0.length/\out=l0.take j/\next=u+1/\(∀ h:j<l0.length,u<l0[j].1)/\l.drop p=bC (dL u v (l0.drop j))/\many=(eR u (l0.drop j):Int),
    ⟨_,v0.toNat,p0,_,[],by omega,rfl,by omega,t0.2.2.1,h1,aE.nil _ _ _ _,fun e he=>by simp at he,by simp,fun e he=>by simp at he,K1,fun _=>by omega,?_⟩,?_⟩
  · intro l0 G0;obtain⟨hok,JW,rfl⟩:=G0;have FP:=tu hok.edgesB hok.len;have hq:=FP _ (List.mem_cons_self (a:=eR (-1) l0) (l:=dL (-1) 0 l0));have ht:=lL hq (bC (dL (-1) 0 l0));have he:js l0=cF (eR (-1) l0)++bC (dL (-1) 0 l0):=by unfold js vI;rw[dH]
    rw[he]at Kz ⊢;rw[ht]at Kz;simp only[Prod.mk.injEq]at Kz;obtain⟨rfl,rfl,rfl⟩:=Kz;refine⟨0,-1,0,rfl,by omega,rfl,by omega,fun h=>by have:=hok.right _ (List.getElem_mem h);omega,?_,rfl⟩;rw[List.drop_left' rfl];rfl
  rintro m oA on oc next many w2 ⟨q,p,ok,out,rfl,rfl,hq,hp,hA,oO,Jw,Hh,Pd,hK,QF,Gt⟩
  refine⟨fun FX=>⟨_,rfl,ok,hA.flag.1,fun hok=>?_,fun hok=>?_⟩,fun hz=>?_⟩
  · subst hok;have QF:=QF rfl;have Ow:(l.drop p).length<=2^16:=by rw[List.length_drop];omega
    refine(mD hA (GA p) (by omega)).mono fun ev w3 hh=>?_;obtain⟨rfl,h3,K3⟩:=hh;have t3:=wL (GA p);obtain⟨v3,p3,e3,NB⟩:∃ v p' e,dt 4294967295 (l.drop p)=(v,p',e):=⟨_,_,_,rfl⟩;rw[NB]at h3 t3 ⊢;simp only[Bool.true_and,List.drop_drop,List.length_drop]at h3 t3 ⊢;refine⟨_,rfl,by omega,by omega,(mD h3 (GA _) (by rw[List.length_drop];omega)).mono fun ev w4 hh=>?_⟩;obtain⟨rfl,h4,K4⟩:=hh;have t4:=wL (GA (p+p3));obtain⟨v4,p4,e4,NA⟩:∃ v p' e,dt 4294967295 (l.drop (p+p3))=(v,p',e):=⟨_,_,_,rfl⟩;rw[NA]at h4 t4 ⊢;simp only[List.drop_drop,List.length_drop]at h4 t4 ⊢;have Pj:Kp w w4 (fun k=>k=g):=(hK.then K3 (fun k _ h=>h)).then K4 (fun k _ h=>h);have oO4:aE w4 w.heap.size 45 2 oA on oc (edges out):=(oO.kp K3 (fun k hk e=>by have:=oO.block_ge k hk;omega)).kp K4 (fun k hk e=>by have:=oO.block_ge k hk;omega)
    refine⟨_,rfl,fun m2 oA on oc last k w'=>∃(kk p2:Nat)(ok2:Bool)(out2:List Edge),k=(kk:Int)/\kk=m2/\kk<=4294967295/\p<=p2/\p2<=l.length/\(ok2=true->p+1<=p2)/\fz w' g (l.drop p2) ok2/\aE w' w.heap.size 45 2 oA on oc (edges out2)/\fJ out2/\out2.length<=p2/\(∀ e∈out2,e.2<n)/\Kp w w' (fun k=>k=g) ∧
        (ok2=true->next+v3<=last/\last<=1125899906842624) ∧
        ∀ l0,qz l n l0->∃(j:Nat),ok2=true/\j<=l0.length/\out2=l0.take j/\(∀ h:j<l0.length,next+v3<=l0[j].1)/\l.drop p2=bC (dL (next+v3) last (l0.drop j))/\k=(iz (next+v3) (l0.drop j):Int)/\(q:Int)-1=(eR (next+v3) (l0.drop j):Int)/\(∀ h:j<l0.length,l0[j].1=next+v3->last<l0[j].2)/\0<=next+v3,
      ⟨_,v4.toNat,p+(p3+p4),_,out,by omega,rfl,by omega,by omega,by omega,fun h=>?_,by rw[Nat.add_assoc]at h4;exact h4,oO4,Jw,by omega,Pd,Pj,fun h=>⟨Int.le_refl _,by omega⟩,?_⟩,?_⟩
    · simp only[Bool.and_eq_true,decide_eq_true_eq]at h;have:=t3.2.2.2 h.1;omega
    · intro l0 G0;obtain⟨j,u,v,_,hj,IQ,Xe,Qg,hd,Lv⟩:=Gt l0 G0;have hok:=G0.1;have GO:j<l0.length:=by
        by_cases GO:j<l0.length
        · exact GO
        · rw[List.drop_eq_nil_of_le (by omega)]at Lv;simp[eR]at Lv;omega
      have hr:=hok.right _ (List.getElem_mem GO);have hu:=Qg GO;have Gp:=List.drop_eq_getElem_cons GO;have hG:=rj u v l0[j] (l0.drop (j+1)) (by omega);rw[← Gp]at hG;have Hs:=wP l0[j].1 (l0.drop j);have FT:=hok.len;rw[List.length_drop]at Hs;rw[hG,dH,dH]at hd;have Uo:=lL (x:=(l0[j].1-u-1).toNat) (by omega) (cF (iz l0[j].1 (l0.drop j))++bC (dL l0[j].1 l0[j].1 (l0.drop j)));rw[hd,Uo]at NB;simp only[Prod.mk.injEq]at NB;obtain⟨NB,LY,VF⟩:=NB;have JE:=uW hd;rw[LY]at JE;have PD:=lL (x:=iz l0[j].1 (l0.drop j)) (by omega) (bC (dL l0[j].1 l0[j].1 (l0.drop j)));rw[JE,PD]at NA;simp only[Prod.mk.injEq]at NA;obtain⟨NA,UM,VE⟩:=NA;have Ta:=uW JE;rw[UM]at Ta;have hU:next+v3=l0[j].1:=by omega
      have OI:eR u (l0.drop j)=1+eR l0[j].1 (l0.drop j):=by rw[Gp,eR,eR,if_neg (by omega),if_pos rfl]
      refine⟨j,by rw[← VF,← VE];rfl,hj,IQ,fun _=>by omega,?_,?_,?_,fun hh e=>?_,by omega⟩
      · rw[← Nat.add_assoc,Ta,hU]
      · rw[hU];omega
      · rw[hU];omega
      · omega
    rintro m2 oA on oc last k w5 ⟨kk,p2,ok2,out2,rfl,rfl,Xk,Lr,GF,Hc,Po,oO2,MJ,QE,My,RX,Ho,J7⟩
    have back:(kk=0∨ok2=false)->(0<=(q:Int)-1/\(q:Int)-1<=18446744073709551615)/\∃ m_1:Nat,m_1<q/\∃(q' p':Nat)(ok:Bool)(out:List Edge),(q:Int)-1=(q':Int)/\q'=m_1/\q'<=4294967295/\p'<=l.length/\fz w5 g (l.drop p') ok/\aE w5 w.heap.size 45 2 oA on oc (edges out)/\fJ out/\out.length<=p'/\(∀ e∈out,e.2<n)/\Kp w w5 (fun k=>k=g) ∧
        (ok=true->0<=next+v3+1/\next+v3+1<=(p':Int)*8589934592) ∧
        ∀ l0,qz l n l0->∃(j:Nat)(u v:Int),ok=true/\j<=l0.length/\out=l0.take j/\next+v3+1=u+1/\(∀ h:j<l0.length,u<l0[j].1)/\l.drop p'=bC (dL u v (l0.drop j))/\(q:Int)-1=(eR u (l0.drop j):Int):=by
      intro HV;refine⟨by omega,q-1,by omega,q-1,p2,ok2,out2,by omega,rfl,by omega,GF,Po,oO2,MJ,QE,My,RX,fun ho=>?_,fun l0 G0=>?_⟩
      · have:=Hc ho;omega
      · obtain⟨j,h1,h2,h3,h4,h5,h6,h7,h8,h9⟩:=J7 l0 G0;refine⟨j,next+v3,last,h1,h2,h3,by omega,fun GO=>?_,h5,h7⟩;have FU:=h4 GO;have Jq:kk=0:=by
          rcases HV with h | h
          · exact h
          · rw[h]at h1;cases h1
        subst Jq;rw[List.drop_eq_getElem_cons GO,fm]at h6;split at h6
        · omega
        · omega
    refine⟨fun Xj=>⟨_,rfl,ok2,Po.flag.1,fun HI=>?_,fun HI=>back (.inr HI)⟩,fun Jq=>back (.inl (by omega))⟩;subst HI;have Ho:=Ho rfl;refine(mD Po (GA p2) (by rw[List.length_drop];omega)).mono fun ev w6 hh=>?_;obtain⟨rfl,h6,K6⟩:=hh;have t6:=wL (GA p2);obtain⟨v6,p6,e6,PA⟩:∃ v p' e,dt 4294967295 (l.drop p2)=(v,p',e):=⟨_,_,_,rfl⟩;rw[PA]at h6 t6 ⊢;simp only[Bool.true_and,List.drop_drop,List.length_drop]at h6 t6 ⊢;have Ww:Kp w w6 (fun k=>k=g):=RX.then K6 (fun k _ h=>h);have oO6:aE w6 w.heap.size 45 2 oA on oc (edges out2):=oO2.kp K6 (fun k hk e=>by have:=oO2.block_ge k hk;omega);have Hc:=Hc rfl;obtain⟨ok3,Jo⟩:∃ ok3,ok3=decide (e6=0):=⟨_,rfl⟩;rw[← Jo]at h6
    have tail:∀ b:Bool,b=(ok3 && (decide (last+(v6+1)<n) && decide (last+(v6+1)<=4294967295))) →
        ∃ a64:Addr,(some (⟨g,0,none⟩:Addr))=some a64/\∃ x66:Bool,World.cell? (w6.setCell ((⟨g,0,none⟩:Addr).add 1) (.bool b)) (a64.add 1)=some (.bool x66)/\((x66=true->((0<=next+v3/\next+v3<=4294967295)/\((0<=last+(v6+1)/\last+(v6+1)<=4294967295)/\∃(x74A:OA)(x74n x74c:Nat),∃ wv_7:World,Sem.run P (Builtin.append_ #[40,40] 40 #[.slice oA on oc,.slice (some ⟨(w6.setCell ((⟨g,0,none⟩:Addr).add 1) (.bool b)).heap.size,0,none⟩) 1 1]) ((w6.setCell ((⟨g,0,none⟩:Addr).add 1) (.bool b)).alloc (.cells #[.int .u32 (next+v3),.int .u32 (last+(v6+1))] 45))=.ok (.slice x74A x74n x74c) wv_7/\((0<=(kk:Int)-1/\(kk:Int)-1<=18446744073709551615)/\∃ m_3:Nat,m_3<kk ∧
          ∃ (kk' p2:Nat) (ok2:Bool) (out2:List Edge),(kk:Int)-1=(kk':Int)/\kk'=m_3/\kk'<=4294967295/\p<=p2/\p2<=l.length/\(ok2=true->p+1<=p2)/\fz wv_7 g (l.drop p2) ok2/\aE wv_7 w.heap.size 45 2 x74A x74n x74c (edges out2)/\fJ out2/\out2.length<=p2/\(∀ e∈out2,e.2<n)/\Kp w wv_7 (fun k=>k=g) ∧
            (ok2=true->next+v3<=last+(v6+1)/\last+(v6+1)<=1125899906842624) ∧
            ∀ l0,qz l n l0->∃(j:Nat),ok2=true/\j<=l0.length/\out2=l0.take j/\(∀ h:j<l0.length,next+v3<=l0[j].1)/\l.drop p2=bC (dL (next+v3) (last+(v6+1)) (l0.drop j))/\(kk:Int)-1=(iz (next+v3) (l0.drop j):Int)/\(q:Int)-1=(eR (next+v3) (l0.drop j):Int)/\(∀ h:j<l0.length,l0[j].1=next+v3->last+(v6+1)<l0[j].2)/\0<=next+v3)))) ∧
         (x66=false->((0<=(kk:Int)-1/\(kk:Int)-1<=18446744073709551615)/\∃ m_3:Nat,m_3<kk ∧
          ∃ (kk' p2:Nat) (ok2:Bool) (out2:List Edge),(kk:Int)-1=(kk':Int)/\kk'=m_3/\kk'<=4294967295/\p<=p2/\p2<=l.length/\(ok2=true->p+1<=p2)/\fz (w6.setCell ((⟨g,0,none⟩:Addr).add 1) (.bool b)) g (l.drop p2) ok2/\aE (w6.setCell ((⟨g,0,none⟩:Addr).add 1) (.bool b)) w.heap.size 45 2 oA on oc (edges out2)/\fJ out2/\out2.length<=p2/\(∀ e∈out2,e.2<n)/\Kp w (w6.setCell ((⟨g,0,none⟩:Addr).add 1) (.bool b)) (fun k=>k=g) ∧
            (ok2=true->next+v3<=last+(v6+1)/\last+(v6+1)<=1125899906842624) ∧
            ∀ l0,qz l n l0->∃(j:Nat),ok2=true/\j<=l0.length/\out2=l0.take j/\(∀ h:j<l0.length,next+v3<=l0[j].1)/\l.drop p2=bC (dL (next+v3) (last+(v6+1)) (l0.drop j))/\(kk:Int)-1=(iz (next+v3) (l0.drop j):Int)/\(q:Int)-1=(eR (next+v3) (l0.drop j):Int)/\(∀ h:j<l0.length,l0[j].1=next+v3->last+(v6+1)<l0[j].2)/\0<=next+v3))):=by
      intro b Hv;obtain⟨hM,KM⟩:=h6.mark b;have RW:Kp w (w6.setCell ((⟨g,0,none⟩:Addr).add 1) (.bool b)) (fun k=>k=g):=Ww.then KM (fun k _ h=>h);have oOM:=oO6.kp KM (fun k hk e=>by have:=oO6.block_ge k hk;omega);have Hr:w.heap.size<=(w6.setCell ((⟨g,0,none⟩:Addr).add 1) (.bool b)).heap.size:=RW.size
      -- what comes of it, if the bytes are those of edges
      have cond:∀ l0,qz l n l0->b=true/\∃ j,∃ hj:j<l0.length,out2=l0.take j/\l0[j].1=next+v3/\l0[j].2=last+(v6+1)/\l.drop (p2+p6)=bC (dL (next+v3) (last+(v6+1)) (l0.drop (j+1)))/\(kk:Int)-1=(iz (next+v3) (l0.drop (j+1)):Int)/\(q:Int)-1=(eR (next+v3) (l0.drop (j+1)):Int)/\0<=next+v3:=by
        intro l0 G0;obtain⟨j,h1,h2,h3,h4,h5,Nj,h7,h8,h9⟩:=J7 l0 G0;have hok:=G0.1;have GO:j<l0.length:=by
          by_cases GO:j<l0.length
          · exact GO
          · rw[List.drop_eq_nil_of_le (by omega)]at Nj;simp[iz]at Nj;omega
        have Gp:=List.drop_eq_getElem_cons GO;have Gm:l0[j].1=next+v3:=by
          rw[Gp,fm]at Nj;split at Nj
          · assumption
          · simp at Nj;omega
        have hr:=hok.right _ (List.getElem_mem GO);have JW:=G0.2.1 _ (List.getElem_mem GO)
        -- the last neighbour is below
        have FP:last<l0[j].2:=h8 GO Gm;rw[Gp,lE _ _ _ _ Gm,dH]at h5;have Un:=lL (x:=(l0[j].2-last-1).toNat) (by omega) (bC (dL (next+v3) l0[j].2 (l0.drop (j+1))));rw[h5,Un]at PA;simp only[Prod.mk.injEq]at PA;obtain⟨hv,QD,VD⟩:=PA;have hd:=uW h5;rw[QD]at hd;have IY:l0[j].2=last+(v6+1):=by omega
        rw[Gp,fm,if_pos Gm]at Nj;rw[Gp,eR,if_pos Gm]at h7;refine⟨?_,j,GO,h3,Gm,IY,by rw[hd,IY],by omega,h7,h9⟩;rw[Hv,Jo,← VD];simp only[decide_true,Bool.true_and,Bool.and_eq_true,decide_eq_true_eq];omega
      refine⟨_,rfl,b,hM.flag.1,fun Kr=>?_,fun IA=>?_⟩
      · rw[Kr]at Hv;have Gf:=Hv.symm;simp only[Bool.and_eq_true,decide_eq_true_eq]at Gf;have gA:=World.grownBy_alloc (w6.setCell ((⟨g,0,none⟩:Addr).add 1) (.bool b)) (.cells #[.int .u32 (next+v3),.int .u32 (last+(v6+1))] 45) none;have rE:aZ ((w6.setCell ((⟨g,0,none⟩:Addr).add 1) (.bool b)).alloc (.cells #[.int .u32 (next+v3),.int .u32 (last+(v6+1))] 45)) (some ⟨(w6.setCell ((⟨g,0,none⟩:Addr).add 1) (.bool b)).heap.size,0,none⟩) (edges [(next+v3,last+(v6+1))]):=fh _ #[.int .u32 (next+v3),.int .u32 (last+(v6+1))] 45 (0,0);have UN:on=out2.length:=by have:=oO2.cases.1;rw[dk]at this;omega
        obtain⟨Y,yn,yc,w7,f1,f2,f3,f4⟩:=dP (m:=1) (d:=1) (ys:=[(next+v3,last+(v6+1))]) (oOM.kept gA) rE rfl (by simp) (by omega) (Nat.le_trans Hr gA.size);refine⟨by omega,by omega,_,_,_,w7,f1,by omega,kk-1,by omega,kk-1,p2+p6,true,out2++[(next+v3,last+(v6+1))],by omega,rfl,by omega,by omega,by omega,fun _=>by omega,?_,f2,?_,?_,?_,?_,fun _=>by omega,fun l0 G0=>?_⟩
        · have:=(hM.kept gA).kp (S:=fun k=>some k=(Value.slice oA on oc).ownBlock) ⟨f3.os,f3.tape,f3.output,f3.size,fun k hk hS=>f3.block k hk hS⟩ (fun k hk e=>by have:=oO6.block_ge k e.symm;omega);rw[Kr]at this;exact this
        · intro e he;rcases List.mem_append.1 he with he | he
          · exact MJ e he
          · simp at he;subst he;simp only;omega
        · have:=t6.2.2.2 (by rw[Jo]at Gf;simpa using Gf.1);simp only[List.length_append,List.length_singleton];omega
        · intro e he;rcases List.mem_append.1 he with he | he
          · exact My e he
          · simp at he;subst he;exact Gf.2.1
        · exact(RW.then (Kp.of_none (S:=fun k=>k=g) gA) (fun k _ h=>h)).step f3 (fun k hk=>.inl (by have:=oO6.block_ge k hk;omega))
        · obtain⟨_,j,hj,c1,c2,c3,c4,c5,c6,c7⟩:=cond l0 G0;refine⟨j+1,rfl,by omega,?_,fun h=>?_,c4,c5,c6,fun h e=>?_,c7⟩
          · rw[List.take_succ_eq_append_getElem hj,← c1];congr 2;exact Prod.ext c2.symm c3.symm
          · have:=List.pairwise_iff_getElem.1 G0.1.rise j (j+1) hj h (by omega);rw[dI]at this;omega
          · have:=List.pairwise_iff_getElem.1 G0.1.rise j (j+1) hj h (by omega);rw[dI]at this;omega
      · refine⟨by omega,kk-1,by omega,kk-1,p2+p6,b,out2,by omega,rfl,by omega,by omega,by omega,fun h=>(by rw[IA]at h;cases h),hM,oOM,MJ,by omega,My,RW,fun h=>(by rw[IA]at h;cases h),fun l0 G0=>?_⟩;have:=(cond l0 G0).1;rw[IA]at this;cases this
    refine⟨_,rfl,by omega,by omega,_,rfl,ok3,h6.flag.1,fun TH=>⟨fun FP=>?_,fun FU=>?_⟩,fun WM=>?_⟩
    · exact⟨_,rfl,⟨_,h6.flag.1⟩,h6.flag.2,tail _ (by rw[TH];simp[FP])⟩
    · exact⟨_,rfl,⟨_,h6.flag.1⟩,h6.flag.2,tail _ (by rw[TH];simp;omega)⟩
    · exact⟨_,rfl,⟨_,h6.flag.1⟩,h6.flag.2,tail _ (by rw[WM];rfl)⟩
  · exact⟨_,_,_,out,ok,p,rfl,oO,Jw,by omega,Pd,hA,hK,fun l0 G0=>by obtain⟨j,u,v,h1,_⟩:=Gt l0 G0;rw[hok]at h1;cases h1⟩
  · refine⟨_,_,_,out,ok,p,rfl,oO,Jw,by omega,Pd,hA,hK,fun l0 G0=>?_⟩;obtain⟨j,u,v,h1,h2,h3,h4,h5,h6,h7⟩:=Gt l0 G0;refine⟨h1,?_⟩;have hj:j=l0.length:=by
      by_cases hj:j<l0.length
      · exfalso;have:=h5 hj;rw[List.drop_eq_getElem_cons hj,eR,if_neg (by omega)]at h7;omega
      · omega
    rw[h3,hj,List.take_length]
def Ff(x:List Int)(n:Int)(ev:Ending)(w':World):Prop :=
 (∃(A':OA)(n' c':Nat)(l:List Edge),ev=.returned (.tuple #[.slice A' n' c',.int .i64 0])/\aZ w' A' (edges l)/\n'=l.length/\n'<=c'/\(A'=none->c'=0)/\qz x n l) ∨
 (ev=.returned (.tuple #[.slice none 0 0,.int .i64 21])/\∀ l,¬ qz x n l)
theorem zv {w:World} {A:OA} {k c:Nat} {x:List Int} {n:Int} (hr:aZ w A (bY x)) (hk:k=x.length) (hc:k<=c) (hb:aW x) (hl:x.length<=2^16) :
    Calls P 87 #[.slice A k c,.int .u64 n] w fun ev w'=>w.grownBy w' none/\Ff x n ev w':=by
  apply vc87;dsimp only[VC87,rt,Br,cB,cS,cT,nb,iq];have IX:∀ a,A=some a->x=[]∨a.block<w.heap.size:=fun a ha=>by
    by_cases hx:x=[]
    · exact .inl hx
    · obtain⟨b,e1,e2⟩:=hr.blk (by intro e;exact hx (by simpa[bY]using e));rw[ha]at e1;cases e1;exact .inr e2
  have g1:=World.grownBy_alloc w (.cells #[.slice A k c,.bool true] 186) none;have b1:(w.alloc (.cells #[.slice A k c,.bool true] 186)).heap[w.heap.size]?=some (.cells #[.slice A k c,.bool true] 186 (0,0)):=heap_alloc_new w _;have hA:fz (w.alloc (.cells #[.slice A k c,.bool true] 186)) w.heap.size x true:=⟨A,k,c,b1,hr.kept_none g1,hk,hc,IX⟩;refine(xN (n:=n) hA hb hl).mono fun ev w2 hh=>?_;obtain⟨A',n',c',out,ok,p,rfl,oO,Jw,Hh,Pd,Po,K2,Gt⟩:=hh;have GG:n'=out.length:=by have:=oO.cases.1;rw[dk]at this;omega
  have g2:w.grownBy w2 none:=by
    have:Kp w w2 (fun k=>k=w.heap.size):=(Kp.of_none g1).then K2 (fun k _ h=>h);exact this.grown (fun k hk e=>by omega)
  refine⟨_,_,_,rfl,(vd oO.row GG (by omega) Jw).mono fun ev w3 hh=>?_⟩;obtain⟨B,m,d,rfl,oB,g3⟩:=hh;have Pn:=Po.kept g3;have F9:=aA g2 g3;refine⟨_,_,_,_,rfl,_,rfl,ok,Pn.flag.1,fun hok=>⟨F9,.inr ⟨rfl,fun l hl=>?_⟩⟩,fun hok=>?_⟩
  · have:=(Gt l hl).1;rw[hok]at this;cases this
  · have hok:ok=true:=by simpa using hok
    by_cases Hf:nC out=true
    · rw[if_pos Hf]at *;have UQ:=(qs Jw (by omega)).1 Hf;refine⟨fun h=>absurd rfl h,fun _=>(ij oB.row (cX oB) (hr.kept_none F9) hk (dX out) hb).mono fun ev w4 hh=>?_⟩;obtain⟨rfl,rfl⟩:=hh;refine⟨_,rfl,fun h=>⟨F9,.inr ⟨rfl,fun l hl=>?_⟩⟩,fun h=>⟨F9,.inl ⟨_,_,_,out,rfl,oO.row.kept_none g3,GG,kX oO,fun h=>cY oO h,UQ,Pd,?_⟩⟩⟩
      · have:=of_decide_eq_false h;have e:=(Gt l hl).2;rw[e]at this;exact this hl.2.2.symm
      · have:decide (js out=x)=true:=by simpa using h
        exact(of_decide_eq_true this).symm
    · rw[if_neg Hf]at *;refine⟨fun _=>⟨F9,.inr ⟨rfl,fun l hl=>?_⟩⟩,fun h=>absurd (by omega) h⟩;have e:=(Gt l hl).2;rw[e]at Hf;exact Hf ((qs (hl.1.edgesB) hl.1.len).2 hl.1)
theorem Em:∀ k:Fin 256,(k.1=0/\bt bB k.1=0)∨(0<(bt bB k.1).toNat/\(bt bB k.1).toNat<=8/\2^((bt bB k.1).toNat-1)<=k.1/\k.1<2^(bt bB k.1).toNat):=by decide +kernel
theorem zq{v n:Nat}(h0:0<n)(h1:2^(n-1)<=v)(h2:v<2^n):blen v=n:=by
 have hv:0<v:=Nat.lt_of_lt_of_le (Nat.two_pow_pos _) h1;obtain⟨k1,k2⟩:=(gn v).2 hv;have k3:=(gn v).1;have a1:blen v-1<n:=(Nat.pow_lt_pow_iff_right (a:=2) (by omega)).1 (Nat.lt_of_le_of_lt k1 h2);have a2:n-1<blen v:=(Nat.pow_lt_pow_iff_right (a:=2) (by omega)).1 (Nat.lt_of_le_of_lt h1 k3);omega
theorem Fu{k:Nat}(hk:k<256):bt bB k=(blen k:Int)/\blen k<=8:=by
 have h8:blen k<=8:=kA (by omega);refine⟨?_,h8⟩;rcases Em ⟨k,hk⟩with⟨h1,h2⟩ | ⟨h1,h2,h3,h4⟩
 ·simp only at h1 h2;subst h1;rw[h2,lD];rfl
 ·simp only at h1 h2 h3 h4;rw[zq h1 h3 h4];omega
theorem dK{x:Nat}:∀ {k:Nat},2^k<=x->blen x=k+blen (x / 2^k)
 | 0,h=>by simp
 | k+1,h=>by
  have h':=h;rw[Nat.pow_succ]at h;have hp:=Nat.two_pow_pos k;have ih:=dK (x:=x) (k:=k) (by omega);have h2:2<=x / 2^k:=by rw[Nat.le_div_iff_mul_le hp];omega
  have e:x / 2^k / 2=x / 2^(k+1):=by rw[Nat.div_div_eq_div_mul,Nat.pow_succ]
  rw[ih,vc (by omega),e];omega
theorem jo{w:World}{R:Ending->World->Prop}{y cI:Int}{k c b:Nat}(hy:y=(k:Int))(hk:k<256)(hc:cI=(c:Int))(Rp:c<=56)(hb:b=c+blen k)(hR:R (.returned (.int .i64 (b:Int))) w):
    aG .u8 y/\((0<=y/\y<(ByteArray.size bB:Int))/\(aG .i64 (bt bB y.toNat)/\(aG .i64 (cI+bt bB y.toNat)/\R (.returned (.int .i64 (cI+bt bB y.toNat))) w))):=by
  have hs:(ByteArray.size bB:Int)=256:=by kernel_rfl
  have ht:=Fu hk;have TY:y.toNat=k:=by omega
  rw[TY,ht.1,hs,hc];simp only[aG];refine⟨by omega,by omega,by omega,by omega,?_⟩;have:(c:Int)+(blen k:Int)=(b:Int):=by rw[hb];simp
  rw[this];exact hR
theorem Dn{w:World}{R:Ending->World->Prop}{v:Nat}(hv:v<2^64)(hR:R (.returned (.int .i64 (blen v:Int))) w):Calls P 140 #[.int .u64 (v:Int)] w R:=by
 apply vc140;dsimp only[VC140,Br,iq];have p32:(2:Int)^32=4294967296:=rfl;have p16:(2:Int)^16=65536:=rfl;have p8:(2:Int)^8=256:=rfl;simp only[p32,p16,p8];refine⟨fun h1=>⟨by omega,fun h2=>⟨by omega,by simp only[aG];omega,fun h3=>⟨by omega,by simp only[aG];omega,?_⟩,fun h3=>?_⟩,fun h2=>⟨fun h3=>⟨by omega,by simp only[aG];omega,?_⟩,fun h3=>?_⟩⟩,fun h1=>⟨fun h2=>⟨by omega,by simp only[aG];omega,fun h3=>⟨by omega,by simp only[aG];omega,?_⟩,fun h3=>?_⟩,fun h2=>⟨fun h3=>⟨by omega,by simp only[aG];omega,?_⟩,fun h3=>?_⟩⟩⟩
 ·refine jo (k:=v / 4294967296 / 65536 / 256) (c:=56) ?_ ?_ ?_ ?_ ?_ hR
  ·omega
  ·omega
  ·rfl
  ·omega
  ·
   have e0:=dK (x:=v) (k:=32) (by omega);have e1:=dK (x:=v / 4294967296) (k:=16) (by omega);have e2:=dK (x:=v / 4294967296 / 65536) (k:=8) (by omega);simp only[show(2:Nat)^32=4294967296 from rfl,show(2:Nat)^16=65536 from rfl,show(2:Nat)^8=256 from rfl]at *;omega
 ·refine jo (k:=v / 4294967296 / 65536) (c:=48) ?_ ?_ ?_ ?_ ?_ hR
  ·omega
  ·omega
  ·rfl
  ·omega
  ·
   have e0:=dK (x:=v) (k:=32) (by omega);have e1:=dK (x:=v / 4294967296) (k:=16) (by omega);simp only[show(2:Nat)^32=4294967296 from rfl,show(2:Nat)^16=65536 from rfl,show(2:Nat)^8=256 from rfl]at *;omega
 ·refine jo (k:=v / 4294967296 / 256) (c:=40) ?_ ?_ ?_ ?_ ?_ hR
  ·omega
  ·omega
  ·rfl
  ·omega
  ·
   have e0:=dK (x:=v) (k:=32) (by omega);have e1:=dK (x:=v / 4294967296) (k:=8) (by omega);simp only[show(2:Nat)^32=4294967296 from rfl,show(2:Nat)^16=65536 from rfl,show(2:Nat)^8=256 from rfl]at *;omega
 ·refine jo (k:=v / 4294967296) (c:=32) ?_ ?_ ?_ ?_ ?_ hR
  ·omega
  ·omega
  ·rfl
  ·omega
  ·
   have e0:=dK (x:=v) (k:=32) (by omega);simp only[show(2:Nat)^32=4294967296 from rfl,show(2:Nat)^16=65536 from rfl,show(2:Nat)^8=256 from rfl]at *;omega
 ·refine jo (k:=v / 65536 / 256) (c:=24) ?_ ?_ ?_ ?_ ?_ hR
  ·omega
  ·omega
  ·rfl
  ·omega
  ·
   have e0:=dK (x:=v) (k:=16) (by omega);have e1:=dK (x:=v / 65536) (k:=8) (by omega);simp only[show(2:Nat)^32=4294967296 from rfl,show(2:Nat)^16=65536 from rfl,show(2:Nat)^8=256 from rfl]at *;omega
 ·refine jo (k:=v / 65536) (c:=16) ?_ ?_ ?_ ?_ ?_ hR
  ·omega
  ·omega
  ·rfl
  ·omega
  ·
   have e0:=dK (x:=v) (k:=16) (by omega);simp only[show(2:Nat)^32=4294967296 from rfl,show(2:Nat)^16=65536 from rfl,show(2:Nat)^8=256 from rfl]at *;omega
 ·refine jo (k:=v / 256) (c:=8) ?_ ?_ ?_ ?_ ?_ hR
  ·omega
  ·omega
  ·rfl
  ·omega
  ·
   have e0:=dK (x:=v) (k:=8) (by omega);simp only[show(2:Nat)^32=4294967296 from rfl,show(2:Nat)^16=65536 from rfl,show(2:Nat)^8=256 from rfl]at *;omega
 ·refine jo (k:=v) (c:=0) ?_ ?_ ?_ ?_ ?_ hR
  ·omega
  ·omega
  ·rfl
  ·omega
  ·omega
theorem jp{w:World}{v:Nat}(hv:v<2^64):Calls P 140 #[.int .u64 (v:Int)] w fun ev w'=>ev=.returned (.int .i64 (blen v:Int))/\w'=w:=Dn hv ⟨rfl,rfl⟩
theorem nz:∀ n:Nat,cK 0 n=List.replicate n false
 | 0=>rfl
 | n+1=>by
  rw[cK,nz n,List.replicate_succ];congr 1;simp[eZ]
theorem _root_.Go.V.Kp.tysThen{w w' w'':World}{base:Nat}{ts:List TypeId}(h:Kp w w' (vl w base ts))(h':Kp w' w'' (vl w' base ts)):Kp w w'' (vl w base ts):=by
 refine h.then h' fun k hk ht=>?_;by_cases hc:vl w base ts k
 ·exact hc
 ·obtain⟨h1,t,h2,cur,fr,h3⟩:=ht;exact⟨h1,t,h2,cur,fr,by rw[← h.block k hk hc];exact h3⟩
theorem pq{w:World}{base g v:Nat}{bits:List Bool}(h:Wr w base g bits)(hv:0<v/\v<2^64)(hl:bits.length<=2^29)(FW:base<=w.heap.size):
    Calls P 150 #[.pointer (some ⟨g,0,none⟩),.int .u64 (v:Int)] w fun ev w'=>ev=.returned (.tuple #[])/\Wr w' base g (bits++dT v)/\Kp w w' (vl w base [214,5]):=by
  apply vc150;dsimp only[VC150,rt,Br,cI,cU,iq]
  try simp only[aG]
  have hb:=(gn v).2 hv.1;have Gf:=kA (v:=v) (k:=64) hv.2;refine⟨fun h=>(by cases h),fun _=>⟨fun h=>(by omega),fun _=>(jp hv.2).mono fun ev w1 hh=>?_⟩⟩;obtain⟨rfl,rfl⟩:=hh;have e:(blen v:Int)-1=((blen v-1:Nat):Int):=by omega
  refine⟨_,rfl,by omega,?_⟩;rw[e];refine(nN (v:=0) (n:=blen v-1) h (by omega) (by omega) (by omega) FW).mono fun ev w2 hh=>?_;obtain⟨rfl,h2,k2⟩:=hh;rw[nz]at h2;refine⟨rfl,(nN (v:=(v:Int)) (n:=blen v) h2 (by omega) Gf (by simp;omega) (Nat.le_trans FW k2.size)).mono fun ev w3 hh=>?_⟩;obtain⟨rfl,h3,k3⟩:=hh;refine⟨rfl,trivial,?_,k2.tysThen k3⟩;unfold dT;rw[← List.append_assoc];exact h3
theorem CV{bs:List Bool}{z:Nat}(h:∀ i,i<z->bs[i]?=some false):z<=rq bs:=by
 induction z generalizing bs with
 | zero=>omega
 | succ z ih =>
  cases bs with
  | nil=>have:=h 0 (by omega);simp at this
  | cons b bs =>
   have h0:=h 0 (by omega);simp at h0;subst h0;have:=ih (bs:=bs) (fun i hi=>by simpa using h (i+1) (by omega));unfold rq at this ⊢;rw[List.takeWhile_cons];simp;omega
theorem zp(k:IntKind)(a b:Int):dD .or k a b=dD .or k b a:=by
 unfold dD;simp[BitVec.or_comm]
theorem EY{l:List Int}{at_ i:Nat}(h:at_+i<8*l.length):((aX l).drop at_)[i]?=some (fb l (at_+i)):=by
 rw[List.getElem?_drop];unfold aX;simp[h]
def DZ(w':World)(g:Nat)(A:OA)(n c:Nat)(l:List Int)(at_:Nat)(ev:Ending):Prop :=
 match qU ((aX l).drop at_)with
 | some (v,k)=>ev=.returned (.tuple #[.int .u64 v,.bool true])/\jt w' g A n c l (at_+k)
 | none=>ev=.returned (.tuple #[.int .u64 0,.bool false])/\jt w' g A n c l at_
theorem yS {w:World} {g:Nat} {A:OA} {n c:Nat} {l:List Int} {at_:Nat} (h:jt w g A n c l at_) (hl:l.length<=2^40) (hb:aW l) :
    Calls P 184 #[.pointer (some ⟨g,0,none⟩)] w fun ev w'=>Kp w w' (fun q=>q=g)/\DZ w' g A n c l at_ ev:=by
  apply vc184;dsimp only[VC184,rt,Wt,Br,Rd,Rs,Ws,nb,iq]
  try simp only[aG]
  have FP:=(Array.getElem?_eq_some_iff.1 h.blk).1;have s0:(w.alloc (.cells #[.slice none 0 0,.int .i64 0] 240)).heap[w.heap.size]?=some (.cells #[.slice none 0 0,.int .i64 0] 240 (0,0)):=heap_alloc_new w _;have s1:=aH s0 0 (.slice A n c);have s2:=aH s1 1 (.int .i64 (at_:Int));have g1:w.grownBy (((w.alloc (.cells #[.slice none 0 0,.int .i64 0] 240)).setCell ⟨w.heap.size,0,none⟩ (.slice A n c)).setCell ⟨w.heap.size,1,none⟩ (.int .i64 (at_:Int))) none :=
    (cA (cA (Kp.of_none (S:=fun k=>w.heap.size<=k) (ic (aC w none) _)) (Nat.le_refl _)) (Nat.le_refl _)).grown (fun k hk e=>by omega)
  refine⟨fun h=>(by cases h),fun _=>⟨_,rfl,_,_,_,aB h.blk 0,_,by rw[aP];exact aB h.blk 1,⟨_,aB s0 0⟩,aD s0 0,⟨_,aB s1 1⟩,aD s1 1,?_⟩⟩;have bW:(((w.alloc (.cells #[.slice none 0 0,.int .i64 0] 240)).setCell ⟨w.heap.size,0,none⟩ (.slice A n c)).setCell ⟨w.heap.size,1,none⟩ (.int .i64 (at_:Int))).heap[w.heap.size]?=some (.cells #[.slice A n c,.int .i64 (at_:Int)] 240 (0,0)):=by simpa using s2
  obtain⟨w1,GK⟩:∃ w1,w1=((w.alloc (.cells #[.slice none 0 0,.int .i64 0] 240)).setCell ⟨w.heap.size,0,none⟩ (.slice A n c)).setCell ⟨w.heap.size,1,none⟩ (.int .i64 (at_:Int)):=⟨_,rfl⟩;rw[← GK]at bW g1 ⊢;have LA:((aX l).drop at_).length=8*l.length-at_:=by rw[List.length_drop,eo]
  have Ga:=h.le
  -- back to where it was
  have back:∀(W:World)(z:Nat),Kp w W (fun q=>q=g)->W.heap[w.heap.size]?=some (.cells #[.slice A n c,.int .i64 (at_:Int)] 240 (0,0))->jt W g A n c l (at_+z)->qU ((aX l).drop at_)=none →
      ∃ (x40A:OA) (x40n x40c:Nat),World.cell? W ⟨w.heap.size,0,none⟩=some (.slice x40A x40n x40c)/\∃ x40:Int,World.cell? W ⟨w.heap.size,1,none⟩=some (.int .i64 x40)/\∃ a41:Addr,(some (⟨g,0,none⟩:Addr))=some a41/\((∃ uv_:Value,World.cell? W a41=some uv_)/\World.frozen? W a41=false/\((∃ uv_:Value,World.cell? (World.setCell W a41 (.slice x40A x40n x40c)) (a41.add 1)=some uv_)/\World.frozen? (World.setCell W a41 (.slice x40A x40n x40c)) (a41.add 1)=false ∧
        (Kp w (World.setCell (World.setCell W a41 (.slice x40A x40n x40c)) (a41.add 1) (.int .i64 x40)) (fun q=>q=g)/\DZ (World.setCell (World.setCell W a41 (.slice x40A x40n x40c)) (a41.add 1) (.int .i64 x40)) g A n c l at_ (.returned (.tuple #[.int .u64 0,.bool false]))))):=by
    intro W z hK hB hR hT;have t1:=aH hR.blk 0 (.slice A n c);have t2:=aH t1 1 (.int .i64 (at_:Int));have K:Kp w ((W.setCell ⟨g,0,none⟩ (.slice A n c)).setCell ⟨g,1,none⟩ (.int .i64 (at_:Int))) (fun q=>q=g):=cA (cA hK rfl) rfl;refine⟨_,_,_,aB hB 0,_,aB hB 1,_,rfl,⟨_,aB hR.blk 0⟩,aD hR.blk 0,⟨_,by rw[aP];exact aB t1 1⟩,by rw[aP];exact aD t1 1,?_⟩;rw[aP];refine⟨K,?_⟩;unfold DZ;rw[hT];exact⟨rfl,by simpa using t2,h.row.kpE K (fun a ha=>(h.ne a ha).imp (fun e=>by rw[e];rfl) id),h.len,h.le,h.ne⟩
  refine⟨fun m i W=>∃ z:Nat,i=(z:Int)/\z<=64/\64-z=m/\Kp w W (fun q=>q=g)/\W.heap[w.heap.size]?=some (.cells #[.slice A n c,.int .i64 (at_:Int)] 240 (0,0))/\jt W g A n c l (at_+z)/\∀ j,j<z->((aX l).drop at_)[j]?=some false,
    ⟨_,0,rfl,by omega,rfl,Kp.of_none g1,bW,h.kept g1,fun j hj=>by omega⟩,?_⟩
  rintro m i w2 ⟨z,rfl,hz,rfl,hK,hB,hR,I6⟩;have tz:(z:Int).toNat=z:=by omega
  rw[tz];refine⟨fun SI=>(lK (k:=1) hR hl hb (by omega)).mono fun ev w3 hh=>?_,fun FU=>back w2 z hK hB hR ?_⟩
  · obtain⟨K3,⟨r1,rfl,R3⟩ | ⟨r1,rfl,R3⟩⟩:=hh
    · have IL:Kp w w3 (fun q=>q=g):=hK.then K3 (fun k _ h=>h);have LI:w3.heap[w.heap.size]?=some (.cells #[.slice A n c,.int .i64 (at_:Int)] 240 (0,0)):=by rw[K3.block _ (Array.getElem?_eq_some_iff.1 hB).1 (by omega)];exact hB
      have HX:=EY (l:=l) (at_:=at_) (i:=z) (by omega);have HE:=qH (l:=l) (at_:=at_+z) (by omega);rw[HE];refine⟨_,_,rfl,fun h=>(by cases h),fun _=>⟨fun h0=>⟨by omega,_,?_,z+1,by omega,by omega,rfl,IL,LI,by rw[← Nat.add_assoc];exact R3,fun j hj=>?_⟩,fun h1=>?_⟩⟩
      · omega
      · by_cases e:j=z
        · subst e;rw[HX];congr 1;cases Nb:fb l (at_+j)with
          | false=>rfl
          | true=>rw[Nb]at h0;simp[fy]at h0
        · exact I6 j (by omega)
      · have Kr:fb l (at_+z)=true:=by
          cases Nb:fb l (at_+z)with
          | true=>rfl
          | false=>rw[Nb]at h1;simp[fy]at h1
        rw[Kr]at HX;have Nu:rq ((aX l).drop at_)=z:=Fp I6 (by rw[HX];simp);refine(lK (k:=z) R3 hl hb (by omega)).mono fun ev w4 hh=>?_;obtain⟨K4,⟨r2,rfl,R4⟩ | ⟨r2,rfl,R4⟩⟩:=hh
        · have Pj:Kp w w4 (fun q=>q=g):=IL.then K4 (fun k _ h=>h);have hv:=tF (((aX l).drop (at_+z+1)).take z);have Uf:(((aX l).drop (at_+z+1)).take z).length=z:=by rw[List.length_take,List.length_drop,eo];omega
          rw[Uf]at hv;have Hi:min z 64=z:=by omega
          have hp:=Int.pow_pos (n:=2) (m:=z) (by omega);have QC:(2:Int)^z<=2^63:=by
            have:=Nat.pow_le_pow_right (n:=2) (by omega) (show z<=63 by omega);have e:((2^z:Nat):Int)=2^z:=by simp
            omega
          rw[Hi];refine⟨_,_,rfl,fun h=>(by cases h),fun _=>⟨⟨by omega,by omega,by omega⟩,Pj,?_⟩⟩;unfold DZ qU;rw[Nu,if_pos ⟨by omega,by rw[LA];omega⟩];refine⟨?_,?_⟩
          · rw[zp,xh hv.1 hv.2 (by omega) (by omega),List.drop_drop,← Nat.add_assoc];congr 5;omega
          · have:at_+(2*z+1)=at_+z+1+z:=by omega
            rw[this];exact R4
        · have Pj:Kp w w4 (fun q=>q=g):=IL.then K4 (fun k _ h=>h);refine⟨_,_,rfl,fun _=>back w4 (z+1) Pj (by rw[K4.block _ (Array.getElem?_eq_some_iff.1 LI).1 (by omega)];exact LI) (by rw[← Nat.add_assoc];exact R4) ?_,fun h=>absurd rfl h⟩;unfold qU;rw[Nu,if_neg (by rw[LA];omega)]
    · refine⟨_,_,rfl,fun _=>back w3 z (hK.then K3 (fun k _ h=>h)) (by rw[K3.block _ (Array.getElem?_eq_some_iff.1 hB).1 (by omega)];exact hB) R3 ?_,fun h=>absurd rfl h⟩;have h1:=CV I6;unfold qU;rw[if_neg (by rw[LA];omega)]
  · have h1:=CV I6;unfold qU;rw[if_neg (by omega)]
theorem qt(g i j:Nat):(⟨g,i,none⟩:Addr).add j=⟨g,i+j,none⟩:=by unfold Addr.add;split <;>simp_all
theorem j6{t0:Int}:∀ {l:List aS} {p:Option aS},kG t0 p l=true↔(∀ e∈l,0<=e.t/\e.t<=4611686018427387903/\e.u<e.v)/\(∀ j (hj:j+1<l.length),bN l[j] l[j+1]=true)/\(∀ e,l.head?=some e->match p with | none=>e.t=t0 | some q=>bN q e=true)
 | [],p=>by simp[kG]
 | e ::l,p=>by
  have ih:=j6 (t0:=t0) (l:=l) (p:=some e);unfold kG;rw[Bool.and_eq_true,Bool.and_eq_true,ih,decide_eq_true_eq];constructor
  ·rintro⟨⟨h1,h2⟩,h3,h4,h5⟩;refine⟨fun a ha=>?_,fun j hj=>?_,fun a ha=>?_⟩
   ·rcases List.mem_cons.1 ha with rfl | ha
    ·exact h1
    ·exact h3 a ha
   ·cases j with
    | zero =>
     have h0:0<l.length:=by simpa using hj
     exact h5 l[0] (by rw[List.head?_eq_getElem?];simp[h0])
    | succ j=>exact h4 j (by simpa using hj)
   ·have:a=e:=by simpa using ha.symm
    subst this;cases p with
    | none=>simpa using h2
    | some q=>exact h2
  ·rintro⟨h1,h2,h3⟩;refine⟨⟨h1 e (by simp),?_⟩,fun a ha=>h1 a (by simp[ha]),fun j hj=>h2 (j+1) (Nat.succ_lt_succ hj),fun a ha=>?_⟩
   ·have:=h3 e rfl;cases p with
    | none=>simpa using this
    | some q=>exact this
   ·have h0:0<l.length:=by cases l with | nil=>simp at ha | cons=>simp
    have:=h2 0 (by simpa using h0);have e':l[0]=a:=by rw[List.head?_eq_getElem?,List.getElem?_eq_getElem h0]at ha;exact Option.some.inj ha
    rw[← e'];exact this
theorem xI {w:World} {A:OA} {n c:Nat} {l:List aS} {t0:Int} (hr:aZ w A (cE l)) (hn:n=l.length) (hl:n<=2^20) :
    Calls P 106 #[.int .i64 t0,.slice A n c] w fun ev w'=>ev=.returned (.bool (kG t0 none l))/\w.grownBy w' none:=by
  apply vc106;dsimp only[VC106,rb,Wt,Br,Rd,Ix,Ws,cB,nb,ad,al,iq]
  try simp only[aG]
  have no:∀ {p:Nat} (hp:p<l.length),¬ (0<=l[p].t/\l[p].t<=4611686018427387903/\l[p].u<l[p].v)->kG t0 none l=false:=by
    intro p hp h;rw[Bool.eq_false_iff];intro hd;exact h ((j6.1 hd).1 _ (List.getElem_mem hp))
  refine⟨fun m i w'=>∃ p:Nat,i=(p:Int)/\p<=l.length/\l.length-p=m/\w.grownBy w' none/\(∀ j (hj:j<l.length),j<p->0<=l[j].t/\l[j].t<=4611686018427387903/\l[j].u<l[j].v)/\∀ j (hj:j+1<l.length),j+1<p->bN l[j] l[j+1]=true,
    ⟨_,0,rfl,by omega,rfl,aC _ _,fun j hj h=>by omega,fun j hj h=>by omega⟩,?_⟩
  rintro m i w1 ⟨p,rfl,hp,rfl,hg,hok,IA⟩;have tp:(p:Int).toNat=p:=by omega
  have tp1:((p:Int)-1).toNat=p-1:=by omega
  rw[tp,tp1];refine⟨fun FP=>?_,fun FU=>?_⟩
  · have lp:p<l.length:=by omega
    obtain⟨a,e1,e2,e3,e4,e5⟩:=ey (hr.kept_none hg) lp;obtain⟨w2,hE,pE0,qE0,pE1,qE1,pE2,qE2,pE3,qE3,bE,gE⟩:=uC w1 62 (.int .i64 0) (.int .u32 0) (.int .u32 0) (.bool false) (.int .i64 l[p].t) (.int .u32 l[p].u) (.int .u32 l[p].v) (.bool l[p].add);refine⟨a,e1,by omega,by omega,_,e2,_,e3,_,e4,_,e5,pE0,qE0,pE1,qE1,pE2,qE2,pE3,qE3,?_⟩;rw[← hE];have gd:=aI (aC w2 none);have bE2:=aF bE gd;have FY:=aA (aA hg gE) gd;refine⟨_,aB bE2 0,fun h1=>⟨?_,FY⟩,fun h1=>⟨_,aB bE2 0,fun h2=>⟨?_,FY⟩,fun h2=>⟨_,aB bE2 1,_,aB bE2 2,fun h3=>⟨?_,FY⟩,fun h3=>?_⟩⟩⟩
    · rw[no lp (by omega)]
    · rw[no lp (by omega)]
    · rw[no lp (by omega)]
    · have ok':∀ j (hj:j<l.length),j<p+1->0<=l[j].t/\l[j].t<=4611686018427387903/\l[j].u<l[j].v:=by
        intro j hj M8;by_cases e:j=p
        · subst e;omega
        · exact hok j hj (by omega)
      refine⟨fun FX=>?_,fun hz=>⟨by omega,_,?_,p+1,by omega,by omega,rfl,FY,ok',fun j hj h=>by omega⟩⟩
      · obtain⟨a',q1,q2,q3,q4,q5⟩:=ey (hr.kept_none FY) (show p-1<l.length by omega);refine⟨by omega,a',q1,by omega,by omega,_,q2,_,q3,_,q4,_,q5,_,aB bE2 0,_,aB bE2 1,_,aB bE2 2,_,aB bE2 3,(ol l[p-1] l[p]).mono fun ev w3 hh=>?_⟩;obtain⟨rfl,g3⟩:=hh;refine⟨_,rfl,fun h4=>⟨?_,aA FY g3⟩,fun h4=>⟨by omega,_,?_,p+1,by omega,by omega,rfl,aA FY g3,ok',fun j hj M8=>?_⟩⟩
        · congr 2
          symm
          rw[Bool.eq_false_iff];intro hd;have:=(j6.1 hd).2.1 (p-1) (by omega);have e:p-1+1=p:=by omega
          simp only[e]at this;rw[this]at h4;cases h4
        · omega
        · by_cases e:j+1=p
          · subst e;simpa using h4
          · exact IA j hj (by omega)
      · omega
  · have:p=l.length:=by omega
    subst this;refine⟨fun h0=>⟨?_,hg⟩,fun h0=>?_⟩
    · have:l=[]:=List.eq_nil_of_length_eq_zero (by omega);subst this;rfl
    · have l0:0<l.length:=by omega
      obtain⟨a,e1,e2,e3,e4,e5⟩:=ey (hr.kept_none hg) l0;refine⟨a,e1,by omega,by omega,_,by simpa[Addr.add]using e2,?_,hg⟩;congr 2;have Hp:l.head?=some l[0]:=by rw[List.head?_eq_getElem?,List.getElem?_eq_getElem l0]
      cases hd:kG t0 none l with
      | true=>simpa using(j6.1 hd).2.2 _ Hp
      | false =>
        rw[decide_eq_false_iff_not];intro h;have:kG t0 none l=true:=j6.2 ⟨fun e he=>by obtain⟨j,hj,rfl⟩:=List.mem_iff_getElem.1 he;exact hok j hj hj,fun j hj=>IA j hj hj,fun e he=>by
          rw[Hp]at he;cases he;exact h⟩
        rw[hd]at this;cases this
def bS(t0:Int)(p:Option aS):aS:=p.getD ⟨t0,0,0,false⟩
theorem px(t0:Int)(p:Option aS)(e:aS):ii t0 p e=(e.t-(bS t0 p).t).toNat+1:=by cases p <;>rfl
theorem pz(t0:Int)(p:Option aS)(e:aS):jB p e=if p.isSome=true/\e.t=(bS t0 p).t then(e.u-(bS t0 p).u).toNat+1 else e.u.toNat+1:=by cases p <;>simp[jB,bS]
theorem pw(t0:Int)(p:Option aS)(e:aS):jr p e=if p.isSome=true/\e.t=(bS t0 p).t then(if e.u=(bS t0 p).u then(e.v-(bS t0 p).v).toNat else(e.v-e.u).toNat) else(e.v-e.u).toNat:=by
 cases p with
 | none=>simp[jr]
 | some q =>
  simp only[jr,bS,Option.getD_some,Option.isSome_some,true_and];by_cases h:e.t=q.t
  ·by_cases h2:e.u=q.u
   ·simp[h,h2]
   ·simp[h,h2]
  ·simp[h]
structure DWr(w:World)(base g gw:Nat)(t0:Int)(p:Option aS)(bits:List Bool):Prop where
 wr:Wr w base g bits
 low:base<=gw
 blk:w.heap[gw]?=some (.cells #[.pointer (some ⟨g,0,none⟩),.int .i64 (bS t0 p).t,.int .u32 (bS t0 p).u,.int .u32 (bS t0 p).v,.bool (bS t0 p).add,.bool p.isSome] 166 (0,0))
theorem pW{w:World}{base k:Nat}{ts:List TypeId}{cur:Array Value}{t:TypeId}{fr:Nat×Nat}(h:w.heap[k]?=some (.cells cur t fr))(ht:t ∉ ts):¬ vl w base ts k:=by
 rintro⟨_,t',h1,cur',fr',h2⟩;rw[h]at h2;cases h2;exact ht h1
theorem y7{w:World}{base g gw:Nat}{t0:Int}{p:Option aS}{e:aS}{bits:List Bool}(h:DWr w base g gw t0 p bits)(he:Bh t0 p e)(hp:jy p)(GF:∀ q,p=some q->q.u<=4294967295/\q.v<=4294967295)(hl:bits.length<=2^28)(FW:base<=w.heap.size)(MR:0<=t0∨p≠none):
    Calls P 108 #[.pointer (some ⟨gw,0,none⟩),evtV e] w fun ev w'=>ev=.returned (.tuple #[])/\DWr w' base g gw t0 (some e) (bits++xF t0 p e)/\Kp w w' (fun k=>vl w base [214,5] k∨k=gw):=by
  apply vc108;dsimp only[VC108,rt,Wt,Br,Bb,Rd,Rc,Ws,cU,nb,iq];have hn:=he.nums hp;have OL:=xE hp he;obtain⟨h1,h2,h3⟩:=he;have hq:0<=(bS t0 p).t/\0<=(bS t0 p).u/\(bS t0 p).u<=4294967295/\0<=(bS t0 p).v/\(bS t0 p).v<=4294967295/\(bS t0 p).t<=e.t/\(p.isSome=true->e.t=(bS t0 p).t->(bS t0 p).u<e.u∨(bS t0 p).u=e.u/\(bS t0 p).v<e.v):=by
    cases p with
    | none=>simp only at h3;simp[bS];omega
    | some q =>
      have a1:=hp q rfl;have a2:=GF q rfl;simp only[eg]at h3;simp only[bS,Option.getD_some];refine⟨by omega,by omega,by omega,by omega,by omega,by omega,fun _ _=>by omega⟩
  have Ip:=h.blk;have Q7:=(Array.getElem?_eq_some_iff.1 Ip).1;have hG:=px t0 p e;have hF:=pz t0 p e;have hS:=pw t0 p e;generalize UA:bS t0 p=q at *;generalize I2:p.isSome=any at *;obtain⟨gaps,Ly⟩:∃ x,x=ii t0 p e:=⟨_,rfl⟩;obtain⟨fst,J3⟩:∃ x,x=jB p e:=⟨_,rfl⟩;obtain⟨snd,JN⟩:∃ x,x=jr p e:=⟨_,rfl⟩;have Mi:xF t0 p e=dT gaps++(e.add ::(dT fst++dT snd)):=by unfold xF;rw[Ly,J3,JN]
  rw[← Ly]at hG hn;rw[← J3]at hF hn;rw[← JN]at hS hn;rw[Mi]at OL ⊢;simp only[List.length_append,List.length_cons]at OL;simp only[aG];obtain⟨w1,FQ,g1,b1⟩:=fQ w #[.int .i64 e.t,.int .u32 e.u,.int .u32 e.v,.bool e.add] 62;rw[← FQ];have gd:=aA g1 (aI (aC w1 none));have bd:w1.drew.heap[w.heap.size]?=some (.cells #[.int .i64 e.t,.int .u32 e.u,.int .u32 e.v,.bool e.add] 62 (0,0)):=b1;have bG:=aF Ip gd;have PM:62 ∉ [214,5]:=by decide
  have Ol:166 ∉ [214,5]:=by decide
  have FU:0<gaps:=by rw[hG];omega
  have kgap:e.t-q.t+1=(gaps:Int):=by rw[hG];omega
  refine⟨_,rfl,_,aB bG 0,_,aB bd 0,_,rfl,_,by rw[aP];exact aB bG 1,by omega,by omega,by omega,?_⟩;rw[kgap];refine(pq (h.wr.kept gd) ⟨FU,by omega⟩ (by omega) (Nat.le_trans FW gd.size)).mono fun ev w2 hh=>?_;obtain⟨rfl,KT,K2⟩:=hh;have stay:∀ {W W':World} {k:Nat} {cur:Array Value} {t:TypeId},W.heap[k]?=some (.cells cur t (0,0))->Kp W W' (vl W base [214,5])->t ∉ [214,5]->W'.heap[k]?=some (.cells cur t (0,0)):=by
    intro W W' k cur t hb hK ht;rw[hK.block k (Array.getElem?_eq_some_iff.1 hb).1 (pW hb ht)];exact hb
  have b2:=stay bd K2 PM;have bG2:=stay bG K2 Ol;have Kw:Kp w w2 (vl w base [214,5]):=(Kp.of_none (S:=vl w base [214,5]) gd).tysThen K2;refine⟨rfl,fun s w'=>s=fy e.add/\w'=w2,⟨_,aB b2 3,fun ha=>⟨by rw[ha];rfl,rfl⟩,fun ha=>⟨by rw[ha];rfl,rfl⟩⟩,?_⟩;rintro s w3 ⟨rfl,rfl⟩;have Xx:=fS e.add;refine⟨_,rfl,_,aB bG2 0,(nN (v:=fy e.add) (n:=1) KT (by omega) (by omega) (by simp;omega) (Nat.le_trans FW Kw.size)).mono fun ev w4 hh=>?_⟩;obtain⟨rfl,PV,K4⟩:=hh;have HX:cK (fy e.add) 1=[e.add]:=by cases e.add <;>rfl
  rw[HX]at PV;have b4:=stay b2 K4 PM;have bG4:=stay bG2 K4 Ol;have Kw4:=Kw.tysThen K4;have gd4:=aI (aC w4 none)
  -- the vertices of the event ahead
  have s0:(w4.drew.alloc (.cells #[.int .u32 0,.int .u32 0] 45)).heap[w4.drew.heap.size]?=some (.cells #[.int .u32 0,.int .u32 0] 45 (0,0)):=heap_alloc_new w4.drew _;have s1:=aH s0 0 (.int .u32 q.u);have s2:=aH s1 1 (.int .u32 q.v);have gS0:=aA gd4 (World.grownBy_alloc w4.drew (.cells #[.int .u32 0,.int .u32 0] 45) none);have gS:w4.grownBy (((w4.drew.alloc (.cells #[.int .u32 0,.int .u32 0] 45)).setCell ⟨w4.drew.heap.size,0,none⟩ (.int .u32 q.u)).setCell ⟨w4.drew.heap.size,1,none⟩ (.int .u32 q.v)) none :=
    (cA (cA (Kp.of_none (S:=fun k=>w4.heap.size<=k) gS0) (Nat.le_refl _)) (Nat.le_refl _)).grown (fun k hk e=>by omega)
  have bQ:(((w4.drew.alloc (.cells #[.int .u32 0,.int .u32 0] 45)).setCell ⟨w4.drew.heap.size,0,none⟩ (.int .u32 q.u)).setCell ⟨w4.drew.heap.size,1,none⟩ (.int .u32 q.v)).heap[w4.drew.heap.size]?=some (.cells #[.int .u32 q.u,.int .u32 q.v] 45 (0,0)):=by simpa using s2
  refine⟨rfl,fun wq=>w4.grownBy wq none,gd4,_,fun wq gq=>aB (aF b4 gq) 1,by omega,by omega,_,fun wq gq=>aB (aF b4 gq) 2,_,fun wq gq=>aB (aF b4 gq) 1,by omega,by omega,_,rfl,_,fun wq gq=>by rw[fl,aP];exact aB (aF bG4 gq) 2,_,fun wq gq=>by rw[fl,fl,aP];exact aB (aF bG4 gq) 3,gS0,⟨_,aB s0 0⟩,aD s0 0,⟨_,aB s1 1⟩,aD s1 1,gS,?_⟩;obtain⟨w5,MP⟩:∃ w5,w5=((w4.drew.alloc (.cells #[.int .u32 0,.int .u32 0] 45)).setCell ⟨w4.drew.heap.size,0,none⟩ (.int .u32 q.u)).setCell ⟨w4.drew.heap.size,1,none⟩ (.int .u32 q.v):=⟨_,rfl⟩;rw[← MP]at gS bQ ⊢;have gS5:=aA gS (aI (aC w5 none));have bQ5:=aF bQ (aI (aC w5 none));refine⟨fun u v w'=>u=(fst:Int)/\v=(snd:Int)/\w'=w5.drew,⟨fun b w'=>b=(any && decide (e.t=q.t))/\w'=w5.drew,⟨_,rfl,_,by rw[aP];exact aB (aF bG4 gS5) 5,fun ha=>⟨_,aB (aF b4 gS5) 0,_,rfl,_,by rw[aP];exact aB (aF bG4 gS5) 1,by rw[ha];rfl,rfl⟩,fun ha=>⟨by rw[ha];rfl,rfl⟩⟩,?_⟩,?_⟩
  · rintro b w6 ⟨hb,rfl⟩;refine⟨fun Kr=>?_,fun IA=>⟨?_,?_,rfl⟩⟩
    · rw[Kr]at hb;have Hv:=hb.symm;simp only[Bool.and_eq_true,decide_eq_true_eq]at Hv;have ho:=hq.2.2.2.2.2.2 Hv.1 Hv.2;rw[if_pos ⟨Hv.1,Hv.2⟩]at hF hS;refine⟨_,aB bQ5 0,by omega,by omega,_,aB (aF b4 gS5) 1,_,aB bQ5 0,fun hs=>⟨_,aB (aF b4 gS5) 2,_,aB bQ5 1,by omega,by omega,by omega,?_,rfl⟩,fun hs=>⟨by omega,?_,rfl⟩⟩
      · rw[if_pos hs]at hS;omega
      · rw[if_neg hs]at hS;omega
    · have:¬ (any=true/\e.t=q.t):=by rintro⟨a1,a2⟩;rw[a1,IA]at hb;simp[a2]at hb
      rw[if_neg this]at hF;omega
    · have:¬ (any=true/\e.t=q.t):=by rintro⟨a1,a2⟩;rw[a1,IA]at hb;simp[a2]at hb
      rw[if_neg this]at hS;omega
  · rintro u v w6 ⟨rfl,rfl,rfl⟩;have b6:=aF b4 gS5;have bG6:=aF bG4 gS5;have Kw6:Kp w w5.drew (vl w base [214,5]):=Kw4.tysThen (Kp.of_none gS5);refine⟨_,rfl,_,aB bG6 0,(pq (PV.kept gS5) ⟨hn.2.1.1,by omega⟩ (by simp;omega) (Nat.le_trans FW Kw6.size)).mono fun ev w7 hh=>?_⟩;obtain⟨rfl,PU,K7⟩:=hh;have b7:=stay b6 K7 PM;have bG7:=stay bG6 K7 Ol;have Kw7:=Kw6.tysThen K7;refine⟨rfl,_,rfl,_,aB bG7 0,(pq PU ⟨hn.2.2.1,by omega⟩ (by simp;omega) (Nat.le_trans FW Kw7.size)).mono fun ev w8 hh=>?_⟩;obtain⟨rfl,RH,K8⟩:=hh;have b8:=stay b7 K8 PM;have bG8:=stay bG7 K8 Ol;have Kw8:=Kw7.tysThen K8;have t1:=aH bG8 1 (.int .i64 e.t);have t2:=aH t1 2 (.int .u32 e.u);have t3:=aH t2 3 (.int .u32 e.v);have t4:=aH t3 4 (.bool e.add);have t5:=aH t4 5 (.bool true);have K9:Kp w8 (((((w8.setCell ⟨gw,1,none⟩ (.int .i64 e.t)).setCell ⟨gw,2,none⟩ (.int .u32 e.u)).setCell ⟨gw,3,none⟩ (.int .u32 e.v)).setCell ⟨gw,4,none⟩ (.bool e.add)).setCell ⟨gw,5,none⟩ (.bool true)) (fun k=>k=gw):=cA (cA (cA (cA (cA (Kp.refl w8 _) rfl) rfl) rfl) rfl) rfl;refine⟨rfl,_,aB b8 0,_,aB b8 1,_,aB b8 2,_,aB b8 3,_,rfl,?_⟩;simp only[qt,Nat.zero_add,Nat.reduceAdd];refine⟨⟨_,aB bG8 1⟩,aD bG8 1,⟨_,aB t1 2⟩,aD t1 2,⟨_,aB t2 3⟩,aD t2 3,⟨_,aB t3 4⟩,aD t3 4,_,rfl,?_⟩;simp only[qt,Nat.zero_add,Nat.reduceAdd];refine⟨⟨_,aB t4 5⟩,aD t4 5,trivial,⟨?_,h.low,?_⟩,?_⟩
    · have:bits++(dT gaps++(e.add ::(dT fst++dT snd)))=bits++dT gaps++[e.add]++dT fst++dT snd:=by simp[List.append_assoc]
      rw[this];refine RH.kp K9 (fun k hk ht e=>?_);subst e;exact pW bG8 Ol ht
    · exact Eq.trans (b:=some (.cells #[.pointer (some ⟨g,0,none⟩),.int .i64 e.t,.int .u32 e.u,.int .u32 e.v,.bool e.add,.bool true] 166 (0,0))) (by simpa using t5) rfl
    · exact(Kw8.mono (fun k _ h=>.inl h)).then K9 (fun k _ h=>.inr h)
theorem nE.mem{l:List aS}(h:nE l){e:aS}(he:e∈l):(0<=e.u/\e.u<=4294967295)/\0<=e.v/\e.v<=4294967295:=(h e he).1
theorem uX {w:World} {A:OA} {n c:Nat} {l:List aS} {t0:Int} (hr:aZ w A (cE l)) (hn:n=l.length) (hl:n<=2^19) (hb:nE l) :
    Calls P 67 #[.int .i64 t0,.slice A n c] w fun ev w'=>∃(A':OA)(n' c':Nat),ev=.returned (.tuple #[.slice A' n' c',.int .i64 (if kG t0 none l=true then 0 else 23)])/\aE w' w.heap.size 5 1 A' n' c' (bY (if kG t0 none l=true then eL t0 l else []))/\w.grownBy w' none:=by
  apply vc67;dsimp only[VC67,rt,Wt,Br,Rd,Ix,Ws,cB,cS,cU,nb,ad,al,iq]
  try simp only[aG]
  refine(xI (t0:=t0) hr hn (by omega)).mono fun ev w1 hh=>?_;obtain⟨rfl,g1⟩:=hh;refine⟨_,rfl,fun h=>?_,fun h=>?_⟩
  · rw[h];exact⟨_,_,_,rfl,aE.nil _ _ _ _,g1⟩
  have hd:kG t0 none l=true:=by simpa using h
  rw[hd];have hD:=(ly hb).1 hd;have FT:=jR (fun q hq=>by cases hq) hD;refine(mH (base:=w.heap.size) g1.size).mono fun ev w2 hh=>?_;obtain⟨rfl,KT,g2⟩:=hh;have g3:=World.grownBy_alloc w2 (.cells #[.pointer (some ⟨w1.heap.size,0,none⟩),.int .i64 t0,.int .u32 0,.int .u32 0,.bool false,.bool false] 166) none;have b3:(w2.alloc (.cells #[.pointer (some ⟨w1.heap.size,0,none⟩),.int .i64 t0,.int .u32 0,.int .u32 0,.bool false,.bool false] 166)).heap[w2.heap.size]?=some (.cells #[.pointer (some ⟨w1.heap.size,0,none⟩),.int .i64 t0,.int .u32 0,.int .u32 0,.bool false,.bool false] 166 (0,0)):=heap_alloc_new w2 _;have GH:=aA g1 g2;have IX:w.heap.size<=w2.heap.size:=GH.size;obtain⟨w3,Gr⟩:∃ w3,w3=w2.alloc (.cells #[.pointer (some ⟨w1.heap.size,0,none⟩),.int .i64 t0,.int .u32 0,.int .u32 0,.bool false,.bool false] 166):=⟨_,rfl⟩;refine⟨_,rfl,?_⟩;rw[← Gr]at g3 b3 ⊢;have D0:DWr w3 w.heap.size w1.heap.size w2.heap.size t0 none []:=⟨KT.kept g3,IX,b3⟩;have F9:=aA GH g3;refine⟨fun m i w'=>∃ p:Nat,i=(p:Int)/\p<=l.length/\l.length-p=m/\w.grownBy w' none/\DWr w' w.heap.size w1.heap.size w2.heap.size t0 (d9 (l.take p) none) (dS t0 none (l.take p)),⟨_,0,rfl,by omega,rfl,F9,by simpa[d9,dS]using D0⟩,?_⟩;rintro m i w4 ⟨p,rfl,hp,rfl,hg,hW⟩;have tp:(p:Int).toNat=p:=by omega
  rw[tp];refine⟨fun FP=>?_,fun FU=>?_⟩
  · have lp:p<l.length:=by omega
    obtain⟨a,e1,e2,e3,e4,e5⟩:=ey (hr.kept_none hg) lp;obtain⟨w5,hE,pE0,qE0,pE1,qE1,pE2,qE2,pE3,qE3,bE,gE⟩:=uC w4 62 (.int .i64 0) (.int .u32 0) (.int .u32 0) (.bool false) (.int .i64 l[p].t) (.int .u32 l[p].u) (.int .u32 l[p].v) (.bool l[p].add);refine⟨a,e1,by omega,by omega,_,e2,_,e3,_,e4,_,e5,pE0,qE0,pE1,qE1,pE2,qE2,pE3,qE3,?_⟩;rw[← hE];have NJ:l=l.take p++(l[p] ::l.drop (p+1)):=by rw[← List.drop_eq_getElem_cons lp,List.take_append_drop]
    have LH:=hD;rw[NJ,dZ.append]at LH;obtain⟨R0,KY,_⟩:=LH;have Ow:=jR (fun q hq=>by cases hq) R0;have Jj:(l.take p).length<=2^19:=by rw[List.length_take];omega
    have GS:∀ q,d9 (l.take p) none=some q->q∈l:=by
      intro q hq;cases p with
      | zero=>simp[d9]at hq
      | succ p =>
        rw[List.take_succ_eq_append_getElem (show p<l.length by omega),gx]at hq;cases hq;exact List.getElem_mem _
    have KV:jy (d9 (l.take p) none):=by
      intro q hq;have h1:=hb.mem (GS q hq);obtain⟨j,hj,rfl⟩:=List.mem_iff_getElem.1 (GS q hq);have h2:=(j6.1 hd).1 _ (GS _ hq);omega
    refine⟨_,aB bE 0,_,aB bE 1,_,aB bE 2,_,aB bE 3,(y7 (e:=l[p]) (⟨hW.wr.kept gE,hW.low,aF hW.blk gE⟩:DWr w5 _ _ _ _ _ _) KY KV (fun q hq=>by have:=hb.mem (GS q hq);omega) (by omega) (Nat.le_trans hg.size gE.size) ?_).mono fun ev w6 hh=>?_⟩
    · by_cases Ls:p=0
      · left;subst Ls;have:=KY.1;have h2:=KY.2.2;simp[d9]at h2;omega
      · right;obtain⟨k,rfl⟩:∃ k,p=k+1:=⟨p-1,by omega⟩;rw[List.take_succ_eq_append_getElem (show k<l.length by omega),gx];simp
    · obtain⟨rfl,h6,K6⟩:=hh;refine⟨rfl,by omega,_,?_,p+1,by omega,by omega,rfl,(((Kp.of_none (S:=fun k=>w.heap.size<=k) (aA hg gE)).then K6 (fun k _ h=>by rcases h with h | h;exact h.1;omega)).grown (fun k hk e=>by omega)),?_⟩
      · omega
      · rw[List.take_succ_eq_append_getElem lp,gx,my];have:dS t0 (d9 (l.take p) none) [l[p]]=xF t0 (d9 (l.take p) none) l[p]:=by simp[dS]
        rw[this];exact h6
  · have:p=l.length:=by omega
    subst this;rw[List.take_length]at hW;refine⟨_,rfl,_,aB hW.blk 0,(sD hW.wr (by omega)).mono fun ev w5 hh=>?_⟩;obtain⟨B,k,d,rfl,oB,g5⟩:=hh;exact⟨_,_,_,rfl,_,_,_,rfl,oB.mono hg.size,aA hg g5⟩
structure rp(w:World)(g gr:Nat)(A:OA)(n c:Nat)(l:List Int)(at_:Nat)(q:aS)(any ok:Bool):Prop where
 rd:jt w g A n c l at_
 blk:w.heap[gr]?=some (.cells #[.pointer (some ⟨g,0,none⟩),.int .i64 q.t,.int .u32 q.u,.int .u32 q.v,.bool q.add,.bool any,.bool ok] 192 (0,0))
 ne:g≠gr
 neA:∀ a,A=some a->l=[]∨a.block≠gr
theorem rp.kept{w w':World}{g gr:Nat}{A:OA}{n c:Nat}{l:List Int}{at_:Nat}{q:aS}{any ok:Bool}(h:rp w g gr A n c l at_ q any ok)(hg:w.grownBy w' none):rp w' g gr A n c l at_ q any ok :=
 ⟨h.rd.kept hg,aF h.blk hg,h.ne,h.neA⟩
theorem rp.mark{w:World}{g gr:Nat}{A:OA}{n c:Nat}{l:List Int}{at_:Nat}{q:aS}{any ok:Bool}(h:rp w g gr A n c l at_ q any ok)(b:Bool):
    rp (w.setCell ((⟨gr,0,none⟩:Addr).add 6) (.bool b)) g gr A n c l at_ q any b/\Kp w (w.setCell ((⟨gr,0,none⟩:Addr).add 6) (.bool b)) (fun k=>k=gr):=by
  rw[aP];have K:Kp w (w.setCell ⟨gr,6,none⟩ (.bool b)) (fun k=>k=gr):=cA (Kp.refl w _) rfl;exact⟨⟨h.rd.kp K h.ne (fun a ha=>h.neA a ha),by simpa using aH h.blk 6 (.bool b),h.ne,h.neA⟩,K⟩
theorem rp.flag{w:World}{g gr:Nat}{A:OA}{n c:Nat}{l:List Int}{at_:Nat}{q:aS}{any ok:Bool}(h:rp w g gr A n c l at_ q any ok):w.cell? ((⟨gr,0,none⟩:Addr).add 6)=some (.bool ok)/\w.frozen? ((⟨gr,0,none⟩:Addr).add 6)=false:=by
 rw[aP];exact⟨aB h.blk 6,aD h.blk 6⟩
def vj(bs:List Bool)(most v:Int)(k:Nat)(b:Bool):Prop:=(∃ v' k',qU bs=some (v',k')/\v=v'/\k=k'/\b=decide (v'<=most))∨(qU bs=none/\v=0/\k=0/\b=false)
theorem pC{w:World}{g gr:Nat}{A:OA}{n c:Nat}{l:List Int}{at_:Nat}{q:aS}{any ok:Bool}{most:Int}(h:rp w g gr A n c l at_ q any ok)(hl:l.length<=2^40)(hb:aW l):
    Calls P 165 #[.pointer (some ⟨gr,0,none⟩),.int .u64 most] w fun ev w'=>∃(v:Int)(k:Nat)(b:Bool),ev=.returned (.int .u64 v)/\vj ((aX l).drop at_) most v k b/\rp w' g gr A n c l (at_+k) q any (ok && b)/\Kp w w' (fun k=>k=g∨k=gr):=by
  apply vc165;dsimp only[VC165,Wt,Bb];refine⟨_,rfl,_,aB h.blk 0,(yS h.rd hl hb).mono fun ev w1 hh=>?_⟩;obtain⟨K1,hG⟩:=hh;have OI:=(Array.getElem?_eq_some_iff.1 h.blk).1;have b1:w1.heap[gr]?=some (.cells #[.pointer (some ⟨g,0,none⟩),.int .i64 q.t,.int .u32 q.u,.int .u32 q.v,.bool q.add,.bool any,.bool ok] 192 (0,0)):=by rw[K1.block gr OI (fun e=>h.ne e.symm)];exact h.blk
  unfold DZ at hG;obtain⟨v,k,b,is,hR,he,hN,GA⟩:∃(v:Int)(k:Nat)(b is:Bool),jt w1 g A n c l (at_+k)/\ev=.returned (.tuple #[.int .u64 v,.bool is])/\vj ((aX l).drop at_) most v k b/\b=(is && decide (v<=most)):=by
    cases hT:qU ((aX l).drop at_)with
    | none =>
      rw[hT]at hG;exact⟨0,0,false,false,hG.2,hG.1,.inr ⟨hT,rfl,rfl,rfl⟩,rfl⟩
    | some x =>
      obtain⟨v,k⟩:=x;rw[hT]at hG;exact⟨v,k,decide (v<=most),true,hG.2,hG.1,.inl ⟨v,k,hT,rfl,rfl,rfl⟩,by simp⟩
  have hD:rp w1 g gr A n c l (at_+k) q any ok:=⟨hR,b1,h.ne,h.neA⟩;have st:∀ b':Bool,b'=(ok && b)->∃(v':Int)(k:Nat)(b:Bool),Ending.returned (.int .u64 v)=.returned (.int .u64 v')/\vj ((aX l).drop at_) most v' k b/\rp (World.setCell w1 ((⟨gr,0,none⟩:Addr).add 6) (.bool b')) g gr A n c l (at_+k) q any (ok && b)/\Kp w (World.setCell w1 ((⟨gr,0,none⟩:Addr).add 6) (.bool b')) (fun k=>k=g∨k=gr):=by
    intro b' Hv;obtain⟨m1,m2⟩:=hD.mark b';exact⟨v,k,b,rfl,hN,by rw[← Hv];exact m1,(K1.mono (fun k _ h=>.inl h)).then m2 (fun k _ h=>.inr h)⟩
  refine⟨v,is,he,_,rfl,ok,hD.flag.1,fun ho=>⟨fun hi=>⟨_,rfl,⟨_,hD.flag.1⟩,hD.flag.2,st _ ?_⟩,fun hi=>⟨_,rfl,⟨_,hD.flag.1⟩,hD.flag.2,st _ ?_⟩⟩,fun ho=>⟨_,rfl,⟨_,hD.flag.1⟩,hD.flag.2,st _ ?_⟩⟩
  · rw[ho,GA,hi];rfl
  · rw[ho,GA,hi];rfl
  · rw[ho];rfl
theorem vj.ok{bs:List Bool}{most v:Int}{k:Nat}{b:Bool}(h:vj bs most v k b)(hb:b=true):1<=v/\v<=most/\0<k/\k<=bs.length:=by
 rcases h with⟨v',k',h1,rfl,rfl,rfl⟩ | ⟨_,_,_,rfl⟩
 ·have:=EP h1;have:=of_decide_eq_true hb;omega
 ·cases hb
theorem vj.put{bs rest:List Bool}{most v:Int}{k x:Nat}{b:Bool}(h:vj bs most v k b)(hx:0<x/\x<2^64)(hm:(x:Int)<=most)(he:bs=dT x++rest):v=(x:Int)/\k=(dT x).length/\b=true/\bs.drop k=rest:=by
 have ht:=uO hx.1 hx.2 rest;rw[← he]at ht;rcases h with⟨v',k',h1,rfl,rfl,rfl⟩ | ⟨h1,_⟩
 ·rw[ht]at h1;simp only[Option.some.injEq,Prod.mk.injEq]at h1;obtain⟨rfl,rfl⟩:=h1;exact⟨rfl,rfl,by simpa using hm,by rw[he,List.drop_left' rfl]⟩
 ·rw[ht]at h1;cases h1
def vh(e:aS):Prop:=(0<=e.t/\e.t<=4611686018427387903)/\0<=e.u/\e.u<e.v/\e.v<=4294967295
theorem CW(x:Int):0<=IntKind.u32.wrap x/\IntKind.u32.wrap x<=4294967295:=by
 have h:IntKind.u32.wrap x=x % 4294967296:=rfl;rw[h];omega
theorem nH{x:Int}(hx:0<=x/\x<=4294967295):IntKind.u32.wrap x=x:=by
 have h:IntKind.u32.wrap x=x % 4294967296:=rfl;rw[h];omega
theorem xJ {w : World} {g gr:Nat} {A:OA} {n c:Nat} {l:List Int} {at_:Nat} {t0:Int} {p:Option aS} (h:rp w g gr A n c l at_ (bS t0 p) p.isSome true) (hl:l.length<=2^40) (hb:aW l) (MR:0<=t0/\t0<=4611686018427387903) (hp:∀ q,p=some q->vh q) :
    Calls P 124 #[.pointer (some ⟨gr,0,none⟩)] w fun ev w'=>∃(e:aS)(at':Nat)(p':Option aS)(ok:Bool),ev=.returned (evtV e)/\rp w' g gr A n c l at' (bS t0 p') p'.isSome ok/\Kp w w' (fun k=>k=g∨k=gr)/\(0<=e.u/\e.u<=4294967295)/\(0<=e.v/\e.v<=4294967295)/\(-9223372036854775808<=e.t/\e.t<=9223372036854775807)/\at_<=at' ∧
      (ok=true->p'=some e/\vh e/\at_<at') ∧
      ∀ e0 rest,Bh t0 p e0->(aX l).drop at_=xF t0 p e0++rest->ok=true/\e=e0/\(aX l).drop at'=rest:=by
  apply vc124;dsimp only[VC124,Wt,Br,Bb,Rd,Ws,cI,nb,iq]
  try simp only[aG]
  have hq:(0<=(bS t0 p).t/\(bS t0 p).t<=4611686018427387903)/\(0<=(bS t0 p).u/\(bS t0 p).u<=4294967295)/\0<=(bS t0 p).v/\(bS t0 p).v<=4294967295/\(p.isSome=true->(bS t0 p).u<(bS t0 p).v):=by
    cases p with
    | none=>simp[bS];omega
    | some q=>have:=hp q rfl;unfold vh at this;simp[bS];omega
  have KV:jy p:=fun q hq=>by have:=hp q hq;unfold vh at this;omega
  have MH:=px t0 p;have MI:=pz t0 p;have MD:=pw t0 p;obtain⟨q,NS⟩:∃ q,q=bS t0 p:=⟨_,rfl⟩;obtain⟨any,I2⟩:∃ any,any=p.isSome:=⟨_,rfl⟩;rw[← NS,← I2]at h;rw[← NS]at hq MH MI MD;rw[← I2]at hq MI MD;have Q9:=(Array.getElem?_eq_some_iff.1 h.blk).1;have OM:=(Array.getElem?_eq_some_iff.1 h.rd.blk).1;obtain⟨w0,HD,g0,b0⟩:=fQ w #[.int .i64 0,.int .u32 0,.int .u32 0,.bool false] 62;rw[← HD];have keepR:∀ {W W':World},W.heap[w.heap.size]?=some (.cells #[.int .i64 0,.int .u32 0,.int .u32 0,.bool false] 62 (0,0))->Kp W W' (fun k=>k=g∨k=gr)->W'.heap[w.heap.size]?=some (.cells #[.int .i64 0,.int .u32 0,.int .u32 0,.bool false] 62 (0,0)):=by
    intro W W' hB hK;rw[hK.block _ (Array.getElem?_eq_some_iff.1 hB).1 (by omega)];exact hB
  refine(pC (most:=4611686018427387904) (h.kept g0) hl hb).mono fun ev w1 hh=>?_;obtain⟨tv,k1,o1,rfl,N1,D1,K1⟩:=hh;rw[Bool.true_and]at D1;have Ld:=keepR b0 K1;refine⟨_,rfl,_,rfl,_,aB D1.blk 0,(lK (k:=1) D1.rd hl hb (by omega)).mono fun ev w2 hh=>?_⟩;obtain⟨K2,Wk⟩:=hh;have Q8:=(Array.getElem?_eq_some_iff.1 D1.blk).1
  obtain⟨sv,o2,k2,Rf,D2,LG⟩:∃(sv:Int)(o2:Bool)(k2:Nat),ev=.returned (.tuple #[.int .u64 sv,.bool o2])/\rp w2 g gr A n c l (at_+k1+k2) q any o1 ∧
      ((o2=true/\k2=1/\at_+k1+1<=8*l.length/\sv=fy (fb l (at_+k1)))∨(o2=false/\k2=0/\sv=0/\8*l.length<at_+k1+1)):=by
    have LF:w2.heap[gr]?=_:=(K2.block gr Q8 (fun e=>h.ne e.symm)).trans D1.blk;rcases Wk with⟨r1,r2,r3⟩ | ⟨r1,r2,r3⟩
    · rw[qH r1]at r2;exact⟨_,true,1,r2,⟨r3,LF,h.ne,h.neA⟩,.inl ⟨rfl,rfl,r1,rfl⟩⟩
    · exact⟨_,false,0,r2,⟨r3,LF,h.ne,h.neA⟩,.inr ⟨rfl,rfl,rfl,r1⟩⟩
  have Lb:=keepR Ld (K2.mono (fun k _ h=>.inl h));refine⟨sv,o2,Rf,(pC (most:=4294967296) D2 hl hb).mono fun ev w3 hh=>?_⟩;obtain⟨uv,k3,o3,rfl,N3,D3,K3⟩:=hh;have LI:=keepR Lb K3;refine⟨_,rfl,(pC (most:=4294967296) D3 hl hb).mono fun ev w4 hh=>?_⟩;obtain⟨vv,k4,o4,rfl,N4,D4,K4⟩:=hh;have TC:=keepR LI K4;have Kw4:Kp w w4 (fun k=>k=g∨k=gr):=((((Kp.of_none (S:=fun k=>k=g∨k=gr) g0).then K1 (fun k _ h=>h)).then K2 (fun k _ h=>.inl h)).then K3 (fun k _ h=>h)).then K4 (fun k _ h=>h);have lenb:∀ a:Nat,((aX l).drop a).length=8*l.length-a:=fun a=>by rw[List.length_drop,eo]
  -- what comes of bits that begin with an event's
  have cond:∀ e0 rest,Bh t0 p e0->(aX l).drop at_=xF t0 p e0++rest->tv=(ii t0 p e0:Int)/\o1=true/\o2=true/\sv=fy e0.add/\uv=(jB p e0:Int)/\o3=true/\vv=(jr p e0:Int)/\o4=true/\(aX l).drop (at_+k1+k2+k3+k4)=rest:=by
    intro e0 rest he Gv;have hn:=he.nums KV;unfold xF at Gv;simp only[List.append_assoc,List.cons_append]at Gv;obtain⟨c1,c2,c3,c4⟩:=N1.put ⟨by unfold ii;omega,by omega⟩ (by have:=he.1;have:=he.2.2;rw[MH];have:=hq.1;omega) Gv;rw[List.drop_drop]at c4;have SJ:at_+k1<8*l.length:=by
      have:=congrArg List.length c4;rw[lenb]at this;simp at this;omega
    have hd:=q7 (l:=l) (at_:=at_+k1) (by omega);rw[hd]at c4;simp only[List.cons.injEq]at c4;rcases LG with⟨s1,s2,s3,s4⟩ | ⟨s1,s2,s3,s4⟩
    · subst s2;obtain⟨c5,c6,c7,c8⟩:=N3.put ⟨hn.2.1.1,by omega⟩ (by omega) c4.2;rw[List.drop_drop]at c8;obtain⟨c9,c10,c11,c12⟩:=N4.put ⟨hn.2.2.1,by omega⟩ (by omega) c8;rw[List.drop_drop]at c12;exact⟨c1,c3,s1,by rw[s4,c4.1],c5,c7,c9,c11,c12⟩
    · omega
  refine⟨_,rfl,fun W=>rp W g gr A n c l (at_+k1+k2+k3+k4) q any (((o1 && o3) && o4) && o2)/\Kp w W (fun k=>k=g∨k=gr)/\W.heap[w.heap.size]?=some (.cells #[.int .i64 0,.int .u32 0,.int .u32 0,.bool false] 62 (0,0)),⟨_,rfl,_,D4.flag.1,fun ho=>⟨_,rfl,⟨_,D4.flag.1⟩,D4.flag.2,?_⟩,fun ho=>⟨_,rfl,⟨_,D4.flag.1⟩,D4.flag.2,?_⟩⟩,?_⟩
  · obtain⟨m1,m2⟩:=D4.mark o2;rw[ho,Bool.true_and];exact⟨m1,Kw4.then m2 (fun k _ h=>.inr h),keepR TC (m2.mono (fun k _ h=>.inr h))⟩
  · obtain⟨m1,m2⟩:=D4.mark false;rw[ho,Bool.false_and];exact⟨m1,Kw4.then m2 (fun k _ h=>.inr h),keepR TC (m2.mono (fun k _ h=>.inr h))⟩
  rintro w5 ⟨D5,K5,Ib⟩;generalize SB:(((o1 && o3) && o4) && o2)=oo at D5;have Hr:w.heap.size≠gr/\w.heap.size≠g:=by omega
  refine⟨_,rfl,oo,D5.flag.1,fun hf=>?_,fun ht=>?_⟩
  · -- it ends VB
    subst hf;have s1:=aH Ib 0 (.int .i64 0);have s2:=aH s1 1 (.int .u32 0);have s3:=aH s2 2 (.int .u32 0);have s4:=aH s3 3 (.bool false);have K6:Kp w5 ((((w5.setCell ⟨w.heap.size,0,none⟩ (.int .i64 0)).setCell ⟨w.heap.size,1,none⟩ (.int .u32 0)).setCell ⟨w.heap.size,2,none⟩ (.int .u32 0)).setCell ⟨w.heap.size,3,none⟩ (.bool false)) (fun k=>k=w.heap.size):=cA (cA (cA (cA (Kp.refl w5 _) rfl) rfl) rfl) rfl;refine⟨⟨_,aB Ib 0⟩,aD Ib 0,⟨_,aB s1 1⟩,aD s1 1,⟨_,aB s2 2⟩,aD s2 2,⟨_,aB s3 3⟩,aD s3 3,_,aB s4 0,_,aB s4 1,_,aB s4 2,_,aB s4 3,⟨0,0,0,false⟩,at_+k1+k2+k3+k4,p,false,rfl,?_,?_,by simp,by simp,by simp,by omega,fun h=>(by cases h),fun e0 rest he Gv=>?_⟩
    · rw [← NS,← I2]
      exact ⟨D5.rd.kp K6 (fun e=>Hr.2 e.symm) (fun a ha=>(D5.rd.row.blk (w:=w5) |>fun _=>by
          by_cases hx:l=[]
          · exact .inl hx
          · obtain⟨b,e1,e2⟩:=h.rd.row.blk (by intro e;exact hx (by simpa[bY]using e));rw[ha]at e1;cases e1;exact .inr (by omega))),by rw[K6.block gr (Array.getElem?_eq_some_iff.1 D5.blk).1 (by omega)];exact D5.blk,h.ne,h.neA⟩
    · exact K5.step (r:=some w.heap.size) ⟨K6.os,K6.tape,K6.output,K6.size,fun k hk hr=>K6.block k hk (fun e=>hr (by rw[e]))⟩ (fun k hk=>by cases hk;exact .inl (Nat.le_refl _))
    · have:=cond e0 rest he Gv;rw[this.2.1,this.2.2.1,this.2.2.2.2.2.1,this.2.2.2.2.2.2.2.1]at SB;simp at SB
  · have Ul : oo=true:=by simpa using ht
    subst Ul;have PI:o1=true/\o3=true/\o4=true/\o2=true:=by
      cases o1 <;>cases o3 <;>cases o4 <;>cases o2 <;>simp_all
    have n1:=N1.ok PI.1;have n3:=N3.ok PI.2.1;have n4:=N4.ok PI.2.2.1;rw[lenb]at n1 n3 n4;have Ia:k2=1/\sv=fy (fb l (at_+k1)):=by
      rcases LG with⟨s1,s2,s3,s4⟩ | ⟨s1,_⟩
      · exact⟨s2,s4⟩
      · rw[PI.2.2.2]at s1;cases s1
    -- the event's block
    obtain⟨T,Pe⟩:∃ T,T=q.t+(tv-1):=⟨_,rfl⟩;have s0:(w5.alloc (.cells #[.int .i64 0,.int .u32 0,.int .u32 0,.bool false] 62)).heap[w5.heap.size]?=some (.cells #[.int .i64 0,.int .u32 0,.int .u32 0,.bool false] 62 (0,0)):=heap_alloc_new w5 _;have s1:=aH s0 0 (.int .i64 T);have s2:=aH s1 1 (.int .u32 0);have s3:=aH s2 2 (.int .u32 0);have s4:=aH s3 3 (.bool (decide (sv=1)));have gA:w5.grownBy ((((((w5.alloc (.cells #[.int .i64 0,.int .u32 0,.int .u32 0,.bool false] 62)).setCell ⟨w5.heap.size,0,none⟩ (.int .i64 T)).setCell ⟨w5.heap.size,1,none⟩ (.int .u32 0)).setCell ⟨w5.heap.size,2,none⟩ (.int .u32 0)).setCell ⟨w5.heap.size,3,none⟩ (.bool (decide (sv=1))))) none :=
      (cA (cA (cA (cA (Kp.of_none (S:=fun k=>w5.heap.size<=k) (ic (aC w5 none) _)) (Nat.le_refl _)) (Nat.le_refl _)) (Nat.le_refl _)) (Nat.le_refl _)).grown (fun k hk e=>by omega)
    have bA:((((((w5.alloc (.cells #[.int .i64 0,.int .u32 0,.int .u32 0,.bool false] 62)).setCell ⟨w5.heap.size,0,none⟩ (.int .i64 T)).setCell ⟨w5.heap.size,1,none⟩ (.int .u32 0)).setCell ⟨w5.heap.size,2,none⟩ (.int .u32 0)).setCell ⟨w5.heap.size,3,none⟩ (.bool (decide (sv=1))))).heap[w5.heap.size]?=some (.cells #[.int .i64 T,.int .u32 0,.int .u32 0,.bool (decide (sv=1))] 62 (0,0)):=by simpa using s4
    refine⟨_,rfl,_,by rw[aP];exact aB D5.blk 1,by omega,by omega,by omega,?_⟩;rw[← Pe];refine⟨⟨_,aB s0 0⟩,aD s0 0,⟨_,aB s1 1⟩,aD s1 1,⟨_,aB s2 2⟩,aD s2 2,⟨_,aB s3 3⟩,aD s3 3,by omega,?_⟩;obtain⟨w6,Nz⟩:∃ w6,w6=(((((w5.alloc (.cells #[.int .i64 0,.int .u32 0,.int .u32 0,.bool false] 62)).setCell ⟨w5.heap.size,0,none⟩ (.int .i64 T)).setCell ⟨w5.heap.size,1,none⟩ (.int .u32 0)).setCell ⟨w5.heap.size,2,none⟩ (.int .u32 0)).setCell ⟨w5.heap.size,3,none⟩ (.bool (decide (sv=1)))):=⟨_,rfl⟩;rw[← Nz]at gA bA ⊢;have D6:=D5.kept gA;have La:=aF Ib gA;have K6:Kp w w6 (fun k=>k=g∨k=gr):=K5.then (Kp.of_none gA) (fun k _ h=>h)
    -- the vertices
    obtain⟨U,hU⟩:∃ U:Int,U=if any=true/\tv=1 then uv-1+q.u else uv-1:=⟨_,rfl⟩;obtain⟨Bs,Jx⟩:∃ Bs:Int,Bs=if(any=true/\tv=1)/\U=q.u then q.v-U else 0:=⟨_,rfl⟩;have XI:0<=U/\U<=8589934592:=by rw[hU];split <;>omega
    have X0:0<=Bs/\Bs<=4294967295:=by
      rw[Jx];split
      · rename_i hc;have:=hq.2.2.2.2 hc.1.1;omega
      · omega
    refine⟨fun u b W=>u=U/\b=Bs/\W=w6,⟨fun b W=>b=(any && decide (tv=1))/\W=w6,⟨_,rfl,_,by rw[aP];exact aB D6.blk 5,fun ha=>⟨by rw[ha];rfl,rfl⟩,fun ha=>⟨by rw[ha];rfl,rfl⟩⟩,?_⟩,?_⟩
    · rintro b W ⟨GA,rfl⟩;refine⟨fun Kr=>?_,fun IA=>⟨?_,?_,rfl⟩⟩
      · rw[Kr]at GA;have Hv:=GA.symm;simp only[Bool.and_eq_true,decide_eq_true_eq]at Hv;rw[if_pos Hv]at hU;refine⟨_,rfl,_,by rw[fl,aP];exact aB D6.blk 2,by omega,by omega,fun bb W'=>bb=Bs/\W'=W,⟨_,rfl,_,by rw[fl,aP];exact aB D6.blk 2,by omega,fun hs=>?_,fun hs=>⟨?_,rfl⟩⟩,?_⟩
        · rw[if_pos ⟨Hv,by omega⟩]at Jx;have:=hq.2.2.2.2 Hv.1;refine⟨_,rfl,_,by rw[fl,fl,aP];exact aB D6.blk 3,by omega,by omega,by omega,rfl⟩
        · rw[if_neg (by rintro⟨_,h2⟩;omega)]at Jx;exact Jx.symm
        · rintro bb W' ⟨rfl,rfl⟩;exact⟨by omega,rfl,rfl⟩
      · have:¬ (any=true/\tv=1):=by rintro⟨a1,a2⟩;rw[a1,IA]at GA;simp[a2]at GA
        rw[if_neg this]at hU;omega
      · have:¬ (any=true/\tv=1):=by rintro⟨a1,a2⟩;rw[a1,IA]at GA;simp[a2]at GA
        rw[if_neg (fun hc=>this hc.1)]at Jx;exact Jx.symm
    · rintro u bs W ⟨rfl,rfl,rfl⟩;obtain⟨V,hV⟩:∃ V,V=vv+(u+bs):=⟨_,rfl⟩;refine⟨by omega,by omega,?_⟩;rw[← hV];obtain⟨o7,MY⟩:∃ o7:Bool,o7=(decide (T<=4611686018427387903) && (decide (u<=4294967295) && decide (V<=4294967295))):=⟨_,rfl⟩;refine⟨fun W'=>rp W' g gr A n c l (at_+k1+k2+k3+k4) q any o7/\Kp w W' (fun k=>k=g∨k=gr)/\W'.heap[w.heap.size]?=some (.cells #[.int .i64 0,.int .u32 0,.int .u32 0,.bool false] 62 (0,0))/\W'.heap[w5.heap.size]?=some (.cells #[.int .i64 T,.int .u32 0,.int .u32 0,.bool (decide (sv=1))] 62 (0,0)),?_,?_⟩
      · have l5:w.heap.size<w5.heap.size:=(Array.getElem?_eq_some_iff.1 Ib).1;have st:∀ b:Bool,b=o7->rp (W.setCell ((⟨gr,0,none⟩:Addr).add 6) (.bool b)) g gr A n c l (at_+k1+k2+k3+k4) q any o7/\Kp w (W.setCell ((⟨gr,0,none⟩:Addr).add 6) (.bool b)) (fun k=>k=g∨k=gr)/\(W.setCell ((⟨gr,0,none⟩:Addr).add 6) (.bool b)).heap[w.heap.size]?=some (.cells #[.int .i64 0,.int .u32 0,.int .u32 0,.bool false] 62 (0,0))/\(W.setCell ((⟨gr,0,none⟩:Addr).add 6) (.bool b)).heap[w5.heap.size]?=some (.cells #[.int .i64 T,.int .u32 0,.int .u32 0,.bool (decide (sv=1))] 62 (0,0)):=by
          rintro b rfl;obtain⟨m1,m2⟩:=D6.mark b;refine⟨m1,K6.then m2 (fun k _ h=>.inr h),keepR La (m2.mono (fun k _ h=>.inr h)),?_⟩;rw[m2.block _ (Array.getElem?_eq_some_iff.1 bA).1 (by omega)];exact bA
        refine⟨_,aB bA 0,fun c1=>⟨fun c2=>⟨_,rfl,⟨_,D6.flag.1⟩,D6.flag.2,st _ ?_⟩,fun c2=>⟨_,rfl,⟨_,D6.flag.1⟩,D6.flag.2,st _ ?_⟩⟩,fun c1=>⟨_,rfl,⟨_,D6.flag.1⟩,D6.flag.2,st _ ?_⟩⟩
        · rw[MY];simp[c1,c2]
        · rw[MY];simp;omega
        · rw[MY];simp;omega
      · rintro w7 ⟨D7,K7,TB,bE7⟩;have l5:w.heap.size<w5.heap.size:=(Array.getElem?_eq_some_iff.1 Ib).1;have T9:=CW u;have T8:=CW V;obtain⟨Eu,P1⟩:∃ Eu,Eu=IntKind.u32.wrap u:=⟨_,rfl⟩;obtain⟨Ev,P0⟩:∃ Ev,Ev=IntKind.u32.wrap V:=⟨_,rfl⟩;rw[← P1,← P0];have r1:=aH bE7 1 (.int .u32 Eu);have r2:=aH r1 2 (.int .u32 Ev);have K8:Kp w7 ((w7.setCell ⟨w5.heap.size,1,none⟩ (.int .u32 Eu)).setCell ⟨w5.heap.size,2,none⟩ (.int .u32 Ev)) (fun k=>k=w5.heap.size):=cA (cA (Kp.refl w7 _) rfl) rfl;have bE8:((w7.setCell ⟨w5.heap.size,1,none⟩ (.int .u32 Eu)).setCell ⟨w5.heap.size,2,none⟩ (.int .u32 Ev)).heap[w5.heap.size]?=some (.cells #[.int .i64 T,.int .u32 Eu,.int .u32 Ev,.bool (decide (sv=1))] 62 (0,0)):=by simpa using r2
        refine⟨⟨_,aB bE7 1⟩,aD bE7 1,⟨_,aB r1 2⟩,aD r1 2,?_⟩;obtain⟨w8,Ub⟩:∃ w8,w8=(w7.setCell ⟨w5.heap.size,1,none⟩ (.int .u32 Eu)).setCell ⟨w5.heap.size,2,none⟩ (.int .u32 Ev):=⟨_,rfl⟩;rw[← Ub]at K8 bE8 ⊢;have bR8:w8.heap[gr]?=_:=(K8.block gr (Array.getElem?_eq_some_iff.1 D7.blk).1 (by have:=Q9;omega)).trans D7.blk;have TA:w8.heap[w.heap.size]?=_:=(K8.block _ (Array.getElem?_eq_some_iff.1 TB).1 (by omega)).trans TB;have t1:=aH bR8 1 (.int .i64 T);have t2:=aH t1 2 (.int .u32 Eu);have t3:=aH t2 3 (.int .u32 Ev);have t4:=aH t3 4 (.bool (decide (sv=1)));have t5:=aH t4 5 (.bool true);have K9:Kp w8 (((((w8.setCell ⟨gr,1,none⟩ (.int .i64 T)).setCell ⟨gr,2,none⟩ (.int .u32 Eu)).setCell ⟨gr,3,none⟩ (.int .u32 Ev)).setCell ⟨gr,4,none⟩ (.bool (decide (sv=1)))).setCell ⟨gr,5,none⟩ (.bool true)) (fun k=>k=gr):=cA (cA (cA (cA (cA (Kp.refl w8 _) rfl) rfl) rfl) rfl) rfl;refine⟨_,aB bE8 0,_,aB bE8 1,_,aB bE8 2,_,aB bE8 3,_,rfl,?_⟩;simp only[qt,Nat.zero_add,Nat.reduceAdd];refine⟨⟨_,aB bR8 1⟩,aD bR8 1,⟨_,aB t1 2⟩,aD t1 2,⟨_,aB t2 3⟩,aD t2 3,⟨_,aB t3 4⟩,aD t3 4,_,rfl,?_⟩;simp only[qt,Nat.zero_add,Nat.reduceAdd];refine⟨⟨_,aB t4 5⟩,aD t4 5,?_⟩;obtain⟨w9,LP⟩:∃ w9,w9=((((w8.setCell ⟨gr,1,none⟩ (.int .i64 T)).setCell ⟨gr,2,none⟩ (.int .u32 Eu)).setCell ⟨gr,3,none⟩ (.int .u32 Ev)).setCell ⟨gr,4,none⟩ (.bool (decide (sv=1)))).setCell ⟨gr,5,none⟩ (.bool true):=⟨_,rfl⟩;have bR9:w9.heap[gr]?=some (.cells #[.pointer (some ⟨g,0,none⟩),.int .i64 T,.int .u32 Eu,.int .u32 Ev,.bool (decide (sv=1)),.bool true,.bool o7] 192 (0,0)):=by rw[LP];simpa using t5
        rw[← LP]at K9 ⊢;have bE9:w9.heap[w5.heap.size]?=_:=(K9.block _ (Array.getElem?_eq_some_iff.1 bE8).1 (by omega)).trans bE8;have R5:w9.heap[w.heap.size]?=_:=(K9.block _ (Array.getElem?_eq_some_iff.1 TA).1 (by omega)).trans TA;have v1:=aH R5 0 (.int .i64 T);have v2:=aH v1 1 (.int .u32 Eu);have v3:=aH v2 2 (.int .u32 Ev);have v4:=aH v3 3 (.bool (decide (sv=1)));have K10:Kp w9 ((((w9.setCell ⟨w.heap.size,0,none⟩ (.int .i64 T)).setCell ⟨w.heap.size,1,none⟩ (.int .u32 Eu)).setCell ⟨w.heap.size,2,none⟩ (.int .u32 Ev)).setCell ⟨w.heap.size,3,none⟩ (.bool (decide (sv=1)))) (fun k=>k=w.heap.size):=cA (cA (cA (cA (Kp.refl w9 _) rfl) rfl) rfl) rfl;have Kall:Kp w ((((w9.setCell ⟨w.heap.size,0,none⟩ (.int .i64 T)).setCell ⟨w.heap.size,1,none⟩ (.int .u32 Eu)).setCell ⟨w.heap.size,2,none⟩ (.int .u32 Ev)).setCell ⟨w.heap.size,3,none⟩ (.bool (decide (sv=1)))) (fun k=>k=g∨k=gr):=by
          have a1:Kp w w9 (fun k=>k=g∨k=gr∨w.heap.size<=k):=((K7.mono (fun k _ h=>by rcases h with h | h;exact .inl h;exact .inr (.inl h))).then K8 (fun k _ h=>.inr (.inr (by omega)))).then K9 (fun k _ h=>.inr (.inl h));have a2:=a1.then K10 (fun k _ h=>.inr (.inr (by omega)));exact a2.mono (fun k hk h=>by omega)
        refine⟨_,aB bE9 0,_,aB bE9 1,_,aB bE9 2,_,aB bE9 3,⟨_,aB R5 0⟩,aD R5 0,⟨_,aB v1 1⟩,aD v1 1,⟨_,aB v2 2⟩,aD v2 2,⟨_,aB v3 3⟩,aD v3 3,_,aB v4 0,_,aB v4 1,_,aB v4 2,_,aB v4 3,⟨T,Eu,Ev,decide (sv=1)⟩,at_+k1+k2+k3+k4,some ⟨T,Eu,Ev,decide (sv=1)⟩,o7,rfl,⟨?_,?_,h.ne,h.neA⟩,Kall,by rw[P1];exact T9,by rw[P0];exact T8,by simp only;omega,by omega,fun ho=>?_,fun e0 rest he Gv=>?_⟩
        · have rowb:∀ a,A=some a->l=[]∨a.block<w.heap.size:=fun a ha=>by
            by_cases hx:l=[]
            · exact .inl hx
            · obtain⟨b,e1,e2⟩:=h.rd.row.blk (by intro e;exact hx (by simpa[bY]using e));rw[ha]at e1;cases e1;exact .inr e2
          exact((D7.rd.kp K8 (by omega) (fun a ha=>(rowb a ha).imp id (fun e=>by omega))).kp K9 (fun e=>h.ne e) (fun a ha=>h.neA a ha)).kp K10 (by omega) (fun a ha=>(rowb a ha).imp id (fun e=>by omega))
        · exact(K10.block gr (Array.getElem?_eq_some_iff.1 bR9).1 (by omega)).trans bR9
        · rw[ho]at MY;have IR:=MY.symm;simp only[Bool.and_eq_true,decide_eq_true_eq]at IR;have e1:Eu=u:=by rw[P1];exact nH (by omega)
          have e2:Ev=V:=by rw[P0];exact nH (by omega)
          refine⟨rfl,⟨⟨by simp only;omega,by simp only;omega⟩,by simp only;omega,by simp only;omega,by simp only;omega⟩,by omega⟩
        · obtain⟨c1,_,_,c4,c5,_,c7,_,c9⟩:=cond e0 rest he Gv;have hn:=he.nums KV;obtain⟨h1,h2,h3⟩:=he;rw[MH]at c1;rw[MI]at c5;rw[MD]at c7;have KB:q.t<=e0.t/\(any=true->e0.t=q.t->q.u<e0.u∨q.u=e0.u/\q.v<e0.v):=by
            cases p with
            | none=>simp only at h3;rw[I2,NS];simp[bS];omega
            | some q' =>
              simp only[eg]at h3;rw[I2,NS];simp only[bS,Option.getD_some];exact⟨by omega,fun _ _=>by omega⟩
          have Wh:T=e0.t:=by omega
          have Gm:(any=true/\tv=1)↔(any=true/\e0.t=q.t):=by
            constructor
            · rintro⟨a1,a2⟩;exact⟨a1,by omega⟩
            · rintro⟨a1,a2⟩;exact⟨a1,by omega⟩
          have Ui:u=e0.u:=by
            rw[hU];by_cases hc:any=true/\e0.t=q.t
            · rw[if_pos (Gm.2 hc)];rw[if_pos hc]at c5;have:=KB.2 hc.1 hc.2;omega
            · rw[if_neg (fun h=>hc (Gm.1 h))];rw[if_neg hc]at c5;omega
          have Ug:V=e0.v:=by
            rw[hV,Jx];by_cases hc:any=true/\e0.t=q.t
            · rw[if_pos hc]at c7;have:=KB.2 hc.1 hc.2;by_cases hd:e0.u=q.u
              · rw[if_pos ⟨Gm.2 hc,by omega⟩];rw[if_pos hd]at c7;omega
              · rw[if_neg (fun h=>hd (by omega))];rw[if_neg hd]at c7;omega
            · rw[if_neg hc]at c7;rw[if_neg (fun h=>hc (Gm.1 h.1))];omega
          have e1:Eu=e0.u:=by rw[P1,Ui];exact nH (by omega)
          have e2:Ev=e0.v:=by rw[P0,Ug];exact nH (by omega)
          refine⟨?_,?_,c9⟩
          · rw[MY];simp;omega
          · rw[Wh,e1,e2,c4];have:decide (fy e0.add=1)=e0.add:=by cases e0.add <;>rfl
            rw[this]
theorem rp.kp{w w':World}{S:Nat->Prop}{g gr:Nat}{A:OA}{n c:Nat}{l:List Int}{at_:Nat}{q:aS}{any ok:Bool}(h:rp w g gr A n c l at_ q any ok)(hk:Kp w w' S)(h1:¬ S g)(h2:¬ S gr)(h3:∀ a,A=some a->l=[]∨¬ S a.block):rp w' g gr A n c l at_ q any ok :=
 ⟨h.rd.kp hk h1 h3,(hk.block gr (Array.getElem?_eq_some_iff.1 h.blk).1 h2).trans h.blk,h.ne,h.neA⟩
def BS(x:List Int)(t0 count n:Int)(l:List aS):Prop:=dZ t0 none l/\(l.length:Int)=count/\(∀ e∈l,e.v<n)/\x=eL t0 l
def Fd(x:List Int)(t0 count n:Int)(ev:Ending)(w':World):Prop :=
 (∃(A':OA)(n' c':Nat)(l:List aS),ev=.returned (.tuple #[.slice A' n' c',.int .i64 0])/\aZ w' A' (cE l)/\n'=l.length/\n'<=c'/\(A'=none->c'=0)/\BS x t0 count n l) ∨
 (ev=.returned (.tuple #[.slice none 0 0,.int .i64 21])/\∀ l,¬ BS x t0 count n l)
theorem dZ.evtsB{t0:Int}:∀ {l:List aS} {p:Option aS},dZ t0 p l->nE l
 | [],_,_=>by intro e he;simp at he
 | a ::l,p,h=>by
  intro e he;rcases List.mem_cons.1 he with rfl | he
  ·have h1:=h.1.1;have h2:=h.1.2.1;omega
  ·exact(dZ.evtsB h.2) e he
theorem sA {w:World} {A:OA} {k c:Nat} {x:List Int} {t0 count n:Int} (hr:aZ w A (bY x)) (hk:k=x.length) (hc:k<=c) (hb:aW x) (hl:x.length<2^16) (Hj:count<=9223372036854775807) :
    Calls P 88 #[.slice A k c,.int .i64 t0,.int .i64 count,.int .u64 n] w fun ev w'=>w.grownBy w' none/\Fd x t0 count n ev w':=by
  apply vc88;dsimp only[VC88,rt,Wt,Br,Bb,Rd,Ap,Ws,cB,cT,nb,iq]
  try simp only[aG]
  have IX:∀ a,A=some a->x=[]∨a.block<w.heap.size:=fun a ha=>by
    by_cases hx:x=[]
    · exact .inl hx
    · obtain⟨b,e1,e2⟩:=hr.blk (by intro e;exact hx (by simpa[bY]using e));rw[ha]at e1;cases e1;exact .inr e2
  refine⟨fun b w'=>(b=true↔(0<count/\(t0<0∨t0>4611686018427387903))∨count<0)/\w'=w,⟨fun h=>⟨fun h1=>⟨by simp[h,h1],rfl⟩,fun h1=>⟨fun h2=>⟨by simp[h,h2],rfl⟩,fun h2=>⟨by simp;omega,rfl⟩⟩⟩,fun h=>⟨by simp;omega,rfl⟩⟩,?_⟩;rintro bad w1 ⟨Iq,rfl⟩;refine⟨fun Kr=>⟨aC _ _,.inr ⟨rfl,fun l hl=>?_⟩⟩,fun IA=>?_⟩
  · obtain⟨h1,h2,_⟩:=hl;rcases Iq.1 Kr with⟨h3,h4⟩ | h3
    · cases l with
      | nil=>simp at h2;omega
      | cons e l=>have:=h1.1.1;have h5:=h1.1.2.2;simp only at h5;omega
    · omega
  have Jb:¬ ((0<count/\(t0<0∨t0>4611686018427387903))∨count<0):=fun h=>by rw[Iq.2 h]at IA;cases IA
  apply vc123;dsimp only[VC123,nb,iq];have g1:=World.grownBy_alloc w1 (.cells #[.slice A k c,.int .i64 0] 240) none;have b1:(w1.alloc (.cells #[.slice A k c,.int .i64 0] 240)).heap[w1.heap.size]?=some (.cells #[.slice A k c,.int .i64 0] 240 (0,0)):=heap_alloc_new w1 _;refine⟨_,rfl,?_⟩;obtain⟨w2,Ig⟩:∃ w2,w2=w1.alloc (.cells #[.slice A k c,.int .i64 0] 240):=⟨_,rfl⟩;rw[← Ig]at g1 b1 ⊢;have g2:=World.grownBy_alloc w2 (.cells #[.pointer (some ⟨w1.heap.size,0,none⟩),.int .i64 t0,.int .u32 0,.int .u32 0,.bool false,.bool false,.bool true] 192) none;have b2:(w2.alloc (.cells #[.pointer (some ⟨w1.heap.size,0,none⟩),.int .i64 t0,.int .u32 0,.int .u32 0,.bool false,.bool false,.bool true] 192)).heap[w2.heap.size]?=some (.cells #[.pointer (some ⟨w1.heap.size,0,none⟩),.int .i64 t0,.int .u32 0,.int .u32 0,.bool false,.bool false,.bool true] 192 (0,0)):=heap_alloc_new w2 _;obtain⟨w3,Gr⟩:∃ w3,w3=w2.alloc (.cells #[.pointer (some ⟨w1.heap.size,0,none⟩),.int .i64 t0,.int .u32 0,.int .u32 0,.bool false,.bool false,.bool true] 192):=⟨_,rfl⟩;rw[← Gr]at g2 b2 ⊢;have l12:w1.heap.size<w2.heap.size:=(Array.getElem?_eq_some_iff.1 b1).1;have F9:=aA g1 g2;have D0:rp w3 w1.heap.size w2.heap.size A k c x 0 (bS t0 none) (none:Option aS).isSome true :=
    ⟨⟨aF b1 g2,hr.kept_none F9,hk,by omega,fun a ha=>(IX a ha).imp id (fun e=>by omega)⟩,b2,by omega,fun a ha=>(IX a ha).imp id (fun e=>by omega)⟩
  have tyE1:62≠240:=by decide
  have tyE2:62≠192:=by decide
  -- the row of events lies apart from the reader
  have apart:∀ {W:World} {at_:Nat} {q:aS} {any ok:Bool} {oA:OA} {on oc:Nat} {out:List aS},rp W w1.heap.size w2.heap.size A k c x at_ q any ok->aE W w1.heap.size 62 4 oA on oc (cE out)->∀ j,(Value.slice oA on oc).ownBlock=some j->w1.heap.size<=j/\j≠w1.heap.size/\j≠w2.heap.size:=by
    intro W at_ q any ok oA on oc out hD hO j hj;obtain⟨cur,Gc⟩:=hO.block_type j hj;refine⟨hO.block_ge j hj,fun e=>?_,fun e=>?_⟩
    · rw[e,hD.rd.blk]at Gc;cases Gc
    · rw[e,hD.blk]at Gc;cases Gc
  refine⟨fun oA on oc w'=>∃(out:List aS)(ok:Bool)(at_:Nat)(p:Option aS),rp w' w1.heap.size w2.heap.size A k c x at_ (bS t0 p) p.isSome ok/\aE w' w1.heap.size 62 4 oA on oc (cE out)/\nE out/\out.length<=at_+1/\w1.grownBy w' none/\(ok=true->(out.length:Int)=count/\∀ e∈out,e.v<n)/\∀ l0,BS x t0 count n l0->ok=true/\out=l0,
    ⟨fun m FG oA on oc w'=>∃(out:List aS)(ok:Bool)(at_:Nat)(p:Option aS),FG.toNat=m/\0<=FG/\FG<=count/\rp w' w1.heap.size w2.heap.size A k c x at_ (bS t0 p) p.isSome ok/\aE w' w1.heap.size 62 4 oA on oc (cE out)/\nE out/\(ok=true->out.length<=at_)/\out.length<=at_+1/\w1.grownBy w' none/\(ok=true->(out.length:Int)+FG=count/\(∀ e∈out,e.v<n)/\∀ q,p=some q->vh q) ∧
      ∀ l0,BS x t0 count n l0->ok=true/\∃(j:Nat)(pad:List Bool),j<=l0.length/\out=l0.take j/\p=d9 (l0.take j) none/\(aX x).drop at_=dS t0 p (l0.drop j)++pad/\FG=(l0.length:Int)-j,
    ⟨_,[],true,0,none,rfl,by omega,by omega,D0,aE.nil _ _ _ _,fun e he=>by simp at he,by simp,by simp,F9,fun _=>⟨by simp,fun e he=>by simp at he,fun q hq=>by cases hq⟩,fun l0 G0=>⟨rfl,0,List.replicate (8*(((dS t0 none l0).length+7) / 8)-(dS t0 none l0).length) false,by omega,rfl,rfl,?_,by have:=G0.2.1;omega⟩⟩,?_⟩,?_⟩
  · rw[G0.2.2.2];unfold eL;rw[gM];rfl
  · rintro m FG oA on oc w4 ⟨out,ok,at_,p,rfl,GM,Mn,hD,hO,Jw,Hh,Oa,hg,hok,Gt⟩;refine⟨fun FX=>⟨_,rfl,ok,hD.flag.1,fun MX=>?_,fun PK=>⟨out,ok,at_,p,hD,hO,Jw,Oa,hg,fun h=>(by rw[PK]at h;cases h),fun l0 G0=>(by have:=(Gt l0 G0).1;rw[PK]at this;cases this)⟩⟩,fun hz=>⟨out,ok,at_,p,hD,hO,Jw,Oa,hg,fun h=>⟨by have:=(hok h).1;omega,(hok h).2.1⟩,fun l0 G0=>?_⟩⟩
    · subst MX;obtain⟨VK,Ue,NJ⟩:=hok rfl;have Hh:=Hh rfl;refine(xJ hD (by omega) hb (by omega) NJ).mono fun ev w5 hh=>?_;obtain⟨e,at',p',ok',rfl,D5,K5,Vy,Mi,Vz,IC,LZ,Ml⟩:=hh;have Wo:=hO.kp K5 (fun j hj h=>by have:=apart hD hO j hj;omega);have Hx:w1.grownBy w5 none:=((Kp.of_none (S:=fun j=>w1.heap.size<=j) hg).then K5 (fun j _ h=>by omega)).grown (fun j hj h=>by omega);obtain⟨w6,hE,pE0,qE0,pE1,qE1,pE2,qE2,pE3,qE3,bE,gE⟩:=uC w5 62 (.int .i64 0) (.int .u32 0) (.int .u32 0) (.bool false) (.int .i64 e.t) (.int .u32 e.u) (.int .u32 e.v) (.bool e.add);refine⟨_,_,_,_,rfl,pE0,qE0,pE1,qE1,pE2,qE2,pE3,qE3,?_⟩;rw[← hE];have D6:=D5.kept gE;have Ph:=Wo.kept gE;have Hu:=aA Hx gE;have Rz:at'<=8*x.length:=D5.rd.le;obtain⟨ok2,HI⟩:∃ ok2:Bool,ok2=(ok' && decide (e.u<e.v/\e.v<n)):=⟨_,rfl⟩;have l5:w2.heap.size<w5.heap.size:=by have:=(Array.getElem?_eq_some_iff.1 D5.blk).1;exact this
      refine⟨fun W=>rp W w1.heap.size w2.heap.size A k c x at' (bS t0 p') p'.isSome ok2/\aE W w1.heap.size 62 4 oA on oc (cE out)/\w1.grownBy W none/\W.heap[w5.heap.size]?=some (.cells #[.int .i64 e.t,.int .u32 e.u,.int .u32 e.v,.bool e.add] 62 (0,0)),?_,?_⟩
      · have st:∀(W:World)(b:Bool),b=ok2->w6.grownBy W none->rp (W.setCell ((⟨w2.heap.size,0,none⟩:Addr).add 6) (.bool b)) w1.heap.size w2.heap.size A k c x at' (bS t0 p') p'.isSome ok2/\aE (W.setCell ((⟨w2.heap.size,0,none⟩:Addr).add 6) (.bool b)) w1.heap.size 62 4 oA on oc (cE out)/\w1.grownBy (W.setCell ((⟨w2.heap.size,0,none⟩:Addr).add 6) (.bool b)) none/\(W.setCell ((⟨w2.heap.size,0,none⟩:Addr).add 6) (.bool b)).heap[w5.heap.size]?=some (.cells #[.int .i64 e.t,.int .u32 e.u,.int .u32 e.v,.bool e.add] 62 (0,0)):=by
          intro W b Gf gW;obtain⟨m1,m2⟩:=(D6.kept gW).mark b;rw[Gf]at m1 m2 ⊢;refine⟨m1,(Ph.kept gW).kp m2 (fun j hj h=>by have:=apart D6 Ph j hj;omega),((Kp.of_none (S:=fun j=>w1.heap.size<=j) (aA Hu gW)).then m2 (fun j _ h=>by omega)).grown (fun j hj h=>by omega),?_⟩;rw[m2.block _ (Array.getElem?_eq_some_iff.1 (aF bE gW)).1 (by omega)];exact aF bE gW
        refine⟨_,rfl,ok',D6.flag.1,fun ho=>⟨_,aB bE 1,_,aB bE 2,(qd (e.u,e.v) Mi).mono fun ev w7 hh=>?_⟩,fun ho=>⟨_,rfl,⟨_,D6.flag.1⟩,D6.flag.2,st w6 false (by rw[HI,ho];rfl) (aC _ _)⟩⟩;obtain⟨rfl,g7⟩:=hh;have D7:=D6.kept g7;exact⟨_,rfl,_,rfl,⟨_,D7.flag.1⟩,D7.flag.2,st w7 _ (by rw[HI,ho];rfl) g7⟩
      · rintro W ⟨DW,Wm,JD,bW⟩;have gA:=World.grownBy_alloc W (.cells #[.int .i64 e.t,.int .u32 e.u,.int .u32 e.v,.bool e.add] 62) none;have rE:aZ (W.alloc (.cells #[.int .i64 e.t,.int .u32 e.u,.int .u32 e.v,.bool e.add] 62)) (some ⟨W.heap.size,0,none⟩) (cE [e]):=fh _ #[.int .i64 e.t,.int .u32 e.u,.int .u32 e.v,.bool e.add] 62 (0,0);have N0:on=out.length:=by have:=hO.cases.1;rw[dR]at this;omega
        obtain⟨Y,yn,yc,w7,f1,f2,f3,f4⟩:=eh (m:=1) (d:=1) (ys:=[e]) (Wm.kept gA) rE rfl (by simp) (by omega) (Nat.le_trans JD.size gA.size);refine⟨_,aB bW 0,_,aB bW 1,_,aB bW 2,_,aB bW 3,_,_,_,w7,f1,by omega,_,?_,out++[e],ok2,at',p',rfl,by omega,by omega,?_,f2,?_,fun ho=>?_,?_,?_,fun ho=>?_,fun l0 G0=>?_⟩
        · omega
        · exact(DW.kept gA).kp (S:=fun j=>some j=(Value.slice oA on oc).ownBlock) ⟨f3.os,f3.tape,f3.output,f3.size,fun j hj hS=>f3.block j hj hS⟩ (fun h=>by have:=apart D6 Ph _ h.symm;omega) (fun h=>by have:=apart D6 Ph _ h.symm;omega) (fun a ha=>(IX a ha).imp id (fun e h=>by have:=apart D6 Ph _ h.symm;omega))
        · intro a ha;rcases List.mem_append.1 ha with ha | ha
          · exact Jw a ha
          · simp at ha;subst ha;exact⟨⟨Vy,Mi⟩,Vz⟩
        · rw[ho]at HI;have h2:=HI.symm;simp only[Bool.and_eq_true,decide_eq_true_eq]at h2;have:=(LZ h2.1).2.2;simp only[List.length_append,List.length_singleton];omega
        · simp only[List.length_append,List.length_singleton];omega
        · exact aN (aA JD gA) f3 (fun j hj=>hO.block_ge j hj)
        · rw[ho]at HI;have h2:=HI.symm;simp only[Bool.and_eq_true,decide_eq_true_eq]at h2;obtain⟨q1,q2,q3⟩:=LZ h2.1;refine⟨by simp only[List.length_append,List.length_singleton];omega,fun a ha=>?_,fun q hq=>?_⟩
          · rcases List.mem_append.1 ha with ha | ha
            · exact Ue a ha
            · simp at ha;subst ha;exact h2.2.2
          · rw[q1]at hq;cases hq;exact q2
        · obtain⟨_,j,pad,hj,IQ,hp,Gv,VM⟩:=Gt l0 G0;have GO:j<l0.length:=by omega
          have Gp:=List.drop_eq_getElem_cons GO;have Tw:=G0.1;rw[← List.take_append_drop j l0,dZ.append,← hp,Gp]at Tw;have Oc:=Tw.2.1;rw[Gp,dS,List.append_assoc]at Gv;obtain⟨c1,c2,c3⟩:=Ml l0[j] _ Oc Gv;obtain⟨q1,q2,q3⟩:=LZ c1;have Ud:=G0.2.2.1 _ (List.getElem_mem GO);have FP:=Oc.2.1;refine⟨by rw[HI,c1,c2];simp;omega,j+1,pad,by omega,?_,?_,?_,by omega⟩
          · rw[List.take_succ_eq_append_getElem GO,IQ,c2]
          · rw[List.take_succ_eq_append_getElem GO,gx,q1,c2]
          · rw[c3,q1,c2]
    · obtain⟨h1,j,pad,hj,IQ,hp,Gv,VM⟩:=Gt l0 G0;refine⟨h1,?_⟩;rw[IQ,List.take_of_length_le (by omega)]
  · rintro oA on oc w4 ⟨out,ok,at_,p,hD,hO,Jw,Hh,hg,hok,Gt⟩;have Rz:at_<=8*x.length:=hD.rd.le;have N0:on=out.length:=by have:=hO.cases.1;rw[dR]at this;omega
    refine(uX (t0:=t0) hO.row N0 (by omega) Jw).mono fun ev w5 hh=>?_;obtain⟨B,m,d,rfl,oB,g5⟩:=hh;have D5:=hD.kept g5;have I5:=aA hg g5;refine⟨_,_,_,_,rfl,_,rfl,ok,D5.flag.1,fun PK=>⟨I5,.inr ⟨rfl,fun l hl=>?_⟩⟩,fun MX=>?_⟩
    · have:=(Gt l hl).1;rw[PK]at this;cases this
    · have MX:ok=true:=by simpa using MX
      by_cases G4:kG t0 none out=true
      · rw[if_pos G4]at *;have WD:=(ly Jw).1 G4;refine⟨fun h=>absurd rfl h,fun _=>(ij oB.row (cX oB) (hr.kept_none I5) hk (dp t0 out) hb).mono fun ev w6 hh=>?_⟩;obtain⟨rfl,rfl⟩:=hh;refine⟨_,rfl,fun h=>⟨I5,.inr ⟨rfl,fun l hl=>?_⟩⟩,fun h=>⟨I5,.inl ⟨_,_,_,out,rfl,hO.row.kept_none g5,N0,kX hO,fun h=>cY hO h,WD,(hok MX).1,(hok MX).2,?_⟩⟩⟩
        · have:=of_decide_eq_false h;have e:=(Gt l hl).2;rw[e]at this;exact this hl.2.2.2.symm
        · have:decide (eL t0 out=x)=true:=by simpa using h
          exact(of_decide_eq_true this).symm
      · rw[if_neg G4]at *;refine⟨fun _=>⟨I5,.inr ⟨rfl,fun l hl=>?_⟩⟩,fun h=>absurd (by omega) h⟩;have e:=(Gt l hl).2;rw[e]at G4;exact G4 ((ly hl.1.evtsB).2 hl.1)
end Go.Proofs.YtlieaecnllkefaaGreat
