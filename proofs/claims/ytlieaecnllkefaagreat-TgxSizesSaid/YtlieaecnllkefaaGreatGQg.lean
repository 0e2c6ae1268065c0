/- Own texts, packed: U1, U2, U3, U4, U5, U6, U7. -/
import Derived.Test.YtlieaecnllkefaaGreatGPg
import Derived.Test.YtlieaecnllkefaaGreatGOg
import Derived.Test.YtlieaecnllkefaaGreatGYg
import Derived.Test.YtlieaecnllkefaaGreatGZg
namespace Go.Proofs.YtlieaecnllkefaaGreat
open Go Go.V Go.RowKit
set_option linter.unusedVariables false
set_option linter.unusedSimpArgs false
set_option maxHeartbeats 4000000
set_option maxRecDepth 100000
theorem qlj{w:World}(x:Nat):Row (w.alloc (.cells #[.int .u64 (x:Int)] 22)) (some ⟨w.heap.size,0,none⟩) (qpn [x]):=gn w #[.int .u64 (x:Int)] 22 (0,0)
theorem qli{w:World}(x y:Nat):Row (w.alloc (.cells #[.int .u64 (x:Int),.int .u64 (y:Int)] 22)) (some ⟨w.heap.size,0,none⟩) (qpn [x,y]):=gn w #[.int .u64 (x:Int),.int .u64 (y:Int)] 22 (0,0)
theorem zl{w:World}{x:Nat}(hx:x<2^64):
    Calls P 70 #[.slice (some ⟨w.heap.size,0,none⟩) 1 1] (w.alloc (.cells #[.int .u64 (x:Int)] 22)) fun ev w'=>∃(A':Option Addr)(n' c':Nat),ev=.returned (.slice A' n' c')/\am w' w.heap.size 5 1 A' n' c' (u8s (fk x))/\w.grownBy w' none:=by
  have ga:=World.grownBy_alloc w (.cells #[.int .u64 (x:Int)] 22) none
  refine(kb (l:=[x]) (qlj x) rfl (by simpa using hx) (by simp)).mono fun ev w' hh=>?_
  obtain⟨A',n',c',rfl,h1,h2⟩:=hh
  rw[ou]at h1
  exact⟨_,_,_,rfl,h1.mono ga.size,ab ga h2⟩
theorem qf4{w:World}{x y:Nat}(hx:x<2^64)(hy:y<2^64):
    Calls P 70 #[.slice (some ⟨w.heap.size,0,none⟩) 2 2] (w.alloc (.cells #[.int .u64 (x:Int),.int .u64 (y:Int)] 22)) fun ev w'=>∃(A':Option Addr)(n' c':Nat),ev=.returned (.slice A' n' c')/\am w' w.heap.size 5 1 A' n' c' (u8s (cv [x,y]))/\w.grownBy w' none:=by
  have ga:=World.grownBy_alloc w (.cells #[.int .u64 (x:Int),.int .u64 (y:Int)] 22) none
  refine(kb (l:=[x,y]) (qli x y) rfl (by simp;exact⟨hx,hy⟩) (by simp)).mono fun ev w' hh=>?_
  obtain⟨A',n',c',rfl,h1,h2⟩:=hh
  exact⟨_,_,_,rfl,h1.mono ga.size,ab ga h2⟩
theorem sg{l:List Nat}(h:∀ x∈l,x<2^32){k:Nat}(hk:l.length<=k):(cv l).length<=10*k:=by
 have:=zz (l:=l) fun x hx=>by have:=h x hx;omega
 omega
theorem qm9(j p z:Nat)(h:p<=j):(j-p)+(1+z)=(j+1-p)+z:=by omega
theorem qcp {w : World} {A:Option Addr} {n c:Nat} {l:List Edge} (hr:Row w A (edges l)) (hn:n=l.length) (hl:n<=2^20) (hb:jp l) :
    Calls P 66 #[.slice A n c] w fun ev w'=>∃(A':Option Addr)(n' c':Nat),ev=.returned (.tuple #[.slice A' n' c',.int .i64 (if qfx l=true then 0 else 23)])/\am w' w.heap.size 5 1 A' n' c' (u8s (if qfx l=true then qdx l else []))/\w.grownBy w' none:=by
  apply vc66;dsimp only[VC66,Wt,Br,Bb,Rd,Rc,Rs,Ix,rI_,rB_,rS_]
  try simp only[InK]
  refine(qdt hr hn (by omega)).mono fun ev w1 hh=>?_
  obtain⟨rfl,g1⟩:=hh
  refine⟨_,rfl,fun h=>?_,fun h=>?_⟩
  · have:qfx l=false:=by unfold qfx;rw[h];rfl
    rw[this]
    exact⟨_,_,_,rfl,am.nil _ _ _ _,g1⟩
  have hris:gj l=true:=by simpa using h
  have hR:=(ja l).1 hris
  have bad:∀ {p:Nat} (hp:p<l.length),¬ l[p].1<l[p].2->qfx l=false:=by
    intro p hp hne
    unfold qfx
    rw[Bool.and_eq_false_iff]
    right
    rw[List.all_eq_false]
    exact⟨l[p],List.getElem_mem hp,by simpa using hne⟩
  have hGlen:=qiy (-1) 0 l
  have hGlt:=qne (-1) 0 l (by omega) (by omega) hb (by omega)
  have hgrp:=ql9 (-1) l
  refine⟨fun m oA on oc many next i w'=>∃(p q:Nat)(u v:Int)(done:List Nat),i=(p:Int)/\p<=l.length/\m=l.length-p/\-1<=u/\0<=v/\next=u+1/\many=(q:Int)/\(∀ h:p<l.length,u<l[p].1)/\kf (-1) 0 l=done++kf u v (l.drop p)/\rf (-1) l=q+rf u (l.drop p) ∧
      am w' w.heap.size 5 1 oA on oc (u8s (cv done))/\w.grownBy w' none/\∀ j (hj:j<l.length),j<p->l[j].1<l[j].2,
    ⟨_,0,0,-1,0,[],rfl,by omega,rfl,by omega,by omega,by omega,rfl,fun h=>by have:=hb _ (List.getElem_mem h);omega,rfl,by simp,am.nil _ _ _ _,g1,fun j hj h=>by omega⟩,?_⟩
  rintro m oA on oc many next i w2 ⟨p,q,u,v,done,rfl,hp,rfl,hu,hv,rfl,rfl,hup,hG,hq,oO,hg,hok⟩
  have tp:(p:Int).toNat=p:=by omega
  rw[tp]
  have hdl:done.length<=3*l.length:=by have:=congrArg List.length hG;rw[List.length_append]at this;omega
  have hdlt:∀ x∈done,x<2^32:=fun x hx=>hGlt x (by rw[hG];exact List.mem_append_left _ hx)
  have hon:on=(cv done).length:=d8 oO
  have hobs:=sg hdlt hdl
  refine⟨fun hlt=>?_,fun hge=>?_⟩
  · have lp : p<l.length:=by omega
    obtain⟨a,e1,e2,e3⟩:=js (hr.kept_none hg) lp
    have hbp:=hb _ (List.getElem_mem lp)
    have hupp:=hup lp
    obtain⟨U,hU⟩:∃ U,U=l[p].1:=⟨_,rfl⟩
    rw[← hU]at e2 hupp
    have hU0:0<=U/\U<=4294967295:=by rw[hU];exact hbp.1
    have hhead:kf u v (l.drop p)=(U-u-1).toNat ::yu U (l.drop p) ::kf U U (l.drop p):=by
      rw[List.drop_eq_getElem_cons lp,qfy u v _ _ (by rw[← hU];omega),← hU]
    have hgrp1:rf u (l.drop p)=1+rf U (l.drop p):=by
      rw[List.drop_eq_getElem_cons lp,rf,rf,← hU,if_neg (by omega),if_pos rfl]
    refine⟨a,e1,by omega,by omega,U,e2,by omega,fun m2 i1 rA rn rc last w'=>∃(j:Nat)(rd:List Nat),i1=(j:Int)/\p<=j/\j<=l.length/\m2=l.length-j/\(∀ t (ht:t<l.length),p<=t->t<j->l[t].1=U/\l[t].1<l[t].2)/\(j=p->last=U)/\(∀ h:p<j/\j<=l.length,last=l[j-1].2)/\U<=last ∧
        yu U (l.drop p)=(j-p)+yu U (l.drop j)/\kf U U (l.drop p)=rd++kf U last (l.drop j)/\rf U (l.drop p)=rf U (l.drop j) ∧
        am w' w2.heap.size 5 1 rA rn rc (u8s (cv rd))/\am w' w.heap.size 5 1 oA on oc (u8s (cv done))/\w2.grownBy w' none,
      ⟨_,p,[],rfl,Nat.le_refl _,by omega,rfl,fun t ht h1 h2=>by omega,fun _=>rfl,fun h=>by omega,Int.le_refl _,by omega,rfl,rfl,am.nil _ _ _ _,oO,af _ _⟩,?_⟩
    rintro m2 i1 rA rn rc last w3 ⟨j,rd,rfl,hpj,hj,rfl,hsame,hl0,hl1,hUl,hrun,hGr,hgrp2,oR,oO3,hg3⟩
    have tj:(j:Int).toNat=j:=by omega
    rw[tj]
    have hg03:=ab hg hg3
    have hrl:rd.length<=3*l.length:=by
      have:=congrArg List.length hG;rw[hhead,hGr]at this;simp only[List.length_append,List.length_cons]at this;omega
    have hrlt:∀ x∈rd,x<2^32:=fun x hx=>hGlt x (by rw[hG,hhead,hGr];simp[hx])
    have hrobs:=sg hrlt hrl
    have hrn:rn=(cv rd).length:=d8 oR
    have apart:∀ k,(Value.slice oA on oc).ownBlock=some k->k<w2.heap.size:=fun k hk=>oO.block_lt k hk
    -- a vertex's numbers end
    have ends : j ≠ p->yu U (l.drop j)=0->(∀ h:j<l.length,U<l[j].1) →
        ((0<=U/\U<=18446744073709551615)/\((0<=U-(u+1)/\U-(u+1)<=18446744073709551615)/\((-9223372036854775808<=(j:Int)-p/\(j:Int)-p<=9223372036854775807)/\((0<=(j:Int)-p/\(j:Int)-p<=18446744073709551615) ∧
        Calls P 70 #[.slice (some ⟨w3.heap.size,0,none⟩) 2 2] (w3.alloc (.cells #[.int .u64 (U-(u+1)),.int .u64 ((j:Int)-p)] 22)) fun ev__2 wv_6=>∃(x71A:Option Addr)(x71n x71c:Nat),ev__2=.returned (.slice x71A x71n x71c)/\∃(x72A:Option Addr)(x72n x72c:Nat),∃ wv_7:World,Sem.run P (Builtin.append_ #[26,26] 26 #[.slice oA on oc,.slice x71A x71n x71c]) wv_6=.ok (.slice x72A x72n x72c) wv_7 ∧
          ∃(x74A:Option Addr)(x74n x74c:Nat),∃ wv_8:World,Sem.run P (Builtin.append_ #[26,26] 26 #[.slice x72A x72n x72c,.slice rA rn rc]) wv_7=.ok (.slice x74A x74n x74c) wv_8/\((0<=(q:Int)+1/\(q:Int)+1<=18446744073709551615)/\((0<=U/\U<=18446744073709551615)/\((0<=U+1/\U+1<=18446744073709551615)/\∃ m_1:Nat,m_1<l.length-p ∧
          ∃ (p' q':Nat) (u' v':Int) (done':List Nat),(j:Int)=(p':Int)/\p'<=l.length/\m_1=l.length-p'/\-1<=u'/\0<=v'/\U+1=u'+1/\(q:Int)+1=(q':Int)/\(∀ h:p'<l.length,u'<l[p'].1)/\kf (-1) 0 l=done'++kf u' v' (l.drop p')/\rf (-1) l=q'+rf u' (l.drop p') ∧
            am wv_8 w.heap.size 5 1 x74A x74n x74c (u8s (cv done'))/\w.grownBy wv_8 none/\∀ t (ht:t<l.length),t<p'->l[t].1<l[t].2))))))):=by
      intro hne hr0 hnext
      refine⟨by omega,by omega,by omega,by omega,?_⟩
      have k1:U-(u+1)=(((U-u-1).toNat:Nat):Int):=by omega
      have k2:(j:Int)-p=((j-p:Nat):Int):=by omega
      rw[k1,k2]
      refine(qf4 (by omega) (by omega)).mono fun ev w4 hh=>?_
      obtain⟨X,xn,xc,rfl,oX,g4⟩:=hh
      have hxn:xn=(cv [(U-u-1).toNat,j-p]).length:=d8 oX
      have hx20:=sg (l:=[(U-u-1).toNat,j-p]) (by intro x hx;simp at hx;omega) (k:=2) (by simp)
      obtain⟨Y,yn,yc,w5,f1,f2,f3,f4⟩:=bk (oO3.kept g4) oX.row hxn (fun h=>dr oX h) (by omega) (Nat.le_trans hg03.size g4.size)
      have oR5 : am w5 w2.heap.size 5 1 rA rn rc (u8s (cv rd)):=(oR.kept g4).apart f3 (by
        cases hk:(Value.slice rA rn rc).ownBlock with
        | none=>exact .inl rfl
        | some k => refine .inr fun h=>?_
                    have:=oR.block_ge k hk
                    have:=apart k h.symm
                    omega)
      obtain⟨Z,zn,zc,w6,f5,f6,f7,f8⟩:=bk f2 oR5.row hrn (fun h=>dr oR5 h) (by omega) (Nat.le_trans (Nat.le_trans hg03.size g4.size) f3.size)
      have gY:w.grownBy w5 none:=ax (ab hg03 g4) f3 (fun k hk=>oO3.block_ge k hk)
      refine⟨_,_,_,rfl,_,_,_,w5,f1,_,_,_,w6,f5,by omega,by omega,by omega,l.length-j,by omega,j,q+1,U,last,done++([(U-u-1).toNat,j-p]++rd),rfl,hj,rfl,by omega,by omega,rfl,by omega,hnext,?_,by omega,?_,ax gY f7 (fun k hk=>f2.block_ge k hk),?_⟩
      · rw[hG,hhead,hGr,hrun,hr0];simp
      · rw[ov,ov,← List.append_assoc];exact f6
      · intro t ht htj
        by_cases h:t<p
        · exact hok t ht h
        · exact(hsame t ht (by omega) htj).2
    refine⟨fun hjn=>?_,fun hjn=>?_⟩
    · have lj :j<l.length:=by omega
      obtain⟨b,q1,q2,q3⟩:=js (hr.kept_none hg03) lj
      have hbj:=hb _ (List.getElem_mem lj)
      refine⟨b,q1,by omega,by omega,_,q2,fun hsm=>?_,fun hdf=>?_⟩
      · refine⟨b,q1,by omega,by omega,_,q3,by omega,fun hle=>?_,fun hgt=>?_⟩
        · have:qfx l=false:=by
            by_cases hjp:j=p
            · subst hjp
              exact bad lj (by rw[hsm];have:=hl0 rfl;omega)
            · exfalso
              have h1:=hl1 ⟨by omega,hj⟩
              have h2:=hsame (j-1) (by omega) (by omega) (by omega)
              have h3:=List.pairwise_iff_getElem.1 hR (j-1) j (by omega) lj (by omega)
              rw[eg]at h3
              omega
          rw[this]
          exact⟨_,_,_,rfl,am.nil _ _ _ _,hg03⟩
        · refine⟨by omega,by omega,?_⟩
          have k1:l[j].2-last-1=(((l[j].2-last-1).toNat:Nat):Int):=by omega
          rw[k1]
          refine(zl (by omega)).mono fun ev w4 hh=>?_
          obtain⟨X,xn,xc,rfl,oX,g4⟩:=hh
          have hxn:xn=(fk (l[j].2-last-1).toNat).length:=d8 oX
          have hx10:=dh (v:=(l[j].2-last-1).toNat) (by omega)
          obtain⟨Y,yn,yc,w5,f1,f2,f3,f4⟩:=bk (oR.kept g4) oX.row hxn (fun h=>dr oX h) (by omega) (Nat.le_trans hg3.size g4.size)
          have hdj:l.drop j=l[j] ::l.drop (j+1):=List.drop_eq_getElem_cons lj
          refine⟨_,_,_,rfl,_,_,_,w5,f1,by omega,l.length-(j+1),by omega,j+1,rd++[(l[j].2-last-1).toNat],by omega,by omega,by omega,rfl,?_,fun h=>by omega,fun h=>by simp,?_,?_,?_,?_,?_,?_,?_⟩
          · intro t ht h1 h2
            by_cases h:t=j
            · subst h;exact⟨hsm,by omega⟩
            · exact hsame t ht h1 (by omega)
          · omega
          · rw[hrun,hdj,jh,if_pos hsm];exact qm9 j p _ hpj
          · rw[hGr,hdj,qa3 _ _ _ _ hsm,List.append_assoc];rfl
          · rw[hgrp2,hdj,rf,if_pos hsm]
          · rw[ov,ou];exact f2
          · refine(oO3.kept g4).apart f3 ?_
            cases hk:(Value.slice oA on oc).ownBlock with
            | none=>exact .inl rfl
            | some k => refine .inr fun h=>?_
                        have:=oR.block_ge k h.symm
                        have:=apart k hk
                        omega
          · exact ax (ab hg3 g4) f3 (fun k hk=>oR.block_ge k hk)
      · have hjp:j≠p:=fun h=>by subst h;exact hdf hU.symm
        refine ends hjp (qeh fun e he=>?_) (fun _=>?_)
        · rw[List.drop_eq_getElem_cons lj]at he
          have he':l[j]=e:=Option.some.inj he
          rw[← he'];exact hdf
        · have h2:=hsame (j-1) (by omega) (by omega) (by omega)
          have h3:=List.pairwise_iff_getElem.1 hR (j-1) j (by omega) lj (by omega)
          rw[eg]at h3
          omega
    · have hje:j=l.length:=by omega
      refine ends (by omega) ?_ (fun h=>by omega)
      rw[hje,List.drop_length];rfl
  · have hpe:p=l.length:=by omega
    subst hpe
    rw[List.drop_length]at hG hq
    have hall:qfx l=true:=by
      unfold qfx
      rw[hris,Bool.true_and,List.all_eq_true]
      intro e he
      obtain⟨t,ht,rfl⟩:=List.mem_iff_getElem.1 he
      simpa using hok t ht ht
    rw[hall]
    refine(zl (by omega)).mono fun ev w3 hh=>?_
    obtain⟨X,xn,xc,rfl,oX,g3⟩:=hh
    have hx10:=dh (v:=q) (by omega)
    have hxn:xn=(fk q).length:=d8 oX
    obtain⟨Y,yn,yc,w4,f1,f2,f3,f4⟩:=bk oX (oO.kept g3).row hon (fun h=>dr oO h) (by omega) g3.size
    refine⟨_,_,_,rfl,_,_,_,w4,f1,_,_,_,rfl,?_,ax (ab hg g3) f3 (fun k hk=>by have:=oX.block_ge k hk;have:=hg.size;omega)⟩
    have:(if true=true then qdx l else [])=fk q++cv done:=by
      rw[if_pos rfl]
      unfold qdx qot
      rw[fe,hG,hq]
      simp[kf,rf]
    rw[this]
    exact f2.mono hg.size
def j9(w:World)(g:Nat)(l:List Int)(ok:Bool):Prop:=∃(A:Option Addr)(n c:Nat),w.heap[g]?=some (.cells #[.slice A n c,.bool ok] 186 (0,0))/\Row w A (u8s l)/\n=l.length/\n<=c/\∀ a,A=some a->l=[]∨a.block<g
theorem j9.kp{w w':World}{S:Nat->Prop}{g:Nat}{l:List Int}{ok:Bool}(h:j9 w g l ok)(hk:Kp w w' S)(hS:∀ k,k<=g->¬ S k):j9 w' g l ok:=by
 obtain⟨A,n,c,h1,h2,h3,h4,h5⟩:=h
 exact⟨A,n,c,by rw[hk.block g (Array.getElem?_eq_some_iff.1 h1).1 (hS g (Nat.le_refl _))];exact h1,h2.kpE hk (fun a ha=>(h5 a ha).imp (fun e=>by rw[e];rfl) (fun e=>hS _ (by omega))),h3,h4,h5⟩
theorem j9.kept{w w':World}{g:Nat}{l:List Int}{ok:Bool}(h:j9 w g l ok)(hg:w.grownBy w' none):j9 w' g l ok:=h.kp (S:=fun _=>False) (Kp.of_none hg) (fun _ _ h=>h)
theorem j9.lt{w:World}{g:Nat}{l:List Int}{ok:Bool}(h:j9 w g l ok):g<w.heap.size:=by
 obtain⟨A,n,c,h1,_⟩:=h
 exact(Array.getElem?_eq_some_iff.1 h1).1
theorem j9.flag{w:World}{g:Nat}{l:List Int}{ok:Bool}(h:j9 w g l ok):w.cell? ((⟨g,0,none⟩:Addr).add 1)=some (.bool ok)/\w.frozen? ((⟨g,0,none⟩:Addr).add 1)=false:=by
 obtain⟨A,n,c,h1,_⟩:=h
 rw[au]
 exact⟨aa h1 1,ae h1 1⟩
theorem j9.mark{w:World}{g:Nat}{l:List Int}{ok:Bool}(h:j9 w g l ok)(b:Bool):j9 (w.setCell ((⟨g,0,none⟩:Addr).add 1) (.bool b)) g l b/\Kp w (w.setCell ((⟨g,0,none⟩:Addr).add 1) (.bool b)) (fun k=>k=g):=by
 obtain⟨A,n,c,h1,h2,h3,h4,h5⟩:=h
 rw[au]
 have K:Kp w (w.setCell ⟨g,1,none⟩ (.bool b)) (fun k=>k=g):=ck (Kp.refl w _) rfl
 exact⟨⟨A,n,c,by simpa using ah h1 1 (.bool b),h2.kpE K (fun a ha=>(h5 a ha).imp (fun e=>by rw[e];rfl) (fun e=>by omega)),h3,h4,h5⟩,K⟩
theorem q8{w:World}{g:Nat}{l:List Int}{ok:Bool}(h:j9 w g l ok)(hb:bf l)(hl:l.length<=2^40):
    Calls P 164 #[.pointer (some ⟨g,0,none⟩)] w fun ev w'=>ev=.returned (.int .u64 (d9 4294967295 l).1)/\j9 w' g (l.drop (d9 4294967295 l).2.1) (ok && decide ((d9 4294967295 l).2.2=0))/\Kp w w' (fun k=>k=g):=by
  obtain⟨A,n,c,h1,h2,h3,h4,h5⟩:=h
  apply vc164;dsimp only[VC164,Wt,Br,Bb,Rd,Rc,Rs,Ix,rI_,rB_,rS_]
  try simp only[InK]
  refine⟨_,rfl,_,_,_,aa h1 0,?_⟩
  refine(rv (most:=4294967295) h2 h3 hb (by omega)).mono fun ev w1 hh=>?_
  obtain⟨rfl,g1⟩:=hh
  have ht:=mw (most:=4294967295) (b:=l) (fun x hx=>(hb x hx).1)
  obtain⟨v,k,e,hv⟩:∃ v k e,d9 4294967295 l=(v,k,e):=⟨_,_,_,rfl⟩
  rw[hv]at ht ⊢
  simp only at ht ⊢
  have hg1:=aj g1
  have lt:g<w.heap.size:=(Array.getElem?_eq_some_iff.1 h1).1
  have h1':w1.drew.heap[g]?=some (.cells #[.slice A n c,.bool ok] 186 (0,0)):=by rw[hg1.block g lt (by simp)];exact h1
  have tk:(k:Int).toNat=k:=by omega
  have hkn:k<=n:=by omega
  have hs1:=ah h1' 0 (.slice (dz A c k 1) (n-k) (c-k))
  have fin:∀ q:Bool,j9 ((w1.drew.setCell ⟨g,0,none⟩ (.slice (dz A c k 1) (n-k) (c-k))).setCell ⟨g,1,none⟩ (.bool q)) g (l.drop k) q/\Kp w ((w1.drew.setCell ⟨g,0,none⟩ (.slice (dz A c k 1) (n-k) (c-k))).setCell ⟨g,1,none⟩ (.bool q)) (fun k=>k=g):=by
    intro q
    have K:Kp w ((w1.drew.setCell ⟨g,0,none⟩ (.slice (dz A c k 1) (n-k) (c-k))).setCell ⟨g,1,none⟩ (.bool q)) (fun k=>k=g):=ck (ck (Kp.of_none hg1) rfl) rfl
    refine⟨⟨_,_,_,by simpa using ah hs1 1 (.bool q),?_,by simp;omega,by omega,?_⟩,K⟩
    · exact qkc (h2.kpE K (fun a ha=>(h5 a ha).imp (fun e=>by rw[e];rfl) (fun e=>by omega))) (by omega)
    · intro a ha
      obtain⟨a',e1,e2⟩:=qfn ha
      exact(h5 a' e1).imp (fun e=>by rw[e];simp) (fun e=>by omega)
  refine⟨v,(k:Int),e,rfl,_,rfl,_,_,_,aa h1' 0,⟨by omega,by omega⟩,?_⟩
  rw[tk]
  refine⟨_,rfl,ok,by rw[au];exact aa h1' 1,fun h=>?_,fun h=>?_⟩
  · refine⟨_,rfl,⟨_,aa h1' 0⟩,ae h1' 0,_,rfl,⟨_,by rw[au];exact aa hs1 1⟩,by rw[au];exact ae hs1 1,rfl,?_⟩
    rw[au,h,Bool.true_and]
    exact fin _
  · refine⟨_,rfl,⟨_,aa h1' 0⟩,ae h1' 0,_,rfl,⟨_,by rw[au];exact aa hs1 1⟩,by rw[au];exact ae hs1 1,rfl,?_⟩
    rw[au,h,Bool.false_and]
    exact fin _
theorem qhn{l:List Int}(hb:bf l):0<=(d9 4294967295 l).1/\(d9 4294967295 l).1<=4294967295/\(d9 4294967295 l).2.1<=l.length/\((d9 4294967295 l).2.2=0->0<(d9 4294967295 l).2.1):=by
 rcases mw (most:=4294967295) (b:=l) (fun x hx=>(hb x hx).1)with⟨h1,h2,h3,h4,h5⟩ | ⟨h1,h2,h3⟩
 ·exact⟨h4,h5,h3,fun _=>h2⟩
 ·rw[h2,h3];exact⟨by omega,by omega,by omega,fun h=>absurd h h1⟩
theorem qp{x:Nat}(hx:x<2^32)(r:List Int):d9 4294967295 (fk x++r)=((x:Int),(fk x).length,0):=ij (by omega) (by omega) r
theorem qdu{l:List Int}{p x:Nat}{r:List Int}(h:l.drop p=fk x++r):l.drop (p+(fk x).length)=r:=by
 rw[← List.drop_drop,h,List.drop_left' rfl]
def qd1(l:List Int)(n:Int)(l0:List Edge):Prop:=qf2 l0/\(∀ e∈l0,e.2<n)/\l=qdx l0
theorem qfw {w:World} {g:Nat} {l:List Int} {n:Int} (h:j9 w g l true) (hb:bf l) (hl:l.length<=2^16) :
    Calls P 122 #[.pointer (some ⟨g,0,none⟩),.int .u64 n] w fun ev w'=>∃(A':Option Addr)(n' c':Nat)(out:List Edge)(ok:Bool)(p:Nat),ev=.returned (.slice A' n' c')/\am w' w.heap.size 45 2 A' n' c' (edges out)/\jp out/\out.length<=l.length/\(∀ e∈out,e.2<n) ∧
      j9 w' g (l.drop p) ok/\Kp w w' (fun k=>k=g)/\∀ l0,qd1 l n l0->ok=true/\out=l0:=by
  apply vc122;dsimp only[VC122,Wt,Br,Bb,Rd,Rc,Rs,Ix,rI_,rB_,rS_]
  try simp only[InK]
  have hgw:=h.lt
  have hbd:∀ p,bf (l.drop p):=fun p y hy=>hb y (List.mem_of_mem_drop hy)
  refine(q8 h hb (by omega)).mono fun ev w1 hh=>?_
  obtain⟨rfl,h1,K1⟩:=hh
  have t0:=qhn hb
  obtain⟨v0,p0,e0,hv0⟩:∃ v p e,d9 4294967295 l=(v,p,e):=⟨_,_,_,rfl⟩
  rw[hv0]at h1 t0 ⊢
  simp only[Bool.true_and]at h1 t0 ⊢
  refine⟨_,rfl,fun m oA on oc next many w'=>∃(q p:Nat)(ok:Bool)(out:List Edge),many=(q:Int)/\q=m/\q<=4294967295/\p<=l.length/\j9 w' g (l.drop p) ok/\am w' w.heap.size 45 2 oA on oc (edges out)/\jp out/\out.length<=p/\(∀ e∈out,e.2<n)/\Kp w w' (fun k=>k=g) ∧
      (ok=true->0<=next/\next<=(p:Int)*8589934592) ∧
      ∀ l0,qd1 l n l0->∃(j:Nat)(u v:Int),ok=true/\j<=l0.length/\out=l0.take j/\next=u+1/\(∀ h:j<l0.length,u<l0[j].1)/\l.drop p=cv (kf u v (l0.drop j))/\many=(rf u (l0.drop j):Int),
    ⟨_,v0.toNat,p0,_,[],by omega,rfl,by omega,t0.2.2.1,h1,am.nil _ _ _ _,fun e he=>by simp at he,by simp,fun e he=>by simp at he,K1,fun _=>by omega,?_⟩,?_⟩
  · intro l0 hl0
    obtain⟨hok,hn0,rfl⟩:=hl0
    have hlt:=qdw hok.edgesB hok.len
    have hq:=hlt _ (List.mem_cons_self (a:=rf (-1) l0) (l:=kf (-1) 0 l0))
    have ht:=qp hq (cv (kf (-1) 0 l0))
    have he:qdx l0=fk (rf (-1) l0)++cv (kf (-1) 0 l0):=by unfold qdx qot;rw[fe]
    rw[he]at hv0 ⊢
    rw[ht]at hv0
    simp only[Prod.mk.injEq]at hv0
    obtain⟨rfl,rfl,rfl⟩:=hv0
    refine⟨0,-1,0,rfl,by omega,rfl,by omega,fun h=>by have:=hok.right _ (List.getElem_mem h);omega,?_,rfl⟩
    rw[List.drop_left' rfl];rfl
  rintro m oA on oc next many w2 ⟨q,p,ok,out,rfl,rfl,hq,hp,hA,oO,hEB,hol,hVn,hK,hnx,hcond⟩
  refine⟨fun hpos=>⟨_,rfl,ok,hA.flag.1,fun hok=>?_,fun hok=>?_⟩,fun hz=>?_⟩
  · subst hok
    have hnx:=hnx rfl
    have hlp:(l.drop p).length<=2^16:=by rw[List.length_drop];omega
    refine(q8 hA (hbd p) (by omega)).mono fun ev w3 hh=>?_
    obtain⟨rfl,h3,K3⟩:=hh
    have t3:=qhn (hbd p)
    obtain⟨v3,p3,e3,hv3⟩:∃ v p' e,d9 4294967295 (l.drop p)=(v,p',e):=⟨_,_,_,rfl⟩
    rw[hv3]at h3 t3 ⊢
    simp only[Bool.true_and,List.drop_drop,List.length_drop]at h3 t3 ⊢
    refine⟨_,rfl,by omega,by omega,(q8 h3 (hbd _) (by rw[List.length_drop];omega)).mono fun ev w4 hh=>?_⟩
    obtain⟨rfl,h4,K4⟩:=hh
    have t4:=qhn (hbd (p+p3))
    obtain⟨v4,p4,e4,hv4⟩:∃ v p' e,d9 4294967295 (l.drop (p+p3))=(v,p',e):=⟨_,_,_,rfl⟩
    rw[hv4]at h4 t4 ⊢
    simp only[List.drop_drop,List.length_drop]at h4 t4 ⊢
    have hK4:Kp w w4 (fun k=>k=g):=(hK.then K3 (fun k _ h=>h)).then K4 (fun k _ h=>h)
    have oO4:am w4 w.heap.size 45 2 oA on oc (edges out):=(oO.kp K3 (fun k hk e=>by have:=oO.block_ge k hk;omega)).kp K4 (fun k hk e=>by have:=oO.block_ge k hk;omega)
    refine⟨_,rfl,fun m2 oA on oc last k w'=>∃(kk p2:Nat)(ok2:Bool)(out2:List Edge),k=(kk:Int)/\kk=m2/\kk<=4294967295/\p<=p2/\p2<=l.length/\(ok2=true->p+1<=p2)/\j9 w' g (l.drop p2) ok2/\am w' w.heap.size 45 2 oA on oc (edges out2)/\jp out2/\out2.length<=p2/\(∀ e∈out2,e.2<n)/\Kp w w' (fun k=>k=g) ∧
        (ok2=true->next+v3<=last/\last<=1125899906842624) ∧
        ∀ l0,qd1 l n l0->∃(j:Nat),ok2=true/\j<=l0.length/\out2=l0.take j/\(∀ h:j<l0.length,next+v3<=l0[j].1)/\l.drop p2=cv (kf (next+v3) last (l0.drop j))/\k=(yu (next+v3) (l0.drop j):Int)/\(q:Int)-1=(rf (next+v3) (l0.drop j):Int)/\(∀ h:j<l0.length,l0[j].1=next+v3->last<l0[j].2)/\0<=next+v3,
      ⟨_,v4.toNat,p+(p3+p4),_,out,by omega,rfl,by omega,by omega,by omega,fun h=>?_,by rw[Nat.add_assoc]at h4;exact h4,oO4,hEB,by omega,hVn,hK4,fun h=>⟨Int.le_refl _,by omega⟩,?_⟩,?_⟩
    · simp only[Bool.and_eq_true,decide_eq_true_eq]at h
      have:=t3.2.2.2 h.1
      omega
    · intro l0 hl0
      obtain⟨j,u,v,_,hj,hout,hnu,hup,hd,hmany⟩:=hcond l0 hl0
      have hok:=hl0.1
      have hjl:j<l0.length:=by
        by_cases hjl:j<l0.length
        · exact hjl
        · rw[List.drop_eq_nil_of_le (by omega)]at hmany
          simp[rf]at hmany
          omega
      have hr:=hok.right _ (List.getElem_mem hjl)
      have hu:=hup hjl
      have hcons:=List.drop_eq_getElem_cons hjl
      have hG:=qfy u v l0[j] (l0.drop (j+1)) (by omega)
      rw[← hcons]at hG
      have hrl:=qlg l0[j].1 (l0.drop j)
      have hlen:=hok.len
      rw[List.length_drop]at hrl
      rw[hG,fe,fe]at hd
      have ht3:=qp (x:=(l0[j].1-u-1).toNat) (by omega) (fk (yu l0[j].1 (l0.drop j))++cv (kf l0[j].1 l0[j].1 (l0.drop j)))
      rw[hd,ht3]at hv3
      simp only[Prod.mk.injEq]at hv3
      obtain⟨hv3,hp3,he3⟩:=hv3
      have hd2:=qdu hd
      rw[hp3]at hd2
      have ht4:=qp (x:=yu l0[j].1 (l0.drop j)) (by omega) (cv (kf l0[j].1 l0[j].1 (l0.drop j)))
      rw[hd2,ht4]at hv4
      simp only[Prod.mk.injEq]at hv4
      obtain⟨hv4,hp4,he4⟩:=hv4
      have hd3:=qdu hd2
      rw[hp4]at hd3
      have hU:next+v3=l0[j].1:=by omega
      have hgr:rf u (l0.drop j)=1+rf l0[j].1 (l0.drop j):=by rw[hcons,rf,rf,if_neg (by omega),if_pos rfl]
      refine⟨j,by rw[← he3,← he4];rfl,hj,hout,fun _=>by omega,?_,?_,?_,fun hh e=>?_,by omega⟩
      · rw[← Nat.add_assoc,hd3,hU]
      · rw[hU];omega
      · rw[hU];omega
      · omega
    rintro m2 oA on oc last k w5 ⟨kk,p2,ok2,out2,rfl,rfl,hkk,hpp,hp2,hpk,hA2,oO2,hEB2,hol2,hVn2,hK2,hlast,hcond2⟩
    have back:(kk=0∨ok2=false)->(0<=(q:Int)-1/\(q:Int)-1<=18446744073709551615)/\∃ m_1:Nat,m_1<q/\∃(q' p':Nat)(ok:Bool)(out:List Edge),(q:Int)-1=(q':Int)/\q'=m_1/\q'<=4294967295/\p'<=l.length/\j9 w5 g (l.drop p') ok/\am w5 w.heap.size 45 2 oA on oc (edges out)/\jp out/\out.length<=p'/\(∀ e∈out,e.2<n)/\Kp w w5 (fun k=>k=g) ∧
        (ok=true->0<=next+v3+1/\next+v3+1<=(p':Int)*8589934592) ∧
        ∀ l0,qd1 l n l0->∃(j:Nat)(u v:Int),ok=true/\j<=l0.length/\out=l0.take j/\next+v3+1=u+1/\(∀ h:j<l0.length,u<l0[j].1)/\l.drop p'=cv (kf u v (l0.drop j))/\(q:Int)-1=(rf u (l0.drop j):Int):=by
      intro hend
      refine⟨by omega,q-1,by omega,q-1,p2,ok2,out2,by omega,rfl,by omega,hp2,hA2,oO2,hEB2,hol2,hVn2,hK2,fun ho=>?_,fun l0 hl0=>?_⟩
      · have:=hpk ho
        omega
      · obtain⟨j,h1,h2,h3,h4,h5,h6,h7,h8,h9⟩:=hcond2 l0 hl0
        refine⟨j,next+v3,last,h1,h2,h3,by omega,fun hjl=>?_,h5,h7⟩
        have hge:=h4 hjl
        have hk0:kk=0:=by
          rcases hend with h | h
          · exact h
          · rw[h]at h1;cases h1
        subst hk0
        rw[List.drop_eq_getElem_cons hjl,jh]at h6
        split at h6
        · omega
        · omega
    refine⟨fun hkp=>⟨_,rfl,ok2,hA2.flag.1,fun hok2=>?_,fun hok2=>back (.inr hok2)⟩,fun hk0=>back (.inl (by omega))⟩
    subst hok2
    have hlast:=hlast rfl
    refine(q8 hA2 (hbd p2) (by rw[List.length_drop];omega)).mono fun ev w6 hh=>?_
    obtain⟨rfl,h6,K6⟩:=hh
    have t6:=qhn (hbd p2)
    obtain⟨v6,p6,e6,hv6⟩:∃ v p' e,d9 4294967295 (l.drop p2)=(v,p',e):=⟨_,_,_,rfl⟩
    rw[hv6]at h6 t6 ⊢
    simp only[Bool.true_and,List.drop_drop,List.length_drop]at h6 t6 ⊢
    have hK6:Kp w w6 (fun k=>k=g):=hK2.then K6 (fun k _ h=>h)
    have oO6:am w6 w.heap.size 45 2 oA on oc (edges out2):=oO2.kp K6 (fun k hk e=>by have:=oO2.block_ge k hk;omega)
    have hpk:=hpk rfl
    obtain⟨ok3,hok3⟩:∃ ok3,ok3=decide (e6=0):=⟨_,rfl⟩
    rw[← hok3]at h6
    have tail:∀ b:Bool,b=(ok3 && (decide (last+(v6+1)<n) && decide (last+(v6+1)<=4294967295))) →
        ∃ a64:Addr,(some (⟨g,0,none⟩:Addr))=some a64/\∃ x66:Bool,World.cell? (w6.setCell ((⟨g,0,none⟩:Addr).add 1) (.bool b)) (a64.add 1)=some (.bool x66)/\((x66=true->((0<=next+v3/\next+v3<=4294967295)/\((0<=last+(v6+1)/\last+(v6+1)<=4294967295)/\∃(x74A:Option Addr)(x74n x74c:Nat),∃ wv_7:World,Sem.run P (Builtin.append_ #[40,40] 40 #[.slice oA on oc,.slice (some ⟨(w6.setCell ((⟨g,0,none⟩:Addr).add 1) (.bool b)).heap.size,0,none⟩) 1 1]) ((w6.setCell ((⟨g,0,none⟩:Addr).add 1) (.bool b)).alloc (.cells #[.int .u32 (next+v3),.int .u32 (last+(v6+1))] 45))=.ok (.slice x74A x74n x74c) wv_7/\((0<=(kk:Int)-1/\(kk:Int)-1<=18446744073709551615)/\∃ m_3:Nat,m_3<kk ∧
          ∃ (kk' p2:Nat) (ok2:Bool) (out2:List Edge),(kk:Int)-1=(kk':Int)/\kk'=m_3/\kk'<=4294967295/\p<=p2/\p2<=l.length/\(ok2=true->p+1<=p2)/\j9 wv_7 g (l.drop p2) ok2/\am wv_7 w.heap.size 45 2 x74A x74n x74c (edges out2)/\jp out2/\out2.length<=p2/\(∀ e∈out2,e.2<n)/\Kp w wv_7 (fun k=>k=g) ∧
            (ok2=true->next+v3<=last+(v6+1)/\last+(v6+1)<=1125899906842624) ∧
            ∀ l0,qd1 l n l0->∃(j:Nat),ok2=true/\j<=l0.length/\out2=l0.take j/\(∀ h:j<l0.length,next+v3<=l0[j].1)/\l.drop p2=cv (kf (next+v3) (last+(v6+1)) (l0.drop j))/\(kk:Int)-1=(yu (next+v3) (l0.drop j):Int)/\(q:Int)-1=(rf (next+v3) (l0.drop j):Int)/\(∀ h:j<l0.length,l0[j].1=next+v3->last+(v6+1)<l0[j].2)/\0<=next+v3)))) ∧
         (x66=false->((0<=(kk:Int)-1/\(kk:Int)-1<=18446744073709551615)/\∃ m_3:Nat,m_3<kk ∧
          ∃ (kk' p2:Nat) (ok2:Bool) (out2:List Edge),(kk:Int)-1=(kk':Int)/\kk'=m_3/\kk'<=4294967295/\p<=p2/\p2<=l.length/\(ok2=true->p+1<=p2)/\j9 (w6.setCell ((⟨g,0,none⟩:Addr).add 1) (.bool b)) g (l.drop p2) ok2/\am (w6.setCell ((⟨g,0,none⟩:Addr).add 1) (.bool b)) w.heap.size 45 2 oA on oc (edges out2)/\jp out2/\out2.length<=p2/\(∀ e∈out2,e.2<n)/\Kp w (w6.setCell ((⟨g,0,none⟩:Addr).add 1) (.bool b)) (fun k=>k=g) ∧
            (ok2=true->next+v3<=last+(v6+1)/\last+(v6+1)<=1125899906842624) ∧
            ∀ l0,qd1 l n l0->∃(j:Nat),ok2=true/\j<=l0.length/\out2=l0.take j/\(∀ h:j<l0.length,next+v3<=l0[j].1)/\l.drop p2=cv (kf (next+v3) (last+(v6+1)) (l0.drop j))/\(kk:Int)-1=(yu (next+v3) (l0.drop j):Int)/\(q:Int)-1=(rf (next+v3) (l0.drop j):Int)/\(∀ h:j<l0.length,l0[j].1=next+v3->last+(v6+1)<l0[j].2)/\0<=next+v3))):=by
      intro b hb'
      obtain⟨hM,KM⟩:=h6.mark b
      have hKM:Kp w (w6.setCell ((⟨g,0,none⟩:Addr).add 1) (.bool b)) (fun k=>k=g):=hK6.then KM (fun k _ h=>h)
      have oOM:=oO6.kp KM (fun k hk e=>by have:=oO6.block_ge k hk;omega)
      have hsz:w.heap.size<=(w6.setCell ((⟨g,0,none⟩:Addr).add 1) (.bool b)).heap.size:=hKM.size
      -- what comes of it, if the bytes are those of edges
      have cond:∀ l0,qd1 l n l0->b=true/\∃ j,∃ hj:j<l0.length,out2=l0.take j/\l0[j].1=next+v3/\l0[j].2=last+(v6+1)/\l.drop (p2+p6)=cv (kf (next+v3) (last+(v6+1)) (l0.drop (j+1)))/\(kk:Int)-1=(yu (next+v3) (l0.drop (j+1)):Int)/\(q:Int)-1=(rf (next+v3) (l0.drop (j+1)):Int)/\0<=next+v3:=by
        intro l0 hl0
        obtain⟨j,h1,h2,h3,h4,h5,h6',h7,h8,h9⟩:=hcond2 l0 hl0
        have hok:=hl0.1
        have hjl:j<l0.length:=by
          by_cases hjl:j<l0.length
          · exact hjl
          · rw[List.drop_eq_nil_of_le (by omega)]at h6'
            simp[yu]at h6';omega
        have hcons:=List.drop_eq_getElem_cons hjl
        have hsame:l0[j].1=next+v3:=by
          rw[hcons,jh]at h6'
          split at h6'
          · assumption
          · simp at h6';omega
        have hr:=hok.right _ (List.getElem_mem hjl)
        have hn0:=hl0.2.1 _ (List.getElem_mem hjl)
        -- the last neighbour is below
        have hlt:last<l0[j].2:=h8 hjl hsame
        rw[hcons,qa3 _ _ _ _ hsame,fe]at h5
        have ht6:=qp (x:=(l0[j].2-last-1).toNat) (by omega) (cv (kf (next+v3) l0[j].2 (l0.drop (j+1))))
        rw[h5,ht6]at hv6
        simp only[Prod.mk.injEq]at hv6
        obtain⟨hv,hp6,he6⟩:=hv6
        have hd:=qdu h5
        rw[hp6]at hd
        have hl2:l0[j].2=last+(v6+1):=by omega
        rw[hcons,jh,if_pos hsame]at h6'
        rw[hcons,rf,if_pos hsame]at h7
        refine⟨?_,j,hjl,h3,hsame,hl2,by rw[hd,hl2],by omega,h7,h9⟩
        rw[hb',hok3,← he6]
        simp only[decide_true,Bool.true_and,Bool.and_eq_true,decide_eq_true_eq]
        omega
      refine⟨_,rfl,b,hM.flag.1,fun hbt=>?_,fun hbf=>?_⟩
      · rw[hbt]at hb'
        have hb2:=hb'.symm
        simp only[Bool.and_eq_true,decide_eq_true_eq]at hb2
        have gA:=World.grownBy_alloc (w6.setCell ((⟨g,0,none⟩:Addr).add 1) (.bool b)) (.cells #[.int .u32 (next+v3),.int .u32 (last+(v6+1))] 45) none
        have rE:Row ((w6.setCell ((⟨g,0,none⟩:Addr).add 1) (.bool b)).alloc (.cells #[.int .u32 (next+v3),.int .u32 (last+(v6+1))] 45)) (some ⟨(w6.setCell ((⟨g,0,none⟩:Addr).add 1) (.bool b)).heap.size,0,none⟩) (edges [(next+v3,last+(v6+1))]):=gn _ #[.int .u32 (next+v3),.int .u32 (last+(v6+1))] 45 (0,0)
        have hon2:on=out2.length:=by have:=oO2.cases.1;rw[dt]at this;omega
        obtain⟨Y,yn,yc,w7,f1,f2,f3,f4⟩:=dg (m:=1) (d:=1) (ys:=[(next+v3,last+(v6+1))]) (oOM.kept gA) rE rfl (by simp) (by omega) (Nat.le_trans hsz gA.size)
        refine⟨by omega,by omega,_,_,_,w7,f1,by omega,kk-1,by omega,kk-1,p2+p6,true,out2++[(next+v3,last+(v6+1))],by omega,rfl,by omega,by omega,by omega,fun _=>by omega,?_,f2,?_,?_,?_,?_,fun _=>by omega,fun l0 hl0=>?_⟩
        · have:=(hM.kept gA).kp (S:=fun k=>some k=(Value.slice oA on oc).ownBlock) ⟨f3.os,f3.tape,f3.output,f3.size,fun k hk hS=>f3.block k hk hS⟩ (fun k hk e=>by have:=oO6.block_ge k e.symm;omega)
          rw[hbt]at this;exact this
        · intro e he
          rcases List.mem_append.1 he with he | he
          · exact hEB2 e he
          · simp at he;subst he;simp only;omega
        · have:=t6.2.2.2 (by rw[hok3]at hb2;simpa using hb2.1)
          simp only[List.length_append,List.length_singleton];omega
        · intro e he
          rcases List.mem_append.1 he with he | he
          · exact hVn2 e he
          · simp at he;subst he;exact hb2.2.1
        · exact(hKM.then (Kp.of_none (S:=fun k=>k=g) gA) (fun k _ h=>h)).step f3 (fun k hk=>.inl (by have:=oO6.block_ge k hk;omega))
        · obtain⟨_,j,hj,c1,c2,c3,c4,c5,c6,c7⟩:=cond l0 hl0
          refine⟨j+1,rfl,by omega,?_,fun h=>?_,c4,c5,c6,fun h e=>?_,c7⟩
          · rw[List.take_succ_eq_append_getElem hj,← c1]
            congr 2
            exact Prod.ext c2.symm c3.symm
          · have:=List.pairwise_iff_getElem.1 hl0.1.rise j (j+1) hj h (by omega)
            rw[eg]at this
            omega
          · have:=List.pairwise_iff_getElem.1 hl0.1.rise j (j+1) hj h (by omega)
            rw[eg]at this
            omega
      · refine⟨by omega,kk-1,by omega,kk-1,p2+p6,b,out2,by omega,rfl,by omega,by omega,by omega,fun h=>(by rw[hbf]at h;cases h),hM,oOM,hEB2,by omega,hVn2,hKM,fun h=>(by rw[hbf]at h;cases h),fun l0 hl0=>?_⟩
        have:=(cond l0 hl0).1
        rw[hbf]at this;cases this
    refine⟨_,rfl,by omega,by omega,_,rfl,ok3,h6.flag.1,fun h3t=>⟨fun hlt=>?_,fun hge=>?_⟩,fun h3f=>?_⟩
    · exact⟨_,rfl,⟨_,h6.flag.1⟩,h6.flag.2,tail _ (by rw[h3t];simp[hlt])⟩
    · exact⟨_,rfl,⟨_,h6.flag.1⟩,h6.flag.2,tail _ (by rw[h3t];simp;omega)⟩
    · exact⟨_,rfl,⟨_,h6.flag.1⟩,h6.flag.2,tail _ (by rw[h3f];rfl)⟩
  · exact⟨_,_,_,out,ok,p,rfl,oO,hEB,by omega,hVn,hA,hK,fun l0 hl0=>by obtain⟨j,u,v,h1,_⟩:=hcond l0 hl0;rw[hok]at h1;cases h1⟩
  · refine⟨_,_,_,out,ok,p,rfl,oO,hEB,by omega,hVn,hA,hK,fun l0 hl0=>?_⟩
    obtain⟨j,u,v,h1,h2,h3,h4,h5,h6,h7⟩:=hcond l0 hl0
    refine⟨h1,?_⟩
    have hj:j=l0.length:=by
      by_cases hj:j<l0.length
      · exfalso
        have:=h5 hj
        rw[List.drop_eq_getElem_cons hj,rf,if_neg (by omega)]at h7
        omega
      · omega
    rw[h3,hj,List.take_length]
def qq4(x:List Int)(n:Int)(ev:Ending)(w':World):Prop :=
 (∃(A':Option Addr)(n' c':Nat)(l:List Edge),ev=.returned (.tuple #[.slice A' n' c',.int .i64 0])/\Row w' A' (edges l)/\n'=l.length/\n'<=c'/\(A'=none->c'=0)/\qd1 x n l) ∨
 (ev=.returned (.tuple #[.slice none 0 0,.int .i64 21])/\∀ l,¬ qd1 x n l)
theorem qhf {w:World} {A:Option Addr} {k c:Nat} {x:List Int} {n:Int} (hr:Row w A (u8s x)) (hk:k=x.length) (hc:k<=c) (hb:bf x) (hl:x.length<=2^16) :
    Calls P 87 #[.slice A k c,.int .u64 n] w fun ev w'=>w.grownBy w' none/\qq4 x n ev w':=by
  apply vc87;dsimp only[VC87,Wt,Br,Bb,Rd,Rc,Rs,Ix,rI_,rB_,rS_]
  have hlow:∀ a,A=some a->x=[]∨a.block<w.heap.size:=fun a ha=>by
    by_cases hx:x=[]
    · exact .inl hx
    · obtain⟨b,e1,e2⟩:=hr.blk (by intro e;exact hx (by simpa[u8s]using e))
      rw[ha]at e1;cases e1;exact .inr e2
  have g1:=World.grownBy_alloc w (.cells #[.slice A k c,.bool true] 186) none
  have b1:(w.alloc (.cells #[.slice A k c,.bool true] 186)).heap[w.heap.size]?=some (.cells #[.slice A k c,.bool true] 186 (0,0)):=heap_alloc_new w _
  have hA:j9 (w.alloc (.cells #[.slice A k c,.bool true] 186)) w.heap.size x true:=⟨A,k,c,b1,hr.kept_none g1,hk,hc,hlow⟩
  refine(qfw (n:=n) hA hb hl).mono fun ev w2 hh=>?_
  obtain⟨A',n',c',out,ok,p,rfl,oO,hEB,hol,hVn,hA2,K2,hcond⟩:=hh
  have hn':n'=out.length:=by have:=oO.cases.1;rw[dt]at this;omega
  have g2:w.grownBy w2 none:=by
    have:Kp w w2 (fun k=>k=w.heap.size):=(Kp.of_none g1).then K2 (fun k _ h=>h)
    exact this.grown (fun k hk e=>by omega)
  refine⟨_,_,_,rfl,(qcp oO.row hn' (by omega) hEB).mono fun ev w3 hh=>?_⟩
  obtain⟨B,m,d,rfl,oB,g3⟩:=hh
  have hA3:=hA2.kept g3
  have g03:=ab g2 g3
  refine⟨_,_,_,_,rfl,_,rfl,ok,hA3.flag.1,fun hok=>⟨g03,.inr ⟨rfl,fun l hl=>?_⟩⟩,fun hok=>?_⟩
  · have:=(hcond l hl).1;rw[hok]at this;cases this
  · have hok:ok=true:=by simpa using hok
    by_cases hadj:qfx out=true
    · rw[if_pos hadj]at *
      have hoK:=(y8 hEB (by omega)).1 hadj
      refine⟨fun h=>absurd rfl h,fun _=>(kv oB.row (d8 oB) (hr.kept_none g03) hk (ff out) hb).mono fun ev w4 hh=>?_⟩
      obtain⟨rfl,rfl⟩:=hh
      refine⟨_,rfl,fun h=>⟨g03,.inr ⟨rfl,fun l hl=>?_⟩⟩,fun h=>⟨g03,.inl ⟨_,_,_,out,rfl,oO.row.kept_none g3,hn',yw oO,fun h=>dr oO h,hoK,hVn,?_⟩⟩⟩
      · have:=of_decide_eq_false h
        have e:=(hcond l hl).2
        rw[e]at this
        exact this hl.2.2.symm
      · have:decide (qdx out=x)=true:=by simpa using h
        exact(of_decide_eq_true this).symm
    · rw[if_neg hadj]at *
      refine⟨fun _=>⟨g03,.inr ⟨rfl,fun l hl=>?_⟩⟩,fun h=>absurd (by omega) h⟩
      have e:=(hcond l hl).2
      rw[e]at hadj
      exact hadj ((y8 (hl.1.edgesB) hl.1.len).2 hl.1)
abbrev km:ByteArray:=⟨#[0,1,2,2,3,3,3,3,4,4,4,4,4,4,4,4,5,5,5,5,5,5,5,5,5,5,5,5,5,5,5,5,6,6,6,6,6,6,6,6,6,6,6,6,6,6,6,6,6,6,6,6,6,6,6,6,6,6,6,6,6,6,6,6,7,7,7,7,7,7,7,7,7,7,7,7,7,7,7,7,7,7,7,7,7,7,7,7,7,7,7,7,7,7,7,7,7,7,7,7,7,7,7,7,7,7,7,7,7,7,7,7,7,7,7,7,7,7,7,7,7,7,7,7,7,7,7,7,8,8,8,8,8,8,8,8,8,8,8,8,8,8,8,8,8,8,8,8,8,8,8,8,8,8,8,8,8,8,8,8,8,8,8,8,8,8,8,8,8,8,8,8,8,8,8,8,8,8,8,8,8,8,8,8,8,8,8,8,8,8,8,8,8,8,8,8,8,8,8,8,8,8,8,8,8,8,8,8,8,8,8,8,8,8,8,8,8,8,8,8,8,8,8,8,8,8,8,8,8,8,8,8,8,8,8,8,8,8,8,8,8,8,8,8,8,8,8,8,8,8,8,8,8,8,8,8]⟩
theorem qpt:∀ k:Fin 256,(k.1=0/\bt km k.1=0)∨(0<(bt km k.1).toNat/\(bt km k.1).toNat<=8/\2^((bt km k.1).toNat-1)<=k.1/\k.1<2^(bt km k.1).toNat):=by decide +kernel
theorem qhd{v n:Nat}(h0:0<n)(h1:2^(n-1)<=v)(h2:v<2^n):blen v=n:=by
 have hv:0<v:=Nat.lt_of_lt_of_le (Nat.two_pow_pos _) h1
 obtain⟨k1,k2⟩:=(kz v).2 hv
 have k3:=(kz v).1
 have a1:blen v-1<n:=(Nat.pow_lt_pow_iff_right (a:=2) (by omega)).1 (Nat.lt_of_le_of_lt k1 h2)
 have a2:n-1<blen v:=(Nat.pow_lt_pow_iff_right (a:=2) (by omega)).1 (Nat.lt_of_le_of_lt h1 k3)
 omega
theorem tab_is{k:Nat}(hk:k<256):bt km k=(blen k:Int)/\blen k<=8:=by
 have h8:blen k<=8:=xu (by omega)
 refine⟨?_,h8⟩
 rcases qpt ⟨k,hk⟩with⟨h1,h2⟩ | ⟨h1,h2,h3,h4⟩
 ·simp only at h1 h2
  subst h1
  rw[h2,vm];rfl
 ·simp only at h1 h2 h3 h4
  rw[qhd h1 h3 h4];omega
theorem di{x:Nat}:∀ {k:Nat},2^k<=x->blen x=k+blen (x / 2^k)
 | 0,h=>by simp
 | k+1,h=>by
  have h':=h
  rw[Nat.pow_succ]at h
  have hp:=Nat.two_pow_pos k
  have ih:=di (x:=x) (k:=k) (by omega)
  have h2:2<=x / 2^k:=by rw[Nat.le_div_iff_mul_le hp];omega
  have e:x / 2^k / 2=x / 2^(k+1):=by rw[Nat.div_div_eq_div_mul,Nat.pow_succ]
  rw[ih,qiw (by omega),e];omega
theorem lw{w:World}{R:Ending->World->Prop}{y cI:Int}{k c b:Nat}(hy:y=(k:Int))(hk:k<256)(hc:cI=(c:Int))(hc2:c<=56)(hb:b=c+blen k)(hR:R (.returned (.int .i64 (b:Int))) w):
    InK .u8 y/\((0<=y/\y<(ByteArray.size km:Int))/\(InK .i64 (bt km y.toNat)/\(InK .i64 (cI+bt km y.toNat)/\R (.returned (.int .i64 (cI+bt km y.toNat))) w))):=by
  have hs:(ByteArray.size km:Int)=256:=by kernel_rfl
  have ht:=tab_is hk
  have hy2:y.toNat=k:=by omega
  rw[hy2,ht.1,hs,hc]
  simp only[InK]
  refine⟨by omega,by omega,by omega,by omega,?_⟩
  have:(c:Int)+(blen k:Int)=(b:Int):=by rw[hb];simp
  rw[this];exact hR
theorem qn5{w:World}{R:Ending->World->Prop}{v:Nat}(hv:v<2^64)(hR:R (.returned (.int .i64 (blen v:Int))) w):Calls P 140 #[.int .u64 (v:Int)] w R:=by
 apply vc140;dsimp only[VC140,Wt,Br,Bb,Rd,Rc,Rs,Ix,rI_,rB_,rS_]
 have p32:(2:Int)^32=4294967296:=rfl
 have p16:(2:Int)^16=65536:=rfl
 have p8:(2:Int)^8=256:=rfl
 simp only[p32,p16,p8]
 refine⟨fun h1=>⟨by omega,fun h2=>⟨by omega,by simp only[InK];omega,fun h3=>⟨by omega,by simp only[InK];omega,?_⟩,fun h3=>?_⟩,fun h2=>⟨fun h3=>⟨by omega,by simp only[InK];omega,?_⟩,fun h3=>?_⟩⟩,fun h1=>⟨fun h2=>⟨by omega,by simp only[InK];omega,fun h3=>⟨by omega,by simp only[InK];omega,?_⟩,fun h3=>?_⟩,fun h2=>⟨fun h3=>⟨by omega,by simp only[InK];omega,?_⟩,fun h3=>?_⟩⟩⟩
 ·refine lw (k:=v / 4294967296 / 65536 / 256) (c:=56) ?_ ?_ ?_ ?_ ?_ hR
  ·omega
  ·omega
  ·rfl
  ·omega
  ·
   have e0:=di (x:=v) (k:=32) (by omega)
   have e1:=di (x:=v / 4294967296) (k:=16) (by omega)
   have e2:=di (x:=v / 4294967296 / 65536) (k:=8) (by omega)
   simp only[show(2:Nat)^32=4294967296 from rfl,show(2:Nat)^16=65536 from rfl,show(2:Nat)^8=256 from rfl]at *
   omega
 ·refine lw (k:=v / 4294967296 / 65536) (c:=48) ?_ ?_ ?_ ?_ ?_ hR
  ·omega
  ·omega
  ·rfl
  ·omega
  ·
   have e0:=di (x:=v) (k:=32) (by omega)
   have e1:=di (x:=v / 4294967296) (k:=16) (by omega)
   simp only[show(2:Nat)^32=4294967296 from rfl,show(2:Nat)^16=65536 from rfl,show(2:Nat)^8=256 from rfl]at *
   omega
 ·refine lw (k:=v / 4294967296 / 256) (c:=40) ?_ ?_ ?_ ?_ ?_ hR
  ·omega
  ·omega
  ·rfl
  ·omega
  ·
   have e0:=di (x:=v) (k:=32) (by omega)
   have e1:=di (x:=v / 4294967296) (k:=8) (by omega)
   simp only[show(2:Nat)^32=4294967296 from rfl,show(2:Nat)^16=65536 from rfl,show(2:Nat)^8=256 from rfl]at *
   omega
 ·refine lw (k:=v / 4294967296) (c:=32) ?_ ?_ ?_ ?_ ?_ hR
  ·omega
  ·omega
  ·rfl
  ·omega
  ·
   have e0:=di (x:=v) (k:=32) (by omega)
   simp only[show(2:Nat)^32=4294967296 from rfl,show(2:Nat)^16=65536 from rfl,show(2:Nat)^8=256 from rfl]at *
   omega
 ·refine lw (k:=v / 65536 / 256) (c:=24) ?_ ?_ ?_ ?_ ?_ hR
  ·omega
  ·omega
  ·rfl
  ·omega
  ·
   have e0:=di (x:=v) (k:=16) (by omega)
   have e1:=di (x:=v / 65536) (k:=8) (by omega)
   simp only[show(2:Nat)^32=4294967296 from rfl,show(2:Nat)^16=65536 from rfl,show(2:Nat)^8=256 from rfl]at *
   omega
 ·refine lw (k:=v / 65536) (c:=16) ?_ ?_ ?_ ?_ ?_ hR
  ·omega
  ·omega
  ·rfl
  ·omega
  ·
   have e0:=di (x:=v) (k:=16) (by omega)
   simp only[show(2:Nat)^32=4294967296 from rfl,show(2:Nat)^16=65536 from rfl,show(2:Nat)^8=256 from rfl]at *
   omega
 ·refine lw (k:=v / 256) (c:=8) ?_ ?_ ?_ ?_ ?_ hR
  ·omega
  ·omega
  ·rfl
  ·omega
  ·
   have e0:=di (x:=v) (k:=8) (by omega)
   simp only[show(2:Nat)^32=4294967296 from rfl,show(2:Nat)^16=65536 from rfl,show(2:Nat)^8=256 from rfl]at *
   omega
 ·refine lw (k:=v) (c:=0) ?_ ?_ ?_ ?_ ?_ hR
  ·omega
  ·omega
  ·rfl
  ·omega
  ·omega
theorem ko{w:World}{v:Nat}(hv:v<2^64):Calls P 140 #[.int .u64 (v:Int)] w fun ev w'=>ev=.returned (.int .i64 (blen v:Int))/\w'=w:=qn5 hv ⟨rfl,rfl⟩
theorem qa2:∀ n:Nat,dl 0 n=List.replicate n false
 | 0=>rfl
 | n+1=>by
  rw[dl,qa2 n,List.replicate_succ]
  congr 1
  simp[rh]
theorem _root_.Go.V.Kp.tysThen{w w' w'':World}{base:Nat}{ts:List TypeId}(h:Kp w w' (TyS w base ts))(h':Kp w' w'' (TyS w' base ts)):Kp w w'' (TyS w base ts):=by
 refine h.then h' fun k hk ht=>?_
 by_cases hc:TyS w base ts k
 ·exact hc
 ·obtain⟨h1,t,h2,cur,fr,h3⟩:=ht
  exact⟨h1,t,h2,cur,fr,by rw[← h.block k hk hc];exact h3⟩
theorem xe{w:World}{base g v:Nat}{bits:List Bool}(h:Wr w base g bits)(hv:0<v/\v<2^64)(hl:bits.length<=2^29)(hbase:base<=w.heap.size):
    Calls P 150 #[.pointer (some ⟨g,0,none⟩),.int .u64 (v:Int)] w fun ev w'=>ev=.returned (.tuple #[])/\Wr w' base g (bits++vr v)/\Kp w w' (TyS w base [214,5]):=by
  apply vc150;dsimp only[VC150,Wt,Br,Bb,Rd,Rc,Rs,Ix,rI_,rB_,rS_]
  try simp only[InK]
  have hb:=(kz v).2 hv.1
  have hb2:=xu (v:=v) (k:=64) hv.2
  refine⟨fun h=>(by cases h),fun _=>⟨fun h=>(by omega),fun _=>(ko hv.2).mono fun ev w1 hh=>?_⟩⟩
  obtain⟨rfl,rfl⟩:=hh
  have e:(blen v:Int)-1=((blen v-1:Nat):Int):=by omega
  refine⟨_,rfl,by omega,?_⟩
  rw[e]
  refine(uo (v:=0) (n:=blen v-1) h (by omega) (by omega) (by omega) hbase).mono fun ev w2 hh=>?_
  obtain⟨rfl,h2,k2⟩:=hh
  rw[qa2]at h2
  refine⟨rfl,(uo (v:=(v:Int)) (n:=blen v) h2 (by omega) hb2 (by simp;omega) (Nat.le_trans hbase k2.size)).mono fun ev w3 hh=>?_⟩
  obtain⟨rfl,h3,k3⟩:=hh
  refine⟨rfl,trivial,?_,k2.tysThen k3⟩
  unfold vr
  rw[← List.append_assoc];exact h3
theorem qox{bs:List Bool}{z:Nat}(h:∀ i,i<z->bs[i]?=some false):z<=zer bs:=by
 induction z generalizing bs with
 | zero=>omega
 | succ z ih =>
  cases bs with
  | nil=>have:=h 0 (by omega);simp at this
  | cons b bs =>
   have h0:=h 0 (by omega)
   simp at h0;subst h0
   have:=ih (bs:=bs) (fun i hi=>by simpa using h (i+1) (by omega))
   unfold zer at this ⊢
   rw[List.takeWhile_cons];simp;omega
theorem qhb(k:IntKind)(a b:Int):bop .or k a b=bop .or k b a:=by
 unfold bop
 simp[BitVec.or_comm]
theorem qqt{l:List Int}{at_ i:Nat}(h:at_+i<8*l.length):((bg l).drop at_)[i]?=some (jd l (at_+i)):=by
 rw[List.getElem?_drop]
 unfold bg
 simp[h]
def GamR(w':World)(g:Nat)(A:Option Addr)(n c:Nat)(l:List Int)(at_:Nat)(ev:Ending):Prop :=
 match qj2 ((bg l).drop at_)with
 | some (v,k)=>ev=.returned (.tuple #[.int .u64 v,.bool true])/\yg w' g A n c l (at_+k)
 | none=>ev=.returned (.tuple #[.int .u64 0,.bool false])/\yg w' g A n c l at_
theorem qgu {w:World} {g:Nat} {A:Option Addr} {n c:Nat} {l:List Int} {at_:Nat} (h:yg w g A n c l at_) (hl:l.length<=2^40) (hb:bf l) :
    Calls P 184 #[.pointer (some ⟨g,0,none⟩)] w fun ev w'=>Kp w w' (fun q=>q=g)/\GamR w' g A n c l at_ ev:=by
  apply vc184;dsimp only[VC184,Wt,Br,Bb,Rd,Rc,Rs,Ix,rI_,rB_,rS_]
  try simp only[InK]
  have hlt:=(Array.getElem?_eq_some_iff.1 h.blk).1
  have s0:(w.alloc (.cells #[.slice none 0 0,.int .i64 0] 240)).heap[w.heap.size]?=some (.cells #[.slice none 0 0,.int .i64 0] 240 (0,0)):=heap_alloc_new w _
  have s1:=ah s0 0 (.slice A n c)
  have s2:=ah s1 1 (.int .i64 (at_:Int))
  have g1:w.grownBy (((w.alloc (.cells #[.slice none 0 0,.int .i64 0] 240)).setCell ⟨w.heap.size,0,none⟩ (.slice A n c)).setCell ⟨w.heap.size,1,none⟩ (.int .i64 (at_:Int))) none :=
    (ck (ck (Kp.of_none (S:=fun k=>w.heap.size<=k) (cf (af w none) _)) (Nat.le_refl _)) (Nat.le_refl _)).grown (fun k hk e=>by omega)
  refine⟨fun h=>(by cases h),fun _=>⟨_,rfl,_,_,_,aa h.blk 0,_,by rw[au];exact aa h.blk 1,⟨_,aa s0 0⟩,ae s0 0,⟨_,aa s1 1⟩,ae s1 1,?_⟩⟩
  have bW:(((w.alloc (.cells #[.slice none 0 0,.int .i64 0] 240)).setCell ⟨w.heap.size,0,none⟩ (.slice A n c)).setCell ⟨w.heap.size,1,none⟩ (.int .i64 (at_:Int))).heap[w.heap.size]?=some (.cells #[.slice A n c,.int .i64 (at_:Int)] 240 (0,0)):=by simpa using s2
  obtain⟨w1,hw1⟩:∃ w1,w1=((w.alloc (.cells #[.slice none 0 0,.int .i64 0] 240)).setCell ⟨w.heap.size,0,none⟩ (.slice A n c)).setCell ⟨w.heap.size,1,none⟩ (.int .i64 (at_:Int)):=⟨_,rfl⟩
  rw[← hw1]at bW g1 ⊢
  have hdl:((bg l).drop at_).length=8*l.length-at_:=by rw[List.length_drop,dw]
  have hle:=h.le
  -- back to where it was
  have back:∀(W:World)(z:Nat),Kp w W (fun q=>q=g)->W.heap[w.heap.size]?=some (.cells #[.slice A n c,.int .i64 (at_:Int)] 240 (0,0))->yg W g A n c l (at_+z)->qj2 ((bg l).drop at_)=none →
      ∃ (x40A:Option Addr) (x40n x40c:Nat),World.cell? W ⟨w.heap.size,0,none⟩=some (.slice x40A x40n x40c)/\∃ x40:Int,World.cell? W ⟨w.heap.size,1,none⟩=some (.int .i64 x40)/\∃ a41:Addr,(some (⟨g,0,none⟩:Addr))=some a41/\((∃ uv_:Value,World.cell? W a41=some uv_)/\World.frozen? W a41=false/\((∃ uv_:Value,World.cell? (World.setCell W a41 (.slice x40A x40n x40c)) (a41.add 1)=some uv_)/\World.frozen? (World.setCell W a41 (.slice x40A x40n x40c)) (a41.add 1)=false ∧
        (Kp w (World.setCell (World.setCell W a41 (.slice x40A x40n x40c)) (a41.add 1) (.int .i64 x40)) (fun q=>q=g)/\GamR (World.setCell (World.setCell W a41 (.slice x40A x40n x40c)) (a41.add 1) (.int .i64 x40)) g A n c l at_ (.returned (.tuple #[.int .u64 0,.bool false]))))):=by
    intro W z hK hB hR hT
    have t1:=ah hR.blk 0 (.slice A n c)
    have t2:=ah t1 1 (.int .i64 (at_:Int))
    have K:Kp w ((W.setCell ⟨g,0,none⟩ (.slice A n c)).setCell ⟨g,1,none⟩ (.int .i64 (at_:Int))) (fun q=>q=g):=ck (ck hK rfl) rfl
    refine⟨_,_,_,aa hB 0,_,aa hB 1,_,rfl,⟨_,aa hR.blk 0⟩,ae hR.blk 0,⟨_,by rw[au];exact aa t1 1⟩,by rw[au];exact ae t1 1,?_⟩
    rw[au]
    refine⟨K,?_⟩
    unfold GamR
    rw[hT]
    exact⟨rfl,by simpa using t2,h.row.kpE K (fun a ha=>(h.ne a ha).imp (fun e=>by rw[e];rfl) id),h.len,h.le,h.ne⟩
  refine⟨fun m i W=>∃ z:Nat,i=(z:Int)/\z<=64/\64-z=m/\Kp w W (fun q=>q=g)/\W.heap[w.heap.size]?=some (.cells #[.slice A n c,.int .i64 (at_:Int)] 240 (0,0))/\yg W g A n c l (at_+z)/\∀ j,j<z->((bg l).drop at_)[j]?=some false,
    ⟨_,0,rfl,by omega,rfl,Kp.of_none g1,bW,h.kept g1,fun j hj=>by omega⟩,?_⟩
  rintro m i w2 ⟨z,rfl,hz,rfl,hK,hB,hR,hzero⟩
  have tz:(z:Int).toNat=z:=by omega
  rw[tz]
  refine⟨fun hlt64=>(qo (k:=1) hR hl hb (by omega)).mono fun ev w3 hh=>?_,fun hge=>back w2 z hK hB hR ?_⟩
  · obtain⟨K3,⟨r1,rfl,R3⟩ | ⟨r1,rfl,R3⟩⟩:=hh
    · have hK3:Kp w w3 (fun q=>q=g):=hK.then K3 (fun k _ h=>h)
      have hB3:w3.heap[w.heap.size]?=some (.cells #[.slice A n c,.int .i64 (at_:Int)] 240 (0,0)):=by rw[K3.block _ (Array.getElem?_eq_some_iff.1 hB).1 (by omega)];exact hB
      have hbit:=qqt (l:=l) (at_:=at_) (i:=z) (by omega)
      have hval:=zo (l:=l) (at_:=at_+z) (by omega)
      rw[hval]
      refine⟨_,_,rfl,fun h=>(by cases h),fun _=>⟨fun h0=>⟨by omega,_,?_,z+1,by omega,by omega,rfl,hK3,hB3,by rw[← Nat.add_assoc];exact R3,fun j hj=>?_⟩,fun h1=>?_⟩⟩
      · omega
      · by_cases e:j=z
        · subst e
          rw[hbit]
          congr 1
          cases hbb:jd l (at_+j)with
          | false=>rfl
          | true=>rw[hbb]at h0;simp[b2i]at h0
        · exact hzero j (by omega)
      · have hbt:jd l (at_+z)=true:=by
          cases hbb:jd l (at_+z)with
          | true=>rfl
          | false=>rw[hbb]at h1;simp[b2i]at h1
        rw[hbt]at hbit
        have hzer:zer ((bg l).drop at_)=z:=zer_is hzero (by rw[hbit];simp)
        refine(qo (k:=z) R3 hl hb (by omega)).mono fun ev w4 hh=>?_
        obtain⟨K4,⟨r2,rfl,R4⟩ | ⟨r2,rfl,R4⟩⟩:=hh
        · have hK4:Kp w w4 (fun q=>q=g):=hK3.then K4 (fun k _ h=>h)
          have hv:=qcv (((bg l).drop (at_+z+1)).take z)
          have hvl:(((bg l).drop (at_+z+1)).take z).length=z:=by rw[List.length_take,List.length_drop,dw];omega
          rw[hvl]at hv
          have hmin:min z 64=z:=by omega
          have hp:=Int.pow_pos (n:=2) (m:=z) (by omega)
          have hp63:(2:Int)^z<=2^63:=by
            have:=Nat.pow_le_pow_right (n:=2) (by omega) (show z<=63 by omega)
            have e:((2^z:Nat):Int)=2^z:=by simp
            omega
          rw[hmin]
          refine⟨_,_,rfl,fun h=>(by cases h),fun _=>⟨⟨by omega,by omega,by omega⟩,hK4,?_⟩⟩
          unfold GamR qj2
          rw[hzer,if_pos ⟨by omega,by rw[hdl];omega⟩]
          refine⟨?_,?_⟩
          · rw[qhb,qge hv.1 hv.2 (by omega) (by omega),List.drop_drop,← Nat.add_assoc]
            congr 5
            omega
          · have:at_+(2*z+1)=at_+z+1+z:=by omega
            rw[this];exact R4
        · have hK4:Kp w w4 (fun q=>q=g):=hK3.then K4 (fun k _ h=>h)
          refine⟨_,_,rfl,fun _=>back w4 (z+1) hK4 (by rw[K4.block _ (Array.getElem?_eq_some_iff.1 hB3).1 (by omega)];exact hB3) (by rw[← Nat.add_assoc];exact R4) ?_,fun h=>absurd rfl h⟩
          unfold qj2
          rw[hzer,if_neg (by rw[hdl];omega)]
    · refine⟨_,_,rfl,fun _=>back w3 z (hK.then K3 (fun k _ h=>h)) (by rw[K3.block _ (Array.getElem?_eq_some_iff.1 hB).1 (by omega)];exact hB) R3 ?_,fun h=>absurd rfl h⟩
      have h1:=qox hzero
      unfold qj2
      rw[if_neg (by rw[hdl];omega)]
  · have h1:=qox hzero
    unfold qj2
    rw[if_neg (by omega)]
theorem za(g i j:Nat):(⟨g,i,none⟩:Addr).add j=⟨g,i+j,none⟩:=by unfold Addr.add;split <;>simp_all
theorem qx{t0:Int}:∀ {l:List Evt} {p:Option Evt},qci t0 p l=true↔(∀ e∈l,0<=e.t/\e.t<=4611686018427387903/\e.u<e.v)/\(∀ j (hj:j+1<l.length),br l[j] l[j+1]=true)/\(∀ e,l.head?=some e->match p with | none=>e.t=t0 | some q=>br q e=true)
 | [],p=>by simp[qci]
 | e ::l,p=>by
  have ih:=qx (t0:=t0) (l:=l) (p:=some e)
  unfold qci
  rw[Bool.and_eq_true,Bool.and_eq_true,ih,decide_eq_true_eq]
  constructor
  ·rintro⟨⟨h1,h2⟩,h3,h4,h5⟩
   refine⟨fun a ha=>?_,fun j hj=>?_,fun a ha=>?_⟩
   ·rcases List.mem_cons.1 ha with rfl | ha
    ·exact h1
    ·exact h3 a ha
   ·cases j with
    | zero =>
     have h0:0<l.length:=by simpa using hj
     exact h5 l[0] (by rw[List.head?_eq_getElem?];simp[h0])
    | succ j=>exact h4 j (by simpa using hj)
   ·have:a=e:=by simpa using ha.symm
    subst this
    cases p with
    | none=>simpa using h2
    | some q=>exact h2
  ·rintro⟨h1,h2,h3⟩
   refine⟨⟨h1 e (by simp),?_⟩,fun a ha=>h1 a (by simp[ha]),fun j hj=>h2 (j+1) (Nat.succ_lt_succ hj),fun a ha=>?_⟩
   ·have:=h3 e rfl
    cases p with
    | none=>simpa using this
    | some q=>exact this
   ·have h0:0<l.length:=by cases l with | nil=>simp at ha | cons=>simp
    have:=h2 0 (by simpa using h0)
    have e':l[0]=a:=by rw[List.head?_eq_getElem?,List.getElem?_eq_getElem h0]at ha;exact Option.some.inj ha
    rw[← e'];exact this
theorem qfj {w:World} {A:Option Addr} {n c:Nat} {l:List Evt} {t0:Int} (hr:Row w A (fh l)) (hn:n=l.length) (hl:n<=2^20) :
    Calls P 106 #[.int .i64 t0,.slice A n c] w fun ev w'=>ev=.returned (.bool (qci t0 none l))/\w.grownBy w' none:=by
  apply vc106;dsimp only[VC106,Wt,Br,Bb,Rd,Rc,Rs,Ix,rI_,rB_,rS_]
  try simp only[InK]
  have no:∀ {p:Nat} (hp:p<l.length),¬ (0<=l[p].t/\l[p].t<=4611686018427387903/\l[p].u<l[p].v)->qci t0 none l=false:=by
    intro p hp h
    rw[Bool.eq_false_iff]
    intro hd
    exact h ((qx.1 hd).1 _ (List.getElem_mem hp))
  refine⟨fun m i w'=>∃ p:Nat,i=(p:Int)/\p<=l.length/\l.length-p=m/\w.grownBy w' none/\(∀ j (hj:j<l.length),j<p->0<=l[j].t/\l[j].t<=4611686018427387903/\l[j].u<l[j].v)/\∀ j (hj:j+1<l.length),j+1<p->br l[j] l[j+1]=true,
    ⟨_,0,rfl,by omega,rfl,af _ _,fun j hj h=>by omega,fun j hj h=>by omega⟩,?_⟩
  rintro m i w1 ⟨p,rfl,hp,rfl,hg,hok,hbf⟩
  have tp:(p:Int).toNat=p:=by omega
  have tp1:((p:Int)-1).toNat=p-1:=by omega
  rw[tp,tp1]
  refine⟨fun hlt=>?_,fun hge=>?_⟩
  · have lp:p<l.length:=by omega
    obtain⟨a,e1,e2,e3,e4,e5⟩:=jm (hr.kept_none hg) lp
    have sE0:(w1.alloc (.cells #[.int .i64 0,.int .u32 0,.int .u32 0,.bool false] 62)).heap[w1.heap.size]?=some (.cells #[.int .i64 0,.int .u32 0,.int .u32 0,.bool false] 62 (0,0)):=heap_alloc_new w1 _
    have sE1:=ah sE0 0 (.int .i64 l[p].t)
    have sE2:=ah sE1 1 (.int .u32 l[p].u)
    have sE3:=ah sE2 2 (.int .u32 l[p].v)
    have sE4:=ah sE3 3 (.bool l[p].add)
    have bE:(((((w1.alloc (.cells #[.int .i64 0,.int .u32 0,.int .u32 0,.bool false] 62)).setCell ⟨w1.heap.size,0,none⟩ (.int .i64 l[p].t)).setCell ⟨w1.heap.size,1,none⟩ (.int .u32 l[p].u)).setCell ⟨w1.heap.size,2,none⟩ (.int .u32 l[p].v)).setCell ⟨w1.heap.size,3,none⟩ (.bool l[p].add)).heap[w1.heap.size]?=some (.cells #[.int .i64 l[p].t,.int .u32 l[p].u,.int .u32 l[p].v,.bool l[p].add] 62 (0,0)):=by simpa using sE4
    have gE:w1.grownBy (((((w1.alloc (.cells #[.int .i64 0,.int .u32 0,.int .u32 0,.bool false] 62)).setCell ⟨w1.heap.size,0,none⟩ (.int .i64 l[p].t)).setCell ⟨w1.heap.size,1,none⟩ (.int .u32 l[p].u)).setCell ⟨w1.heap.size,2,none⟩ (.int .u32 l[p].v)).setCell ⟨w1.heap.size,3,none⟩ (.bool l[p].add)) none:=(Kp.grown (ck (ck (ck (ck (Kp.of_none (S:=fun k=>w1.heap.size<=k) (cf (af w1 none) _)) (Nat.le_refl _)) (Nat.le_refl _)) (Nat.le_refl _)) (Nat.le_refl _)) (fun k hk e=>by omega))
    obtain⟨w2,hE⟩:∃ w2,w2=(((((w1.alloc (.cells #[.int .i64 0,.int .u32 0,.int .u32 0,.bool false] 62)).setCell ⟨w1.heap.size,0,none⟩ (.int .i64 l[p].t)).setCell ⟨w1.heap.size,1,none⟩ (.int .u32 l[p].u)).setCell ⟨w1.heap.size,2,none⟩ (.int .u32 l[p].v)).setCell ⟨w1.heap.size,3,none⟩ (.bool l[p].add)):=⟨_,rfl⟩
    rw[← hE]at bE gE
    refine⟨a,e1,by omega,by omega,_,e2,_,e3,_,e4,_,e5,⟨_,aa sE0 0⟩,ae sE0 0,⟨_,aa sE1 1⟩,ae sE1 1,⟨_,aa sE2 2⟩,ae sE2 2,⟨_,aa sE3 3⟩,ae sE3 3,?_⟩
    rw[← hE]
    have gd:=aj (af w2 none)
    have bE2:=ai bE gd
    have hg2:=ab (ab hg gE) gd
    refine⟨_,aa bE2 0,fun h1=>⟨?_,hg2⟩,fun h1=>⟨_,aa bE2 0,fun h2=>⟨?_,hg2⟩,fun h2=>⟨_,aa bE2 1,_,aa bE2 2,fun h3=>⟨?_,hg2⟩,fun h3=>?_⟩⟩⟩
    · rw[no lp (by omega)]
    · rw[no lp (by omega)]
    · rw[no lp (by omega)]
    · have ok':∀ j (hj:j<l.length),j<p+1->0<=l[j].t/\l[j].t<=4611686018427387903/\l[j].u<l[j].v:=by
        intro j hj hjp
        by_cases e:j=p
        · subst e;omega
        · exact hok j hj (by omega)
      refine⟨fun hpos=>?_,fun hz=>⟨by omega,_,?_,p+1,by omega,by omega,rfl,hg2,ok',fun j hj h=>by omega⟩⟩
      · obtain⟨a',q1,q2,q3,q4,q5⟩:=jm (hr.kept_none hg2) (show p-1<l.length by omega)
        refine⟨by omega,a',q1,by omega,by omega,_,q2,_,q3,_,q4,_,q5,_,aa bE2 0,_,aa bE2 1,_,aa bE2 2,_,aa bE2 3,(vf l[p-1] l[p]).mono fun ev w3 hh=>?_⟩
        obtain⟨rfl,g3⟩:=hh
        refine⟨_,rfl,fun h4=>⟨?_,ab hg2 g3⟩,fun h4=>⟨by omega,_,?_,p+1,by omega,by omega,rfl,ab hg2 g3,ok',fun j hj hjp=>?_⟩⟩
        · congr 2
          symm
          rw[Bool.eq_false_iff]
          intro hd
          have:=(qx.1 hd).2.1 (p-1) (by omega)
          have e:p-1+1=p:=by omega
          simp only[e]at this
          rw[this]at h4;cases h4
        · omega
        · by_cases e:j+1=p
          · subst e;simpa using h4
          · exact hbf j hj (by omega)
      · omega
  · have:p=l.length:=by omega
    subst this
    refine⟨fun h0=>⟨?_,hg⟩,fun h0=>?_⟩
    · have:l=[]:=List.eq_nil_of_length_eq_zero (by omega)
      subst this;rfl
    · have l0:0<l.length:=by omega
      obtain⟨a,e1,e2,e3,e4,e5⟩:=jm (hr.kept_none hg) l0
      refine⟨a,e1,by omega,by omega,_,by simpa[Addr.add]using e2,?_,hg⟩
      congr 2
      have hhd:l.head?=some l[0]:=by rw[List.head?_eq_getElem?,List.getElem?_eq_getElem l0]
      cases hd:qci t0 none l with
      | true=>simpa using(qx.1 hd).2.2 _ hhd
      | false =>
        rw[decide_eq_false_iff_not]
        intro h
        have:qci t0 none l=true:=qx.2 ⟨fun e he=>by obtain⟨j,hj,rfl⟩:=List.mem_iff_getElem.1 he;exact hok j hj hj,fun j hj=>hbf j hj hj,fun e he=>by
          rw[hhd]at he;cases he;exact h⟩
        rw[hd]at this;cases this
def dm(t0:Int)(p:Option Evt):Evt:=p.getD ⟨t0,0,0,false⟩
theorem qcd(t0:Int)(p:Option Evt)(e:Evt):ni t0 p e=(e.t-(dm t0 p).t).toNat+1:=by cases p <;>rfl
theorem qce(t0:Int)(p:Option Evt)(e:Evt):td p e=if p.isSome=true/\e.t=(dm t0 p).t then(e.u-(dm t0 p).u).toNat+1 else e.u.toNat+1:=by cases p <;>simp[td,dm]
theorem qcc(t0:Int)(p:Option Evt)(e:Evt):rg p e=if p.isSome=true/\e.t=(dm t0 p).t then(if e.u=(dm t0 p).u then(e.v-(dm t0 p).v).toNat else(e.v-e.u).toNat) else(e.v-e.u).toNat:=by
 cases p with
 | none=>simp[rg]
 | some q =>
  simp only[rg,dm,Option.getD_some,Option.isSome_some,true_and]
  by_cases h:e.t=q.t
  ·by_cases h2:e.u=q.u
   ·simp[h,h2]
   ·simp[h,h2]
  ·simp[h]
structure DWr(w:World)(base g gw:Nat)(t0:Int)(p:Option Evt)(bits:List Bool):Prop where
 wr:Wr w base g bits
 low:base<=gw
 blk:w.heap[gw]?=some (.cells #[.pointer (some ⟨g,0,none⟩),.int .i64 (dm t0 p).t,.int .u32 (dm t0 p).u,.int .u32 (dm t0 p).v,.bool (dm t0 p).add,.bool p.isSome] 166 (0,0))
theorem qlv{w:World}{base k:Nat}{ts:List TypeId}{cur:Array Value}{t:TypeId}{fr:Nat×Nat}(h:w.heap[k]?=some (.cells cur t fr))(ht:t ∉ ts):¬ TyS w base ts k:=by
 rintro⟨_,t',h1,cur',fr',h2⟩
 rw[h]at h2;cases h2
 exact ht h1
theorem qg0{w:World}{base g gw:Nat}{t0:Int}{p:Option Evt}{e:Evt}{bits:List Bool}(h:DWr w base g gw t0 p bits)(he:OkE t0 p e)(hp:rt p)(hp2:∀ q,p=some q->q.u<=4294967295/\q.v<=4294967295)(hl:bits.length<=2^28)(hbase:base<=w.heap.size)(ht0:0<=t0∨p≠none):
    Calls P 108 #[.pointer (some ⟨gw,0,none⟩),evtV e] w fun ev w'=>ev=.returned (.tuple #[])/\DWr w' base g gw t0 (some e) (bits++evB t0 p e)/\Kp w w' (fun k=>TyS w base [214,5] k∨k=gw):=by
  apply vc108;dsimp only[VC108,Wt,Br,Bb,Rd,Rc,Rs,Ix,rI_,rB_,rS_]
  have hn:=he.nums hp
  have hgE:=qml hp he
  obtain⟨h1,h2,h3⟩:=he
  have hq:0<=(dm t0 p).t/\0<=(dm t0 p).u/\(dm t0 p).u<=4294967295/\0<=(dm t0 p).v/\(dm t0 p).v<=4294967295/\(dm t0 p).t<=e.t/\(p.isSome=true->e.t=(dm t0 p).t->(dm t0 p).u<e.u∨(dm t0 p).u=e.u/\(dm t0 p).v<e.v):=by
    cases p with
    | none=>simp only at h3;simp[dm];omega
    | some q =>
      have a1:=hp q rfl
      have a2:=hp2 q rfl
      simp only[eu]at h3
      simp only[dm,Option.getD_some]
      refine⟨by omega,by omega,by omega,by omega,by omega,by omega,fun _ _=>by omega⟩
  have hbl:=h.blk
  have hgw:=(Array.getElem?_eq_some_iff.1 hbl).1
  have hG:=qcd t0 p e
  have hF:=qce t0 p e
  have hS:=qcc t0 p e
  generalize hqq:dm t0 p=q at *
  generalize hany:p.isSome=any at *
  obtain⟨gaps,hgaps⟩:∃ x,x=ni t0 p e:=⟨_,rfl⟩
  obtain⟨fst,hfst⟩:∃ x,x=td p e:=⟨_,rfl⟩
  obtain⟨snd,hsnd⟩:∃ x,x=rg p e:=⟨_,rfl⟩
  have hev:evB t0 p e=vr gaps++(e.add ::(vr fst++vr snd)):=by unfold evB;rw[hgaps,hfst,hsnd]
  rw[← hgaps]at hG hn
  rw[← hfst]at hF hn
  rw[← hsnd]at hS hn
  rw[hev]at hgE ⊢
  simp only[List.length_append,List.length_cons]at hgE
  simp only[InK]
  have g1:=World.grownBy_alloc w (.cells #[.int .i64 e.t,.int .u32 e.u,.int .u32 e.v,.bool e.add] 62) none
  have b1:(w.alloc (.cells #[.int .i64 e.t,.int .u32 e.u,.int .u32 e.v,.bool e.add] 62)).heap[w.heap.size]?=some (.cells #[.int .i64 e.t,.int .u32 e.u,.int .u32 e.v,.bool e.add] 62 (0,0)):=heap_alloc_new w _
  obtain⟨w1,hw_w1⟩:∃ w1,w1=w.alloc (.cells #[.int .i64 e.t,.int .u32 e.u,.int .u32 e.v,.bool e.add] 62):=⟨_,rfl⟩
  rw[← hw_w1]at g1 b1 ⊢
  have gd:=ab g1 (aj (af w1 none))
  have bd:w1.drew.heap[w.heap.size]?=some (.cells #[.int .i64 e.t,.int .u32 e.u,.int .u32 e.v,.bool e.add] 62 (0,0)):=b1
  have bG:=ai hbl gd
  have hnE:62 ∉ [214,5]:=by decide
  have hnW:166 ∉ [214,5]:=by decide
  have hge:0<gaps:=by rw[hG];omega
  have kgap:e.t-q.t+1=(gaps:Int):=by rw[hG];omega
  refine⟨_,rfl,_,aa bG 0,_,aa bd 0,_,rfl,_,by rw[au];exact aa bG 1,by omega,by omega,by omega,?_⟩
  rw[kgap]
  refine(xe (h.wr.kept gd) ⟨hge,by omega⟩ (by omega) (Nat.le_trans hbase gd.size)).mono fun ev w2 hh=>?_
  obtain⟨rfl,hW2,K2⟩:=hh
  have stay:∀ {W W':World} {k:Nat} {cur:Array Value} {t:TypeId},W.heap[k]?=some (.cells cur t (0,0))->Kp W W' (TyS W base [214,5])->t ∉ [214,5]->W'.heap[k]?=some (.cells cur t (0,0)):=by
    intro W W' k cur t hb hK ht
    rw[hK.block k (Array.getElem?_eq_some_iff.1 hb).1 (qlv hb ht)];exact hb
  have b2:=stay bd K2 hnE
  have bG2:=stay bG K2 hnW
  have Kw:Kp w w2 (TyS w base [214,5]):=(Kp.of_none (S:=TyS w base [214,5]) gd).tysThen K2
  refine⟨rfl,fun s w'=>s=b2i e.add/\w'=w2,⟨_,aa b2 3,fun ha=>⟨by rw[ha];rfl,rfl⟩,fun ha=>⟨by rw[ha];rfl,rfl⟩⟩,?_⟩
  rintro s w3 ⟨rfl,rfl⟩
  have hbi:=jn e.add
  refine⟨_,rfl,_,aa bG2 0,(uo (v:=b2i e.add) (n:=1) hW2 (by omega) (by omega) (by simp;omega) (Nat.le_trans hbase Kw.size)).mono fun ev w4 hh=>?_⟩
  obtain⟨rfl,hW4,K4⟩:=hh
  have hbit:dl (b2i e.add) 1=[e.add]:=by cases e.add <;>rfl
  rw[hbit]at hW4
  have b4:=stay b2 K4 hnE
  have bG4:=stay bG2 K4 hnW
  have Kw4:=Kw.tysThen K4
  have gd4:=aj (af w4 none)
  -- the vertices of the event ahead
  have s0:(w4.drew.alloc (.cells #[.int .u32 0,.int .u32 0] 45)).heap[w4.drew.heap.size]?=some (.cells #[.int .u32 0,.int .u32 0] 45 (0,0)):=heap_alloc_new w4.drew _
  have s1:=ah s0 0 (.int .u32 q.u)
  have s2:=ah s1 1 (.int .u32 q.v)
  have gS0:=ab gd4 (World.grownBy_alloc w4.drew (.cells #[.int .u32 0,.int .u32 0] 45) none)
  have gS:w4.grownBy (((w4.drew.alloc (.cells #[.int .u32 0,.int .u32 0] 45)).setCell ⟨w4.drew.heap.size,0,none⟩ (.int .u32 q.u)).setCell ⟨w4.drew.heap.size,1,none⟩ (.int .u32 q.v)) none :=
    (ck (ck (Kp.of_none (S:=fun k=>w4.heap.size<=k) gS0) (Nat.le_refl _)) (Nat.le_refl _)).grown (fun k hk e=>by omega)
  have bQ:(((w4.drew.alloc (.cells #[.int .u32 0,.int .u32 0] 45)).setCell ⟨w4.drew.heap.size,0,none⟩ (.int .u32 q.u)).setCell ⟨w4.drew.heap.size,1,none⟩ (.int .u32 q.v)).heap[w4.drew.heap.size]?=some (.cells #[.int .u32 q.u,.int .u32 q.v] 45 (0,0)):=by simpa using s2
  refine⟨rfl,fun wq=>w4.grownBy wq none,gd4,_,fun wq gq=>aa (ai b4 gq) 1,by omega,by omega,_,fun wq gq=>aa (ai b4 gq) 2,_,fun wq gq=>aa (ai b4 gq) 1,by omega,by omega,_,rfl,_,fun wq gq=>by rw[iw,au];exact aa (ai bG4 gq) 2,_,fun wq gq=>by rw[iw,iw,au];exact aa (ai bG4 gq) 3,gS0,⟨_,aa s0 0⟩,ae s0 0,⟨_,aa s1 1⟩,ae s1 1,gS,?_⟩
  obtain⟨w5,hw5⟩:∃ w5,w5=((w4.drew.alloc (.cells #[.int .u32 0,.int .u32 0] 45)).setCell ⟨w4.drew.heap.size,0,none⟩ (.int .u32 q.u)).setCell ⟨w4.drew.heap.size,1,none⟩ (.int .u32 q.v):=⟨_,rfl⟩
  rw[← hw5]at gS bQ ⊢
  have gS5:=ab gS (aj (af w5 none))
  have bQ5:=ai bQ (aj (af w5 none))
  refine⟨fun u v w'=>u=(fst:Int)/\v=(snd:Int)/\w'=w5.drew,⟨fun b w'=>b=(any && decide (e.t=q.t))/\w'=w5.drew,⟨_,rfl,_,by rw[au];exact aa (ai bG4 gS5) 5,fun ha=>⟨_,aa (ai b4 gS5) 0,_,rfl,_,by rw[au];exact aa (ai bG4 gS5) 1,by rw[ha];rfl,rfl⟩,fun ha=>⟨by rw[ha];rfl,rfl⟩⟩,?_⟩,?_⟩
  · rintro b w6 ⟨hb,rfl⟩
    refine⟨fun hbt=>?_,fun hbf=>⟨?_,?_,rfl⟩⟩
    · rw[hbt]at hb
      have hb':=hb.symm
      simp only[Bool.and_eq_true,decide_eq_true_eq]at hb'
      have ho:=hq.2.2.2.2.2.2 hb'.1 hb'.2
      rw[if_pos ⟨hb'.1,hb'.2⟩]at hF hS
      refine⟨_,aa bQ5 0,by omega,by omega,_,aa (ai b4 gS5) 1,_,aa bQ5 0,fun hs=>⟨_,aa (ai b4 gS5) 2,_,aa bQ5 1,by omega,by omega,by omega,?_,rfl⟩,fun hs=>⟨by omega,?_,rfl⟩⟩
      · rw[if_pos hs]at hS;omega
      · rw[if_neg hs]at hS;omega
    · have:¬ (any=true/\e.t=q.t):=by rintro⟨a1,a2⟩;rw[a1,hbf]at hb;simp[a2]at hb
      rw[if_neg this]at hF;omega
    · have:¬ (any=true/\e.t=q.t):=by rintro⟨a1,a2⟩;rw[a1,hbf]at hb;simp[a2]at hb
      rw[if_neg this]at hS;omega
  · rintro u v w6 ⟨rfl,rfl,rfl⟩
    have b6:=ai b4 gS5
    have bG6:=ai bG4 gS5
    have Kw6:Kp w w5.drew (TyS w base [214,5]):=Kw4.tysThen (Kp.of_none gS5)
    refine⟨_,rfl,_,aa bG6 0,(xe (hW4.kept gS5) ⟨hn.2.1.1,by omega⟩ (by simp;omega) (Nat.le_trans hbase Kw6.size)).mono fun ev w7 hh=>?_⟩
    obtain⟨rfl,hW7,K7⟩:=hh
    have b7:=stay b6 K7 hnE
    have bG7:=stay bG6 K7 hnW
    have Kw7:=Kw6.tysThen K7
    refine⟨rfl,_,rfl,_,aa bG7 0,(xe hW7 ⟨hn.2.2.1,by omega⟩ (by simp;omega) (Nat.le_trans hbase Kw7.size)).mono fun ev w8 hh=>?_⟩
    obtain⟨rfl,hW8,K8⟩:=hh
    have b8:=stay b7 K8 hnE
    have bG8:=stay bG7 K8 hnW
    have Kw8:=Kw7.tysThen K8
    have t1:=ah bG8 1 (.int .i64 e.t)
    have t2:=ah t1 2 (.int .u32 e.u)
    have t3:=ah t2 3 (.int .u32 e.v)
    have t4:=ah t3 4 (.bool e.add)
    have t5:=ah t4 5 (.bool true)
    have K9:Kp w8 (((((w8.setCell ⟨gw,1,none⟩ (.int .i64 e.t)).setCell ⟨gw,2,none⟩ (.int .u32 e.u)).setCell ⟨gw,3,none⟩ (.int .u32 e.v)).setCell ⟨gw,4,none⟩ (.bool e.add)).setCell ⟨gw,5,none⟩ (.bool true)) (fun k=>k=gw):=ck (ck (ck (ck (ck (Kp.refl w8 _) rfl) rfl) rfl) rfl) rfl
    refine⟨rfl,_,aa b8 0,_,aa b8 1,_,aa b8 2,_,aa b8 3,_,rfl,?_⟩
    simp only[za,Nat.zero_add,Nat.reduceAdd]
    refine⟨⟨_,aa bG8 1⟩,ae bG8 1,⟨_,aa t1 2⟩,ae t1 2,⟨_,aa t2 3⟩,ae t2 3,⟨_,aa t3 4⟩,ae t3 4,_,rfl,?_⟩
    simp only[za,Nat.zero_add,Nat.reduceAdd]
    refine⟨⟨_,aa t4 5⟩,ae t4 5,trivial,⟨?_,h.low,?_⟩,?_⟩
    · have:bits++(vr gaps++(e.add ::(vr fst++vr snd)))=bits++vr gaps++[e.add]++vr fst++vr snd:=by simp[List.append_assoc]
      rw[this]
      refine hW8.kp K9 (fun k hk ht e=>?_)
      subst e
      exact qlv bG8 hnW ht
    · exact Eq.trans (b:=some (.cells #[.pointer (some ⟨g,0,none⟩),.int .i64 e.t,.int .u32 e.u,.int .u32 e.v,.bool e.add,.bool true] 166 (0,0))) (by simpa using t5) rfl
    · exact(Kw8.mono (fun k _ h=>.inl h)).then K9 (fun k _ h=>.inr h)
theorem qa4.mem{l:List Evt}(h:qa4 l){e:Evt}(he:e∈l):(0<=e.u/\e.u<=4294967295)/\0<=e.v/\e.v<=4294967295:=(h e he).1
theorem qch {w:World} {A:Option Addr} {n c:Nat} {l:List Evt} {t0:Int} (hr:Row w A (fh l)) (hn:n=l.length) (hl:n<=2^19) (hb:qa4 l) :
    Calls P 67 #[.int .i64 t0,.slice A n c] w fun ev w'=>∃(A':Option Addr)(n' c':Nat),ev=.returned (.tuple #[.slice A' n' c',.int .i64 (if qci t0 none l=true then 0 else 23)])/\am w' w.heap.size 5 1 A' n' c' (u8s (if qci t0 none l=true then iv t0 l else []))/\w.grownBy w' none:=by
  apply vc67;dsimp only[VC67,Wt,Br,Bb,Rd,Rc,Rs,Ix,rI_,rB_,rS_]
  try simp only[InK]
  refine(qfj (t0:=t0) hr hn (by omega)).mono fun ev w1 hh=>?_
  obtain⟨rfl,g1⟩:=hh
  refine⟨_,rfl,fun h=>?_,fun h=>?_⟩
  · rw[h]
    exact⟨_,_,_,rfl,am.nil _ _ _ _,g1⟩
  have hd:qci t0 none l=true:=by simpa using h
  rw[hd]
  have hD:=(vg hb).1 hd
  have hlen:=vh (fun q hq=>by cases hq) hD
  refine(pg (base:=w.heap.size) g1.size).mono fun ev w2 hh=>?_
  obtain⟨rfl,hW2,g2⟩:=hh
  have g3:=World.grownBy_alloc w2 (.cells #[.pointer (some ⟨w1.heap.size,0,none⟩),.int .i64 t0,.int .u32 0,.int .u32 0,.bool false,.bool false] 166) none
  have b3:(w2.alloc (.cells #[.pointer (some ⟨w1.heap.size,0,none⟩),.int .i64 t0,.int .u32 0,.int .u32 0,.bool false,.bool false] 166)).heap[w2.heap.size]?=some (.cells #[.pointer (some ⟨w1.heap.size,0,none⟩),.int .i64 t0,.int .u32 0,.int .u32 0,.bool false,.bool false] 166 (0,0)):=heap_alloc_new w2 _
  have g02:=ab g1 g2
  have hlow:w.heap.size<=w2.heap.size:=g02.size
  obtain⟨w3,hw3⟩:∃ w3,w3=w2.alloc (.cells #[.pointer (some ⟨w1.heap.size,0,none⟩),.int .i64 t0,.int .u32 0,.int .u32 0,.bool false,.bool false] 166):=⟨_,rfl⟩
  refine⟨_,rfl,?_⟩
  rw[← hw3]at g3 b3 ⊢
  have D0:DWr w3 w.heap.size w1.heap.size w2.heap.size t0 none []:=⟨hW2.kept g3,hlow,b3⟩
  have g03:=ab g02 g3
  refine⟨fun m i w'=>∃ p:Nat,i=(p:Int)/\p<=l.length/\l.length-p=m/\w.grownBy w' none/\DWr w' w.heap.size w1.heap.size w2.heap.size t0 (nb (l.take p) none) (ic t0 none (l.take p)),⟨_,0,rfl,by omega,rfl,g03,by simpa[nb,ic]using D0⟩,?_⟩
  rintro m i w4 ⟨p,rfl,hp,rfl,hg,hW⟩
  have tp:(p:Int).toNat=p:=by omega
  rw[tp]
  refine⟨fun hlt=>?_,fun hge=>?_⟩
  · have lp:p<l.length:=by omega
    obtain⟨a,e1,e2,e3,e4,e5⟩:=jm (hr.kept_none hg) lp
    have sE0:(w4.alloc (.cells #[.int .i64 0,.int .u32 0,.int .u32 0,.bool false] 62)).heap[w4.heap.size]?=some (.cells #[.int .i64 0,.int .u32 0,.int .u32 0,.bool false] 62 (0,0)):=heap_alloc_new w4 _
    have sE1:=ah sE0 0 (.int .i64 l[p].t)
    have sE2:=ah sE1 1 (.int .u32 l[p].u)
    have sE3:=ah sE2 2 (.int .u32 l[p].v)
    have sE4:=ah sE3 3 (.bool l[p].add)
    have bE:(((((w4.alloc (.cells #[.int .i64 0,.int .u32 0,.int .u32 0,.bool false] 62)).setCell ⟨w4.heap.size,0,none⟩ (.int .i64 l[p].t)).setCell ⟨w4.heap.size,1,none⟩ (.int .u32 l[p].u)).setCell ⟨w4.heap.size,2,none⟩ (.int .u32 l[p].v)).setCell ⟨w4.heap.size,3,none⟩ (.bool l[p].add)).heap[w4.heap.size]?=some (.cells #[.int .i64 l[p].t,.int .u32 l[p].u,.int .u32 l[p].v,.bool l[p].add] 62 (0,0)):=by simpa using sE4
    have gE:w4.grownBy (((((w4.alloc (.cells #[.int .i64 0,.int .u32 0,.int .u32 0,.bool false] 62)).setCell ⟨w4.heap.size,0,none⟩ (.int .i64 l[p].t)).setCell ⟨w4.heap.size,1,none⟩ (.int .u32 l[p].u)).setCell ⟨w4.heap.size,2,none⟩ (.int .u32 l[p].v)).setCell ⟨w4.heap.size,3,none⟩ (.bool l[p].add)) none:=(Kp.grown (ck (ck (ck (ck (Kp.of_none (S:=fun k=>w4.heap.size<=k) (cf (af w4 none) _)) (Nat.le_refl _)) (Nat.le_refl _)) (Nat.le_refl _)) (Nat.le_refl _)) (fun k hk e=>by omega))
    obtain⟨w5,hE⟩:∃ w5,w5=(((((w4.alloc (.cells #[.int .i64 0,.int .u32 0,.int .u32 0,.bool false] 62)).setCell ⟨w4.heap.size,0,none⟩ (.int .i64 l[p].t)).setCell ⟨w4.heap.size,1,none⟩ (.int .u32 l[p].u)).setCell ⟨w4.heap.size,2,none⟩ (.int .u32 l[p].v)).setCell ⟨w4.heap.size,3,none⟩ (.bool l[p].add)):=⟨_,rfl⟩
    rw[← hE]at bE gE
    refine⟨a,e1,by omega,by omega,_,e2,_,e3,_,e4,_,e5,⟨_,aa sE0 0⟩,ae sE0 0,⟨_,aa sE1 1⟩,ae sE1 1,⟨_,aa sE2 2⟩,ae sE2 2,⟨_,aa sE3 3⟩,ae sE3 3,?_⟩
    rw[← hE]
    have hsp:l=l.take p++(l[p] ::l.drop (p+1)):=by rw[← List.drop_eq_getElem_cons lp,List.take_append_drop]
    have hD2:=hD
    rw[hsp,ig.append]at hD2
    obtain⟨hDa,hDb,_⟩:=hD2
    have hlp:=vh (fun q hq=>by cases hq) hDa
    have htl:(l.take p).length<=2^19:=by rw[List.length_take];omega
    have hprev:∀ q,nb (l.take p) none=some q->q∈l:=by
      intro q hq
      cases p with
      | zero=>simp[nb]at hq
      | succ p =>
        rw[List.take_succ_eq_append_getElem (show p<l.length by omega),qv]at hq
        cases hq;exact List.getElem_mem _
    have hPO:rt (nb (l.take p) none):=by
      intro q hq
      have h1:=hb.mem (hprev q hq)
      obtain⟨j,hj,rfl⟩:=List.mem_iff_getElem.1 (hprev q hq)
      have h2:=(qx.1 hd).1 _ (hprev _ hq)
      omega
    refine⟨_,aa bE 0,_,aa bE 1,_,aa bE 2,_,aa bE 3,(qg0 (e:=l[p]) (⟨hW.wr.kept gE,hW.low,ai hW.blk gE⟩:DWr w5 _ _ _ _ _ _) hDb hPO (fun q hq=>by have:=hb.mem (hprev q hq);omega) (by omega) (Nat.le_trans hg.size gE.size) ?_).mono fun ev w6 hh=>?_⟩
    · by_cases hp0:p=0
      · left
        subst hp0
        have:=hDb.1
        have h2:=hDb.2.2
        simp[nb]at h2
        omega
      · right
        obtain⟨k,rfl⟩:∃ k,p=k+1:=⟨p-1,by omega⟩
        rw[List.take_succ_eq_append_getElem (show k<l.length by omega),qv];simp
    · obtain⟨rfl,h6,K6⟩:=hh
      refine⟨rfl,by omega,_,?_,p+1,by omega,by omega,rfl,(((Kp.of_none (S:=fun k=>w.heap.size<=k) (ab hg gE)).then K6 (fun k _ h=>by rcases h with h | h;exact h.1;omega)).grown (fun k hk e=>by omega)),?_⟩
      · omega
      · rw[List.take_succ_eq_append_getElem lp,qv,ya]
        have:ic t0 (nb (l.take p) none) [l[p]]=evB t0 (nb (l.take p) none) l[p]:=by simp[ic]
        rw[this];exact h6
  · have:p=l.length:=by omega
    subst this
    rw[List.take_length]at hW
    refine⟨_,rfl,_,aa hW.blk 0,(qax hW.wr (by omega)).mono fun ev w5 hh=>?_⟩
    obtain⟨B,k,d,rfl,oB,g5⟩:=hh
    exact⟨_,_,_,rfl,_,_,_,rfl,oB.mono hg.size,ab hg g5⟩
structure DRd(w:World)(g gr:Nat)(A:Option Addr)(n c:Nat)(l:List Int)(at_:Nat)(q:Evt)(any ok:Bool):Prop where
 rd:yg w g A n c l at_
 blk:w.heap[gr]?=some (.cells #[.pointer (some ⟨g,0,none⟩),.int .i64 q.t,.int .u32 q.u,.int .u32 q.v,.bool q.add,.bool any,.bool ok] 192 (0,0))
 ne:g≠gr
 neA:∀ a,A=some a->l=[]∨a.block≠gr
theorem DRd.kept{w w':World}{g gr:Nat}{A:Option Addr}{n c:Nat}{l:List Int}{at_:Nat}{q:Evt}{any ok:Bool}(h:DRd w g gr A n c l at_ q any ok)(hg:w.grownBy w' none):DRd w' g gr A n c l at_ q any ok :=
 ⟨h.rd.kept hg,ai h.blk hg,h.ne,h.neA⟩
theorem DRd.mark{w:World}{g gr:Nat}{A:Option Addr}{n c:Nat}{l:List Int}{at_:Nat}{q:Evt}{any ok:Bool}(h:DRd w g gr A n c l at_ q any ok)(b:Bool):
    DRd (w.setCell ((⟨gr,0,none⟩:Addr).add 6) (.bool b)) g gr A n c l at_ q any b/\Kp w (w.setCell ((⟨gr,0,none⟩:Addr).add 6) (.bool b)) (fun k=>k=gr):=by
  rw[au]
  have K:Kp w (w.setCell ⟨gr,6,none⟩ (.bool b)) (fun k=>k=gr):=ck (Kp.refl w _) rfl
  exact⟨⟨h.rd.kp K h.ne (fun a ha=>h.neA a ha),by simpa using ah h.blk 6 (.bool b),h.ne,h.neA⟩,K⟩
theorem DRd.flag{w:World}{g gr:Nat}{A:Option Addr}{n c:Nat}{l:List Int}{at_:Nat}{q:Evt}{any ok:Bool}(h:DRd w g gr A n c l at_ q any ok):w.cell? ((⟨gr,0,none⟩:Addr).add 6)=some (.bool ok)/\w.frozen? ((⟨gr,0,none⟩:Addr).add 6)=false:=by
 rw[au];exact⟨aa h.blk 6,ae h.blk 6⟩
def qhh(bs:List Bool)(most v:Int)(k:Nat)(b:Bool):Prop:=(∃ v' k',qj2 bs=some (v',k')/\v=v'/\k=k'/\b=decide (v'<=most))∨(qj2 bs=none/\v=0/\k=0/\b=false)
theorem xl{w:World}{g gr:Nat}{A:Option Addr}{n c:Nat}{l:List Int}{at_:Nat}{q:Evt}{any ok:Bool}{most:Int}(h:DRd w g gr A n c l at_ q any ok)(hl:l.length<=2^40)(hb:bf l):
    Calls P 165 #[.pointer (some ⟨gr,0,none⟩),.int .u64 most] w fun ev w'=>∃(v:Int)(k:Nat)(b:Bool),ev=.returned (.int .u64 v)/\qhh ((bg l).drop at_) most v k b/\DRd w' g gr A n c l (at_+k) q any (ok && b)/\Kp w w' (fun k=>k=g∨k=gr):=by
  apply vc165;dsimp only[VC165,Wt,Br,Bb,Rd,Rc,Rs,Ix,rI_,rB_,rS_]
  refine⟨_,rfl,_,aa h.blk 0,(qgu h.rd hl hb).mono fun ev w1 hh=>?_⟩
  obtain⟨K1,hG⟩:=hh
  have hgr:=(Array.getElem?_eq_some_iff.1 h.blk).1
  have b1:w1.heap[gr]?=some (.cells #[.pointer (some ⟨g,0,none⟩),.int .i64 q.t,.int .u32 q.u,.int .u32 q.v,.bool q.add,.bool any,.bool ok] 192 (0,0)):=by rw[K1.block gr hgr (fun e=>h.ne e.symm)];exact h.blk
  unfold GamR at hG
  obtain⟨v,k,b,is,hR,he,hN,hbd⟩:∃(v:Int)(k:Nat)(b is:Bool),yg w1 g A n c l (at_+k)/\ev=.returned (.tuple #[.int .u64 v,.bool is])/\qhh ((bg l).drop at_) most v k b/\b=(is && decide (v<=most)):=by
    cases hT:qj2 ((bg l).drop at_)with
    | none =>
      rw[hT]at hG
      exact⟨0,0,false,false,hG.2,hG.1,.inr ⟨hT,rfl,rfl,rfl⟩,rfl⟩
    | some x =>
      obtain⟨v,k⟩:=x
      rw[hT]at hG
      exact⟨v,k,decide (v<=most),true,hG.2,hG.1,.inl ⟨v,k,hT,rfl,rfl,rfl⟩,by simp⟩
  have hD:DRd w1 g gr A n c l (at_+k) q any ok:=⟨hR,b1,h.ne,h.neA⟩
  have st:∀ b':Bool,b'=(ok && b)->∃(v':Int)(k:Nat)(b:Bool),Ending.returned (.int .u64 v)=.returned (.int .u64 v')/\qhh ((bg l).drop at_) most v' k b/\DRd (World.setCell w1 ((⟨gr,0,none⟩:Addr).add 6) (.bool b')) g gr A n c l (at_+k) q any (ok && b)/\Kp w (World.setCell w1 ((⟨gr,0,none⟩:Addr).add 6) (.bool b')) (fun k=>k=g∨k=gr):=by
    intro b' hb'
    obtain⟨m1,m2⟩:=hD.mark b'
    exact⟨v,k,b,rfl,hN,by rw[← hb'];exact m1,(K1.mono (fun k _ h=>.inl h)).then m2 (fun k _ h=>.inr h)⟩
  refine⟨v,is,he,_,rfl,ok,hD.flag.1,fun ho=>⟨fun hi=>⟨_,rfl,⟨_,hD.flag.1⟩,hD.flag.2,st _ ?_⟩,fun hi=>⟨_,rfl,⟨_,hD.flag.1⟩,hD.flag.2,st _ ?_⟩⟩,fun ho=>⟨_,rfl,⟨_,hD.flag.1⟩,hD.flag.2,st _ ?_⟩⟩
  · rw[ho,hbd,hi];rfl
  · rw[ho,hbd,hi];rfl
  · rw[ho];rfl
theorem qhh.ok{bs:List Bool}{most v:Int}{k:Nat}{b:Bool}(h:qhh bs most v k b)(hb:b=true):1<=v/\v<=most/\0<k/\k<=bs.length:=by
 rcases h with⟨v',k',h1,rfl,rfl,rfl⟩ | ⟨_,_,_,rfl⟩
 ·have:=qqj h1
  have:=of_decide_eq_true hb
  omega
 ·cases hb
theorem qhh.put{bs rest:List Bool}{most v:Int}{k x:Nat}{b:Bool}(h:qhh bs most v k b)(hx:0<x/\x<2^64)(hm:(x:Int)<=most)(he:bs=vr x++rest):v=(x:Int)/\k=(vr x).length/\b=true/\bs.drop k=rest:=by
 have ht:=qdp hx.1 hx.2 rest
 rw[← he]at ht
 rcases h with⟨v',k',h1,rfl,rfl,rfl⟩ | ⟨h1,_⟩
 ·rw[ht]at h1
  simp only[Option.some.injEq,Prod.mk.injEq]at h1
  obtain⟨rfl,rfl⟩:=h1
  exact⟨rfl,rfl,by simpa using hm,by rw[he,List.drop_left' rfl]⟩
 ·rw[ht]at h1;cases h1
def qf0(e:Evt):Prop:=(0<=e.t/\e.t<=4611686018427387903)/\0<=e.u/\e.u<e.v/\e.v<=4294967295
theorem qoy(x:Int):0<=IntKind.u32.wrap x/\IntKind.u32.wrap x<=4294967295:=by
 have h:IntKind.u32.wrap x=x % 4294967296:=rfl
 rw[h];omega
theorem uf{x:Int}(hx:0<=x/\x<=4294967295):IntKind.u32.wrap x=x:=by
 have h:IntKind.u32.wrap x=x % 4294967296:=rfl
 rw[h];omega
theorem qfk {w:World} {g gr:Nat} {A:Option Addr} {n c:Nat} {l:List Int} {at_:Nat} {t0:Int} {p:Option Evt} (h:DRd w g gr A n c l at_ (dm t0 p) p.isSome true) (hl:l.length<=2^40) (hb:bf l) (ht0:0<=t0/\t0<=4611686018427387903) (hp:∀ q,p=some q->qf0 q) :
    Calls P 124 #[.pointer (some ⟨gr,0,none⟩)] w fun ev w'=>∃(e:Evt)(at':Nat)(p':Option Evt)(ok:Bool),ev=.returned (evtV e)/\DRd w' g gr A n c l at' (dm t0 p') p'.isSome ok/\Kp w w' (fun k=>k=g∨k=gr)/\(0<=e.u/\e.u<=4294967295)/\(0<=e.v/\e.v<=4294967295)/\(-9223372036854775808<=e.t/\e.t<=9223372036854775807)/\at_<=at' ∧
      (ok=true->p'=some e/\qf0 e/\at_<at') ∧
      ∀ e0 rest,OkE t0 p e0->(bg l).drop at_=evB t0 p e0++rest->ok=true/\e=e0/\(bg l).drop at'=rest:=by
  apply vc124;dsimp only[VC124,Wt,Br,Bb,Rd,Rc,Rs,Ix,rI_,rB_,rS_]
  try simp only[InK]
  have hq:(0<=(dm t0 p).t/\(dm t0 p).t<=4611686018427387903)/\(0<=(dm t0 p).u/\(dm t0 p).u<=4294967295)/\0<=(dm t0 p).v/\(dm t0 p).v<=4294967295/\(p.isSome=true->(dm t0 p).u<(dm t0 p).v):=by
    cases p with
    | none=>simp[dm];omega
    | some q=>have:=hp q rfl;unfold qf0 at this;simp[dm];omega
  have hPO:rt p:=fun q hq=>by have:=hp q hq;unfold qf0 at this;omega
  have hGap:=qcd t0 p
  have hFst:=qce t0 p
  have hSnd:=qcc t0 p
  obtain⟨q,hqe⟩:∃ q,q=dm t0 p:=⟨_,rfl⟩
  obtain⟨any,hany⟩:∃ any,any=p.isSome:=⟨_,rfl⟩
  rw[← hqe,← hany]at h
  rw[← hqe]at hq hGap hFst hSnd
  rw[← hany]at hq hFst hSnd
  have hgr0:=(Array.getElem?_eq_some_iff.1 h.blk).1
  have hg0:=(Array.getElem?_eq_some_iff.1 h.rd.blk).1
  have g0:=World.grownBy_alloc w (.cells #[.int .i64 0,.int .u32 0,.int .u32 0,.bool false] 62) none
  have b0:(w.alloc (.cells #[.int .i64 0,.int .u32 0,.int .u32 0,.bool false] 62)).heap[w.heap.size]?=some (.cells #[.int .i64 0,.int .u32 0,.int .u32 0,.bool false] 62 (0,0)):=heap_alloc_new w _
  obtain⟨w0,hw_w0⟩:∃ w0,w0=w.alloc (.cells #[.int .i64 0,.int .u32 0,.int .u32 0,.bool false] 62):=⟨_,rfl⟩
  rw[← hw_w0]at g0 b0 ⊢
  have keepR:∀ {W W':World},W.heap[w.heap.size]?=some (.cells #[.int .i64 0,.int .u32 0,.int .u32 0,.bool false] 62 (0,0))->Kp W W' (fun k=>k=g∨k=gr)->W'.heap[w.heap.size]?=some (.cells #[.int .i64 0,.int .u32 0,.int .u32 0,.bool false] 62 (0,0)):=by
    intro W W' hB hK
    rw[hK.block _ (Array.getElem?_eq_some_iff.1 hB).1 (by omega)];exact hB
  refine(xl (most:=4611686018427387904) (h.kept g0) hl hb).mono fun ev w1 hh=>?_
  obtain⟨tv,k1,o1,rfl,N1,D1,K1⟩:=hh
  rw[Bool.true_and]at D1
  have hB1:=keepR b0 K1
  refine⟨_,rfl,_,rfl,_,aa D1.blk 0,(qo (k:=1) D1.rd hl hb (by omega)).mono fun ev w2 hh=>?_⟩
  obtain⟨K2,hT2⟩:=hh
  have hgr1:=(Array.getElem?_eq_some_iff.1 D1.blk).1
  obtain⟨sv,o2,k2,hev2,D2,hS2⟩:∃(sv:Int)(o2:Bool)(k2:Nat),ev=.returned (.tuple #[.int .u64 sv,.bool o2])/\DRd w2 g gr A n c l (at_+k1+k2) q any o1 ∧
      ((o2=true/\k2=1/\at_+k1+1<=8*l.length/\sv=b2i (jd l (at_+k1)))∨(o2=false/\k2=0/\sv=0/\8*l.length<at_+k1+1)):=by
    have hblk2:w2.heap[gr]?=_:=(K2.block gr hgr1 (fun e=>h.ne e.symm)).trans D1.blk
    rcases hT2 with⟨r1,r2,r3⟩ | ⟨r1,r2,r3⟩
    · rw[zo r1]at r2
      exact⟨_,true,1,r2,⟨r3,hblk2,h.ne,h.neA⟩,.inl ⟨rfl,rfl,r1,rfl⟩⟩
    · exact⟨_,false,0,r2,⟨r3,hblk2,h.ne,h.neA⟩,.inr ⟨rfl,rfl,rfl,r1⟩⟩
  have hB2:=keepR hB1 (K2.mono (fun k _ h=>.inl h))
  refine⟨sv,o2,hev2,(xl (most:=4294967296) D2 hl hb).mono fun ev w3 hh=>?_⟩
  obtain⟨uv,k3,o3,rfl,N3,D3,K3⟩:=hh
  have hB3:=keepR hB2 K3
  refine⟨_,rfl,(xl (most:=4294967296) D3 hl hb).mono fun ev w4 hh=>?_⟩
  obtain⟨vv,k4,o4,rfl,N4,D4,K4⟩:=hh
  have hB4:=keepR hB3 K4
  have Kw4:Kp w w4 (fun k=>k=g∨k=gr):=((((Kp.of_none (S:=fun k=>k=g∨k=gr) g0).then K1 (fun k _ h=>h)).then K2 (fun k _ h=>.inl h)).then K3 (fun k _ h=>h)).then K4 (fun k _ h=>h)
  have lenb:∀ a:Nat,((bg l).drop a).length=8*l.length-a:=fun a=>by rw[List.length_drop,dw]
  -- what comes of bits that begin with an event's
  have cond:∀ e0 rest,OkE t0 p e0->(bg l).drop at_=evB t0 p e0++rest->tv=(ni t0 p e0:Int)/\o1=true/\o2=true/\sv=b2i e0.add/\uv=(td p e0:Int)/\o3=true/\vv=(rg p e0:Int)/\o4=true/\(bg l).drop (at_+k1+k2+k3+k4)=rest:=by
    intro e0 rest he hbits
    have hn:=he.nums hPO
    unfold evB at hbits
    simp only[List.append_assoc,List.cons_append]at hbits
    obtain⟨c1,c2,c3,c4⟩:=N1.put ⟨by unfold ni;omega,by omega⟩ (by have:=he.1;have:=he.2.2;rw[hGap];have:=hq.1;omega) hbits
    rw[List.drop_drop]at c4
    have hlen1:at_+k1<8*l.length:=by
      have:=congrArg List.length c4
      rw[lenb]at this;simp at this;omega
    have hd:=qat (l:=l) (at_:=at_+k1) (by omega)
    rw[hd]at c4
    simp only[List.cons.injEq]at c4
    rcases hS2 with⟨s1,s2,s3,s4⟩ | ⟨s1,s2,s3,s4⟩
    · subst s2
      obtain⟨c5,c6,c7,c8⟩:=N3.put ⟨hn.2.1.1,by omega⟩ (by omega) c4.2
      rw[List.drop_drop]at c8
      obtain⟨c9,c10,c11,c12⟩:=N4.put ⟨hn.2.2.1,by omega⟩ (by omega) c8
      rw[List.drop_drop]at c12
      exact⟨c1,c3,s1,by rw[s4,c4.1],c5,c7,c9,c11,c12⟩
    · omega
  refine⟨_,rfl,fun W=>DRd W g gr A n c l (at_+k1+k2+k3+k4) q any (((o1 && o3) && o4) && o2)/\Kp w W (fun k=>k=g∨k=gr)/\W.heap[w.heap.size]?=some (.cells #[.int .i64 0,.int .u32 0,.int .u32 0,.bool false] 62 (0,0)),⟨_,rfl,_,D4.flag.1,fun ho=>⟨_,rfl,⟨_,D4.flag.1⟩,D4.flag.2,?_⟩,fun ho=>⟨_,rfl,⟨_,D4.flag.1⟩,D4.flag.2,?_⟩⟩,?_⟩
  · obtain⟨m1,m2⟩:=D4.mark o2
    rw[ho,Bool.true_and]
    exact⟨m1,Kw4.then m2 (fun k _ h=>.inr h),keepR hB4 (m2.mono (fun k _ h=>.inr h))⟩
  · obtain⟨m1,m2⟩:=D4.mark false
    rw[ho,Bool.false_and]
    exact⟨m1,Kw4.then m2 (fun k _ h=>.inr h),keepR hB4 (m2.mono (fun k _ h=>.inr h))⟩
  rintro w5 ⟨D5,K5,hB5⟩
  generalize hoo:(((o1 && o3) && o4) && o2)=oo at D5
  have hsz:w.heap.size≠gr/\w.heap.size≠g:=by omega
  refine⟨_,rfl,oo,D5.flag.1,fun hf=>?_,fun ht=>?_⟩
  · -- it ends here
    subst hf
    have s1:=ah hB5 0 (.int .i64 0)
    have s2:=ah s1 1 (.int .u32 0)
    have s3:=ah s2 2 (.int .u32 0)
    have s4:=ah s3 3 (.bool false)
    have K6:Kp w5 ((((w5.setCell ⟨w.heap.size,0,none⟩ (.int .i64 0)).setCell ⟨w.heap.size,1,none⟩ (.int .u32 0)).setCell ⟨w.heap.size,2,none⟩ (.int .u32 0)).setCell ⟨w.heap.size,3,none⟩ (.bool false)) (fun k=>k=w.heap.size):=ck (ck (ck (ck (Kp.refl w5 _) rfl) rfl) rfl) rfl
    refine⟨⟨_,aa hB5 0⟩,ae hB5 0,⟨_,aa s1 1⟩,ae s1 1,⟨_,aa s2 2⟩,ae s2 2,⟨_,aa s3 3⟩,ae s3 3,_,aa s4 0,_,aa s4 1,_,aa s4 2,_,aa s4 3,⟨0,0,0,false⟩,at_+k1+k2+k3+k4,p,false,rfl,?_,?_,by simp,by simp,by simp,by omega,fun h=>(by cases h),fun e0 rest he hbits=>?_⟩
    · rw [← hqe,← hany]
      exact ⟨D5.rd.kp K6 (fun e=>hsz.2 e.symm) (fun a ha=>(D5.rd.row.blk (w:=w5) |>fun _=>by
          by_cases hx:l=[]
          · exact .inl hx
          · obtain⟨b,e1,e2⟩:=h.rd.row.blk (by intro e;exact hx (by simpa[u8s]using e))
            rw[ha]at e1;cases e1;exact .inr (by omega))),by rw[K6.block gr (Array.getElem?_eq_some_iff.1 D5.blk).1 (by omega)];exact D5.blk,h.ne,h.neA⟩
    · exact K5.step (r:=some w.heap.size) ⟨K6.os,K6.tape,K6.output,K6.size,fun k hk hr=>K6.block k hk (fun e=>hr (by rw[e]))⟩ (fun k hk=>by cases hk;exact .inl (Nat.le_refl _))
    · have:=cond e0 rest he hbits
      rw[this.2.1,this.2.2.1,this.2.2.2.2.2.1,this.2.2.2.2.2.2.2.1]at hoo
      simp at hoo
  · have hto:oo=true:=by simpa using ht
    subst hto
    have hos:o1=true/\o3=true/\o4=true/\o2=true:=by
      cases o1 <;>cases o3 <;>cases o4 <;>cases o2 <;>simp_all
    have n1:=N1.ok hos.1
    have n3:=N3.ok hos.2.1
    have n4:=N4.ok hos.2.2.1
    rw[lenb]at n1 n3 n4
    have hk2:k2=1/\sv=b2i (jd l (at_+k1)):=by
      rcases hS2 with⟨s1,s2,s3,s4⟩ | ⟨s1,_⟩
      · exact⟨s2,s4⟩
      · rw[hos.2.2.2]at s1;cases s1
    -- the event's block
    obtain⟨T,hTdef⟩:∃ T,T=q.t+(tv-1):=⟨_,rfl⟩
    have s0:(w5.alloc (.cells #[.int .i64 0,.int .u32 0,.int .u32 0,.bool false] 62)).heap[w5.heap.size]?=some (.cells #[.int .i64 0,.int .u32 0,.int .u32 0,.bool false] 62 (0,0)):=heap_alloc_new w5 _
    have s1:=ah s0 0 (.int .i64 T)
    have s2:=ah s1 1 (.int .u32 0)
    have s3:=ah s2 2 (.int .u32 0)
    have s4:=ah s3 3 (.bool (decide (sv=1)))
    have gA:w5.grownBy ((((((w5.alloc (.cells #[.int .i64 0,.int .u32 0,.int .u32 0,.bool false] 62)).setCell ⟨w5.heap.size,0,none⟩ (.int .i64 T)).setCell ⟨w5.heap.size,1,none⟩ (.int .u32 0)).setCell ⟨w5.heap.size,2,none⟩ (.int .u32 0)).setCell ⟨w5.heap.size,3,none⟩ (.bool (decide (sv=1))))) none :=
      (ck (ck (ck (ck (Kp.of_none (S:=fun k=>w5.heap.size<=k) (cf (af w5 none) _)) (Nat.le_refl _)) (Nat.le_refl _)) (Nat.le_refl _)) (Nat.le_refl _)).grown (fun k hk e=>by omega)
    have bA:((((((w5.alloc (.cells #[.int .i64 0,.int .u32 0,.int .u32 0,.bool false] 62)).setCell ⟨w5.heap.size,0,none⟩ (.int .i64 T)).setCell ⟨w5.heap.size,1,none⟩ (.int .u32 0)).setCell ⟨w5.heap.size,2,none⟩ (.int .u32 0)).setCell ⟨w5.heap.size,3,none⟩ (.bool (decide (sv=1))))).heap[w5.heap.size]?=some (.cells #[.int .i64 T,.int .u32 0,.int .u32 0,.bool (decide (sv=1))] 62 (0,0)):=by simpa using s4
    refine⟨_,rfl,_,by rw[au];exact aa D5.blk 1,by omega,by omega,by omega,?_⟩
    rw[← hTdef]
    refine⟨⟨_,aa s0 0⟩,ae s0 0,⟨_,aa s1 1⟩,ae s1 1,⟨_,aa s2 2⟩,ae s2 2,⟨_,aa s3 3⟩,ae s3 3,by omega,?_⟩
    obtain⟨w6,hw6⟩:∃ w6,w6=(((((w5.alloc (.cells #[.int .i64 0,.int .u32 0,.int .u32 0,.bool false] 62)).setCell ⟨w5.heap.size,0,none⟩ (.int .i64 T)).setCell ⟨w5.heap.size,1,none⟩ (.int .u32 0)).setCell ⟨w5.heap.size,2,none⟩ (.int .u32 0)).setCell ⟨w5.heap.size,3,none⟩ (.bool (decide (sv=1)))):=⟨_,rfl⟩
    rw[← hw6]at gA bA ⊢
    have D6:=D5.kept gA
    have hB6:=ai hB5 gA
    have K6:Kp w w6 (fun k=>k=g∨k=gr):=K5.then (Kp.of_none gA) (fun k _ h=>h)
    -- the vertices
    obtain⟨U,hU⟩:∃ U:Int,U=if any=true/\tv=1 then uv-1+q.u else uv-1:=⟨_,rfl⟩
    obtain⟨Bs,hBs⟩:∃ Bs:Int,Bs=if(any=true/\tv=1)/\U=q.u then q.v-U else 0:=⟨_,rfl⟩
    have hUr:0<=U/\U<=8589934592:=by rw[hU];split <;>omega
    have hBr:0<=Bs/\Bs<=4294967295:=by
      rw[hBs];split
      · rename_i hc
        have:=hq.2.2.2.2 hc.1.1
        omega
      · omega
    refine⟨fun u b W=>u=U/\b=Bs/\W=w6,⟨fun b W=>b=(any && decide (tv=1))/\W=w6,⟨_,rfl,_,by rw[au];exact aa D6.blk 5,fun ha=>⟨by rw[ha];rfl,rfl⟩,fun ha=>⟨by rw[ha];rfl,rfl⟩⟩,?_⟩,?_⟩
    · rintro b W ⟨hbd,rfl⟩
      refine⟨fun hbt=>?_,fun hbf=>⟨?_,?_,rfl⟩⟩
      · rw[hbt]at hbd
        have hb':=hbd.symm
        simp only[Bool.and_eq_true,decide_eq_true_eq]at hb'
        rw[if_pos hb']at hU
        refine⟨_,rfl,_,by rw[iw,au];exact aa D6.blk 2,by omega,by omega,fun bb W'=>bb=Bs/\W'=W,⟨_,rfl,_,by rw[iw,au];exact aa D6.blk 2,by omega,fun hs=>?_,fun hs=>⟨?_,rfl⟩⟩,?_⟩
        · rw[if_pos ⟨hb',by omega⟩]at hBs
          have:=hq.2.2.2.2 hb'.1
          refine⟨_,rfl,_,by rw[iw,iw,au];exact aa D6.blk 3,by omega,by omega,by omega,rfl⟩
        · rw[if_neg (by rintro⟨_,h2⟩;omega)]at hBs;exact hBs.symm
        · rintro bb W' ⟨rfl,rfl⟩
          exact⟨by omega,rfl,rfl⟩
      · have:¬ (any=true/\tv=1):=by rintro⟨a1,a2⟩;rw[a1,hbf]at hbd;simp[a2]at hbd
        rw[if_neg this]at hU;omega
      · have:¬ (any=true/\tv=1):=by rintro⟨a1,a2⟩;rw[a1,hbf]at hbd;simp[a2]at hbd
        rw[if_neg (fun hc=>this hc.1)]at hBs;exact hBs.symm
    · rintro u bs W ⟨rfl,rfl,rfl⟩
      obtain⟨V,hV⟩:∃ V,V=vv+(u+bs):=⟨_,rfl⟩
      refine⟨by omega,by omega,?_⟩
      rw[← hV]
      obtain⟨o7,ho7⟩:∃ o7:Bool,o7=(decide (T<=4611686018427387903) && (decide (u<=4294967295) && decide (V<=4294967295))):=⟨_,rfl⟩
      refine⟨fun W'=>DRd W' g gr A n c l (at_+k1+k2+k3+k4) q any o7/\Kp w W' (fun k=>k=g∨k=gr)/\W'.heap[w.heap.size]?=some (.cells #[.int .i64 0,.int .u32 0,.int .u32 0,.bool false] 62 (0,0))/\W'.heap[w5.heap.size]?=some (.cells #[.int .i64 T,.int .u32 0,.int .u32 0,.bool (decide (sv=1))] 62 (0,0)),?_,?_⟩
      · have l5:w.heap.size<w5.heap.size:=(Array.getElem?_eq_some_iff.1 hB5).1
        have st:∀ b:Bool,b=o7->DRd (W.setCell ((⟨gr,0,none⟩:Addr).add 6) (.bool b)) g gr A n c l (at_+k1+k2+k3+k4) q any o7/\Kp w (W.setCell ((⟨gr,0,none⟩:Addr).add 6) (.bool b)) (fun k=>k=g∨k=gr)/\(W.setCell ((⟨gr,0,none⟩:Addr).add 6) (.bool b)).heap[w.heap.size]?=some (.cells #[.int .i64 0,.int .u32 0,.int .u32 0,.bool false] 62 (0,0))/\(W.setCell ((⟨gr,0,none⟩:Addr).add 6) (.bool b)).heap[w5.heap.size]?=some (.cells #[.int .i64 T,.int .u32 0,.int .u32 0,.bool (decide (sv=1))] 62 (0,0)):=by
          rintro b rfl
          obtain⟨m1,m2⟩:=D6.mark b
          refine⟨m1,K6.then m2 (fun k _ h=>.inr h),keepR hB6 (m2.mono (fun k _ h=>.inr h)),?_⟩
          rw[m2.block _ (Array.getElem?_eq_some_iff.1 bA).1 (by omega)];exact bA
        refine⟨_,aa bA 0,fun c1=>⟨fun c2=>⟨_,rfl,⟨_,D6.flag.1⟩,D6.flag.2,st _ ?_⟩,fun c2=>⟨_,rfl,⟨_,D6.flag.1⟩,D6.flag.2,st _ ?_⟩⟩,fun c1=>⟨_,rfl,⟨_,D6.flag.1⟩,D6.flag.2,st _ ?_⟩⟩
        · rw[ho7];simp[c1,c2]
        · rw[ho7];simp;omega
        · rw[ho7];simp;omega
      · rintro w7 ⟨D7,K7,hB7,bE7⟩
        have l5:w.heap.size<w5.heap.size:=(Array.getElem?_eq_some_iff.1 hB5).1
        have hwu:=qoy u
        have hwv:=qoy V
        obtain⟨Eu,hEu⟩:∃ Eu,Eu=IntKind.u32.wrap u:=⟨_,rfl⟩
        obtain⟨Ev,hEv⟩:∃ Ev,Ev=IntKind.u32.wrap V:=⟨_,rfl⟩
        rw[← hEu,← hEv]
        have r1:=ah bE7 1 (.int .u32 Eu)
        have r2:=ah r1 2 (.int .u32 Ev)
        have K8:Kp w7 ((w7.setCell ⟨w5.heap.size,1,none⟩ (.int .u32 Eu)).setCell ⟨w5.heap.size,2,none⟩ (.int .u32 Ev)) (fun k=>k=w5.heap.size):=ck (ck (Kp.refl w7 _) rfl) rfl
        have bE8:((w7.setCell ⟨w5.heap.size,1,none⟩ (.int .u32 Eu)).setCell ⟨w5.heap.size,2,none⟩ (.int .u32 Ev)).heap[w5.heap.size]?=some (.cells #[.int .i64 T,.int .u32 Eu,.int .u32 Ev,.bool (decide (sv=1))] 62 (0,0)):=by simpa using r2
        refine⟨⟨_,aa bE7 1⟩,ae bE7 1,⟨_,aa r1 2⟩,ae r1 2,?_⟩
        obtain⟨w8,hw8⟩:∃ w8,w8=(w7.setCell ⟨w5.heap.size,1,none⟩ (.int .u32 Eu)).setCell ⟨w5.heap.size,2,none⟩ (.int .u32 Ev):=⟨_,rfl⟩
        rw[← hw8]at K8 bE8 ⊢
        have bR8:w8.heap[gr]?=_:=(K8.block gr (Array.getElem?_eq_some_iff.1 D7.blk).1 (by have:=hgr0;omega)).trans D7.blk
        have hB8:w8.heap[w.heap.size]?=_:=(K8.block _ (Array.getElem?_eq_some_iff.1 hB7).1 (by omega)).trans hB7
        have t1:=ah bR8 1 (.int .i64 T)
        have t2:=ah t1 2 (.int .u32 Eu)
        have t3:=ah t2 3 (.int .u32 Ev)
        have t4:=ah t3 4 (.bool (decide (sv=1)))
        have t5:=ah t4 5 (.bool true)
        have K9:Kp w8 (((((w8.setCell ⟨gr,1,none⟩ (.int .i64 T)).setCell ⟨gr,2,none⟩ (.int .u32 Eu)).setCell ⟨gr,3,none⟩ (.int .u32 Ev)).setCell ⟨gr,4,none⟩ (.bool (decide (sv=1)))).setCell ⟨gr,5,none⟩ (.bool true)) (fun k=>k=gr):=ck (ck (ck (ck (ck (Kp.refl w8 _) rfl) rfl) rfl) rfl) rfl
        refine⟨_,aa bE8 0,_,aa bE8 1,_,aa bE8 2,_,aa bE8 3,_,rfl,?_⟩
        simp only[za,Nat.zero_add,Nat.reduceAdd]
        refine⟨⟨_,aa bR8 1⟩,ae bR8 1,⟨_,aa t1 2⟩,ae t1 2,⟨_,aa t2 3⟩,ae t2 3,⟨_,aa t3 4⟩,ae t3 4,_,rfl,?_⟩
        simp only[za,Nat.zero_add,Nat.reduceAdd]
        refine⟨⟨_,aa t4 5⟩,ae t4 5,?_⟩
        obtain⟨w9,hw9⟩:∃ w9,w9=((((w8.setCell ⟨gr,1,none⟩ (.int .i64 T)).setCell ⟨gr,2,none⟩ (.int .u32 Eu)).setCell ⟨gr,3,none⟩ (.int .u32 Ev)).setCell ⟨gr,4,none⟩ (.bool (decide (sv=1)))).setCell ⟨gr,5,none⟩ (.bool true):=⟨_,rfl⟩
        have bR9:w9.heap[gr]?=some (.cells #[.pointer (some ⟨g,0,none⟩),.int .i64 T,.int .u32 Eu,.int .u32 Ev,.bool (decide (sv=1)),.bool true,.bool o7] 192 (0,0)):=by rw[hw9];simpa using t5
        rw[← hw9]at K9 ⊢
        have bE9:w9.heap[w5.heap.size]?=_:=(K9.block _ (Array.getElem?_eq_some_iff.1 bE8).1 (by omega)).trans bE8
        have hB9:w9.heap[w.heap.size]?=_:=(K9.block _ (Array.getElem?_eq_some_iff.1 hB8).1 (by omega)).trans hB8
        have v1:=ah hB9 0 (.int .i64 T)
        have v2:=ah v1 1 (.int .u32 Eu)
        have v3:=ah v2 2 (.int .u32 Ev)
        have v4:=ah v3 3 (.bool (decide (sv=1)))
        have K10:Kp w9 ((((w9.setCell ⟨w.heap.size,0,none⟩ (.int .i64 T)).setCell ⟨w.heap.size,1,none⟩ (.int .u32 Eu)).setCell ⟨w.heap.size,2,none⟩ (.int .u32 Ev)).setCell ⟨w.heap.size,3,none⟩ (.bool (decide (sv=1)))) (fun k=>k=w.heap.size):=ck (ck (ck (ck (Kp.refl w9 _) rfl) rfl) rfl) rfl
        have Kall:Kp w ((((w9.setCell ⟨w.heap.size,0,none⟩ (.int .i64 T)).setCell ⟨w.heap.size,1,none⟩ (.int .u32 Eu)).setCell ⟨w.heap.size,2,none⟩ (.int .u32 Ev)).setCell ⟨w.heap.size,3,none⟩ (.bool (decide (sv=1)))) (fun k=>k=g∨k=gr):=by
          have a1:Kp w w9 (fun k=>k=g∨k=gr∨w.heap.size<=k):=((K7.mono (fun k _ h=>by rcases h with h | h;exact .inl h;exact .inr (.inl h))).then K8 (fun k _ h=>.inr (.inr (by omega)))).then K9 (fun k _ h=>.inr (.inl h))
          have a2:=a1.then K10 (fun k _ h=>.inr (.inr (by omega)))
          exact a2.mono (fun k hk h=>by omega)
        refine⟨_,aa bE9 0,_,aa bE9 1,_,aa bE9 2,_,aa bE9 3,⟨_,aa hB9 0⟩,ae hB9 0,⟨_,aa v1 1⟩,ae v1 1,⟨_,aa v2 2⟩,ae v2 2,⟨_,aa v3 3⟩,ae v3 3,_,aa v4 0,_,aa v4 1,_,aa v4 2,_,aa v4 3,⟨T,Eu,Ev,decide (sv=1)⟩,at_+k1+k2+k3+k4,some ⟨T,Eu,Ev,decide (sv=1)⟩,o7,rfl,⟨?_,?_,h.ne,h.neA⟩,Kall,by rw[hEu];exact hwu,by rw[hEv];exact hwv,by simp only;omega,by omega,fun ho=>?_,fun e0 rest he hbits=>?_⟩
        · have rowb:∀ a,A=some a->l=[]∨a.block<w.heap.size:=fun a ha=>by
            by_cases hx:l=[]
            · exact .inl hx
            · obtain⟨b,e1,e2⟩:=h.rd.row.blk (by intro e;exact hx (by simpa[u8s]using e))
              rw[ha]at e1;cases e1;exact .inr e2
          exact((D7.rd.kp K8 (by omega) (fun a ha=>(rowb a ha).imp id (fun e=>by omega))).kp K9 (fun e=>h.ne e) (fun a ha=>h.neA a ha)).kp K10 (by omega) (fun a ha=>(rowb a ha).imp id (fun e=>by omega))
        · exact(K10.block gr (Array.getElem?_eq_some_iff.1 bR9).1 (by omega)).trans bR9
        · rw[ho]at ho7
          have ho':=ho7.symm
          simp only[Bool.and_eq_true,decide_eq_true_eq]at ho'
          have e1:Eu=u:=by rw[hEu];exact uf (by omega)
          have e2:Ev=V:=by rw[hEv];exact uf (by omega)
          refine⟨rfl,⟨⟨by simp only;omega,by simp only;omega⟩,by simp only;omega,by simp only;omega,by simp only;omega⟩,by omega⟩
        · obtain⟨c1,_,_,c4,c5,_,c7,_,c9⟩:=cond e0 rest he hbits
          have hn:=he.nums hPO
          obtain⟨h1,h2,h3⟩:=he
          rw[hGap]at c1
          rw[hFst]at c5
          rw[hSnd]at c7
          have hord:q.t<=e0.t/\(any=true->e0.t=q.t->q.u<e0.u∨q.u=e0.u/\q.v<e0.v):=by
            cases p with
            | none=>simp only at h3;rw[hany,hqe];simp[dm];omega
            | some q' =>
              simp only[eu]at h3
              rw[hany,hqe]
              simp only[dm,Option.getD_some]
              exact⟨by omega,fun _ _=>by omega⟩
          have hTe:T=e0.t:=by omega
          have hsame:(any=true/\tv=1)↔(any=true/\e0.t=q.t):=by
            constructor
            · rintro⟨a1,a2⟩;exact⟨a1,by omega⟩
            · rintro⟨a1,a2⟩;exact⟨a1,by omega⟩
          have hue:u=e0.u:=by
            rw[hU]
            by_cases hc:any=true/\e0.t=q.t
            · rw[if_pos (hsame.2 hc)]
              rw[if_pos hc]at c5
              have:=hord.2 hc.1 hc.2
              omega
            · rw[if_neg (fun h=>hc (hsame.1 h))]
              rw[if_neg hc]at c5
              omega
          have hve:V=e0.v:=by
            rw[hV,hBs]
            by_cases hc:any=true/\e0.t=q.t
            · rw[if_pos hc]at c7
              have:=hord.2 hc.1 hc.2
              by_cases hd:e0.u=q.u
              · rw[if_pos ⟨hsame.2 hc,by omega⟩]
                rw[if_pos hd]at c7
                omega
              · rw[if_neg (fun h=>hd (by omega))]
                rw[if_neg hd]at c7
                omega
            · rw[if_neg hc]at c7
              rw[if_neg (fun h=>hc (hsame.1 h.1))]
              omega
          have e1:Eu=e0.u:=by rw[hEu,hue];exact uf (by omega)
          have e2:Ev=e0.v:=by rw[hEv,hve];exact uf (by omega)
          refine⟨?_,?_,c9⟩
          · rw[ho7];simp;omega
          · rw[hTe,e1,e2,c4]
            have:decide (b2i e0.add=1)=e0.add:=by cases e0.add <;>rfl
            rw[this]
theorem DRd.kp{w w':World}{S:Nat->Prop}{g gr:Nat}{A:Option Addr}{n c:Nat}{l:List Int}{at_:Nat}{q:Evt}{any ok:Bool}(h:DRd w g gr A n c l at_ q any ok)(hk:Kp w w' S)(h1:¬ S g)(h2:¬ S gr)(h3:∀ a,A=some a->l=[]∨¬ S a.block):DRd w' g gr A n c l at_ q any ok :=
 ⟨h.rd.kp hk h1 h3,(hk.block gr (Array.getElem?_eq_some_iff.1 h.blk).1 h2).trans h.blk,h.ne,h.neA⟩
def qow(x:List Int)(t0 count n:Int)(l:List Evt):Prop:=ig t0 none l/\(l.length:Int)=count/\(∀ e∈l,e.v<n)/\x=iv t0 l
def qq2(x:List Int)(t0 count n:Int)(ev:Ending)(w':World):Prop :=
 (∃(A':Option Addr)(n' c':Nat)(l:List Evt),ev=.returned (.tuple #[.slice A' n' c',.int .i64 0])/\Row w' A' (fh l)/\n'=l.length/\n'<=c'/\(A'=none->c'=0)/\qow x t0 count n l) ∨
 (ev=.returned (.tuple #[.slice none 0 0,.int .i64 21])/\∀ l,¬ qow x t0 count n l)
theorem ig.evtsB{t0:Int}:∀ {l:List Evt} {p:Option Evt},ig t0 p l->qa4 l
 | [],_,_=>by intro e he;simp at he
 | a ::l,p,h=>by
  intro e he
  rcases List.mem_cons.1 he with rfl | he
  ·have h1:=h.1.1;have h2:=h.1.2.1;omega
  ·exact(ig.evtsB h.2) e he
theorem qau {w:World} {A:Option Addr} {k c:Nat} {x:List Int} {t0 count n:Int} (hr:Row w A (u8s x)) (hk:k=x.length) (hc:k<=c) (hb:bf x) (hl:x.length<2^16) (hcount:count<=9223372036854775807) :
    Calls P 88 #[.slice A k c,.int .i64 t0,.int .i64 count,.int .u64 n] w fun ev w'=>w.grownBy w' none/\qq2 x t0 count n ev w':=by
  apply vc88;dsimp only[VC88,Wt,Br,Bb,Rd,Rc,Rs,Ix,rI_,rB_,rS_]
  try simp only[InK]
  have hlow:∀ a,A=some a->x=[]∨a.block<w.heap.size:=fun a ha=>by
    by_cases hx:x=[]
    · exact .inl hx
    · obtain⟨b,e1,e2⟩:=hr.blk (by intro e;exact hx (by simpa[u8s]using e))
      rw[ha]at e1;cases e1;exact .inr e2
  refine⟨fun b w'=>(b=true↔(0<count/\(t0<0∨t0>4611686018427387903))∨count<0)/\w'=w,⟨fun h=>⟨fun h1=>⟨by simp[h,h1],rfl⟩,fun h1=>⟨fun h2=>⟨by simp[h,h2],rfl⟩,fun h2=>⟨by simp;omega,rfl⟩⟩⟩,fun h=>⟨by simp;omega,rfl⟩⟩,?_⟩
  rintro bad w1 ⟨hbad,rfl⟩
  refine⟨fun hbt=>⟨af _ _,.inr ⟨rfl,fun l hl=>?_⟩⟩,fun hbf=>?_⟩
  · obtain⟨h1,h2,_⟩:=hl
    rcases hbad.1 hbt with⟨h3,h4⟩ | h3
    · cases l with
      | nil=>simp at h2;omega
      | cons e l=>have:=h1.1.1;have h5:=h1.1.2.2;simp only at h5;omega
    · omega
  have hgood:¬ ((0<count/\(t0<0∨t0>4611686018427387903))∨count<0):=fun h=>by rw[hbad.2 h]at hbf;cases hbf
  apply vc123;dsimp only[VC123,Wt,Br,Bb,Rd,Rc,Rs,Ix,rI_,rB_,rS_]
  have g1:=World.grownBy_alloc w1 (.cells #[.slice A k c,.int .i64 0] 240) none
  have b1:(w1.alloc (.cells #[.slice A k c,.int .i64 0] 240)).heap[w1.heap.size]?=some (.cells #[.slice A k c,.int .i64 0] 240 (0,0)):=heap_alloc_new w1 _
  refine⟨_,rfl,?_⟩
  obtain⟨w2,hw2⟩:∃ w2,w2=w1.alloc (.cells #[.slice A k c,.int .i64 0] 240):=⟨_,rfl⟩
  rw[← hw2]at g1 b1 ⊢
  have g2:=World.grownBy_alloc w2 (.cells #[.pointer (some ⟨w1.heap.size,0,none⟩),.int .i64 t0,.int .u32 0,.int .u32 0,.bool false,.bool false,.bool true] 192) none
  have b2:(w2.alloc (.cells #[.pointer (some ⟨w1.heap.size,0,none⟩),.int .i64 t0,.int .u32 0,.int .u32 0,.bool false,.bool false,.bool true] 192)).heap[w2.heap.size]?=some (.cells #[.pointer (some ⟨w1.heap.size,0,none⟩),.int .i64 t0,.int .u32 0,.int .u32 0,.bool false,.bool false,.bool true] 192 (0,0)):=heap_alloc_new w2 _
  obtain⟨w3,hw3⟩:∃ w3,w3=w2.alloc (.cells #[.pointer (some ⟨w1.heap.size,0,none⟩),.int .i64 t0,.int .u32 0,.int .u32 0,.bool false,.bool false,.bool true] 192):=⟨_,rfl⟩
  rw[← hw3]at g2 b2 ⊢
  have l12:w1.heap.size<w2.heap.size:=(Array.getElem?_eq_some_iff.1 b1).1
  have g03:=ab g1 g2
  have D0:DRd w3 w1.heap.size w2.heap.size A k c x 0 (dm t0 none) (none:Option Evt).isSome true :=
    ⟨⟨ai b1 g2,hr.kept_none g03,hk,by omega,fun a ha=>(hlow a ha).imp id (fun e=>by omega)⟩,b2,by omega,fun a ha=>(hlow a ha).imp id (fun e=>by omega)⟩
  have tyE1:62≠240:=by decide
  have tyE2:62≠192:=by decide
  -- the row of events lies apart from the reader
  have apart:∀ {W:World} {at_:Nat} {q:Evt} {any ok:Bool} {oA:Option Addr} {on oc:Nat} {out:List Evt},DRd W w1.heap.size w2.heap.size A k c x at_ q any ok->am W w1.heap.size 62 4 oA on oc (fh out)->∀ j,(Value.slice oA on oc).ownBlock=some j->w1.heap.size<=j/\j≠w1.heap.size/\j≠w2.heap.size:=by
    intro W at_ q any ok oA on oc out hD hO j hj
    obtain⟨cur,hcur⟩:=hO.block_type j hj
    refine⟨hO.block_ge j hj,fun e=>?_,fun e=>?_⟩
    · rw[e,hD.rd.blk]at hcur;cases hcur
    · rw[e,hD.blk]at hcur;cases hcur
  refine⟨fun oA on oc w'=>∃(out:List Evt)(ok:Bool)(at_:Nat)(p:Option Evt),DRd w' w1.heap.size w2.heap.size A k c x at_ (dm t0 p) p.isSome ok/\am w' w1.heap.size 62 4 oA on oc (fh out)/\qa4 out/\out.length<=at_+1/\w1.grownBy w' none/\(ok=true->(out.length:Int)=count/\∀ e∈out,e.v<n)/\∀ l0,qow x t0 count n l0->ok=true/\out=l0,
    ⟨fun m cnt oA on oc w'=>∃(out:List Evt)(ok:Bool)(at_:Nat)(p:Option Evt),cnt.toNat=m/\0<=cnt/\cnt<=count/\DRd w' w1.heap.size w2.heap.size A k c x at_ (dm t0 p) p.isSome ok/\am w' w1.heap.size 62 4 oA on oc (fh out)/\qa4 out/\(ok=true->out.length<=at_)/\out.length<=at_+1/\w1.grownBy w' none/\(ok=true->(out.length:Int)+cnt=count/\(∀ e∈out,e.v<n)/\∀ q,p=some q->qf0 q) ∧
      ∀ l0,qow x t0 count n l0->ok=true/\∃(j:Nat)(pad:List Bool),j<=l0.length/\out=l0.take j/\p=nb (l0.take j) none/\(bg x).drop at_=ic t0 p (l0.drop j)++pad/\cnt=(l0.length:Int)-j,
    ⟨_,[],true,0,none,rfl,by omega,by omega,D0,am.nil _ _ _ _,fun e he=>by simp at he,by simp,by simp,g03,fun _=>⟨by simp,fun e he=>by simp at he,fun q hq=>by cases hq⟩,fun l0 hl0=>⟨rfl,0,List.replicate (8*(((ic t0 none l0).length+7) / 8)-(ic t0 none l0).length) false,by omega,rfl,rfl,?_,by have:=hl0.2.1;omega⟩⟩,?_⟩,?_⟩
  · rw[hl0.2.2.2];unfold iv;rw[i6];rfl
  · rintro m cnt oA on oc w4 ⟨out,ok,at_,p,rfl,hc0,hcc,hD,hO,hEB,hol,hol1,hg,hok,hcond⟩
    refine⟨fun hpos=>⟨_,rfl,ok,hD.flag.1,fun hot=>?_,fun hof=>⟨out,ok,at_,p,hD,hO,hEB,hol1,hg,fun h=>(by rw[hof]at h;cases h),fun l0 hl0=>(by have:=(hcond l0 hl0).1;rw[hof]at this;cases this)⟩⟩,fun hz=>⟨out,ok,at_,p,hD,hO,hEB,hol1,hg,fun h=>⟨by have:=(hok h).1;omega,(hok h).2.1⟩,fun l0 hl0=>?_⟩⟩
    · subst hot
      obtain⟨hcnt,hvn,hsp⟩:=hok rfl
      have hol:=hol rfl
      refine(qfk hD (by omega) hb (by omega) hsp).mono fun ev w5 hh=>?_
      obtain⟨e,at',p',ok',rfl,D5,K5,heu,hev,het,hat,hok',hcond'⟩:=hh
      have hO5:=hO.kp K5 (fun j hj h=>by have:=apart hD hO j hj;omega)
      have hg5:w1.grownBy w5 none:=((Kp.of_none (S:=fun j=>w1.heap.size<=j) hg).then K5 (fun j _ h=>by omega)).grown (fun j hj h=>by omega)
      have sE0:(w5.alloc (.cells #[.int .i64 0,.int .u32 0,.int .u32 0,.bool false] 62)).heap[w5.heap.size]?=some (.cells #[.int .i64 0,.int .u32 0,.int .u32 0,.bool false] 62 (0,0)):=heap_alloc_new w5 _
      have sE1:=ah sE0 0 (.int .i64 e.t)
      have sE2:=ah sE1 1 (.int .u32 e.u)
      have sE3:=ah sE2 2 (.int .u32 e.v)
      have sE4:=ah sE3 3 (.bool e.add)
      have bE:(((((w5.alloc (.cells #[.int .i64 0,.int .u32 0,.int .u32 0,.bool false] 62)).setCell ⟨w5.heap.size,0,none⟩ (.int .i64 e.t)).setCell ⟨w5.heap.size,1,none⟩ (.int .u32 e.u)).setCell ⟨w5.heap.size,2,none⟩ (.int .u32 e.v)).setCell ⟨w5.heap.size,3,none⟩ (.bool e.add)).heap[w5.heap.size]?=some (.cells #[.int .i64 e.t,.int .u32 e.u,.int .u32 e.v,.bool e.add] 62 (0,0)):=by simpa using sE4
      have gE:w5.grownBy (((((w5.alloc (.cells #[.int .i64 0,.int .u32 0,.int .u32 0,.bool false] 62)).setCell ⟨w5.heap.size,0,none⟩ (.int .i64 e.t)).setCell ⟨w5.heap.size,1,none⟩ (.int .u32 e.u)).setCell ⟨w5.heap.size,2,none⟩ (.int .u32 e.v)).setCell ⟨w5.heap.size,3,none⟩ (.bool e.add)) none:=(Kp.grown (ck (ck (ck (ck (Kp.of_none (S:=fun k=>w5.heap.size<=k) (cf (af w5 none) _)) (Nat.le_refl _)) (Nat.le_refl _)) (Nat.le_refl _)) (Nat.le_refl _)) (fun k hk e=>by omega))
      obtain⟨w6,hE⟩:∃ w6,w6=(((((w5.alloc (.cells #[.int .i64 0,.int .u32 0,.int .u32 0,.bool false] 62)).setCell ⟨w5.heap.size,0,none⟩ (.int .i64 e.t)).setCell ⟨w5.heap.size,1,none⟩ (.int .u32 e.u)).setCell ⟨w5.heap.size,2,none⟩ (.int .u32 e.v)).setCell ⟨w5.heap.size,3,none⟩ (.bool e.add)):=⟨_,rfl⟩
      rw[← hE]at bE gE
      refine⟨_,_,_,_,rfl,⟨_,aa sE0 0⟩,ae sE0 0,⟨_,aa sE1 1⟩,ae sE1 1,⟨_,aa sE2 2⟩,ae sE2 2,⟨_,aa sE3 3⟩,ae sE3 3,?_⟩
      rw[← hE]
      have D6:=D5.kept gE
      have hO6:=hO5.kept gE
      have hg6:=ab hg5 gE
      have hatl:at'<=8*x.length:=D5.rd.le
      obtain⟨ok2,hok2⟩:∃ ok2:Bool,ok2=(ok' && decide (e.u<e.v/\e.v<n)):=⟨_,rfl⟩
      have l5:w2.heap.size<w5.heap.size:=by have:=(Array.getElem?_eq_some_iff.1 D5.blk).1;exact this
      refine⟨fun W=>DRd W w1.heap.size w2.heap.size A k c x at' (dm t0 p') p'.isSome ok2/\am W w1.heap.size 62 4 oA on oc (fh out)/\w1.grownBy W none/\W.heap[w5.heap.size]?=some (.cells #[.int .i64 e.t,.int .u32 e.u,.int .u32 e.v,.bool e.add] 62 (0,0)),?_,?_⟩
      · have st:∀(W:World)(b:Bool),b=ok2->w6.grownBy W none->DRd (W.setCell ((⟨w2.heap.size,0,none⟩:Addr).add 6) (.bool b)) w1.heap.size w2.heap.size A k c x at' (dm t0 p') p'.isSome ok2/\am (W.setCell ((⟨w2.heap.size,0,none⟩:Addr).add 6) (.bool b)) w1.heap.size 62 4 oA on oc (fh out)/\w1.grownBy (W.setCell ((⟨w2.heap.size,0,none⟩:Addr).add 6) (.bool b)) none/\(W.setCell ((⟨w2.heap.size,0,none⟩:Addr).add 6) (.bool b)).heap[w5.heap.size]?=some (.cells #[.int .i64 e.t,.int .u32 e.u,.int .u32 e.v,.bool e.add] 62 (0,0)):=by
          intro W b hb2 gW
          obtain⟨m1,m2⟩:=(D6.kept gW).mark b
          rw[hb2]at m1 m2 ⊢
          refine⟨m1,(hO6.kept gW).kp m2 (fun j hj h=>by have:=apart D6 hO6 j hj;omega),((Kp.of_none (S:=fun j=>w1.heap.size<=j) (ab hg6 gW)).then m2 (fun j _ h=>by omega)).grown (fun j hj h=>by omega),?_⟩
          rw[m2.block _ (Array.getElem?_eq_some_iff.1 (ai bE gW)).1 (by omega)];exact ai bE gW
        refine⟨_,rfl,ok',D6.flag.1,fun ho=>⟨_,aa bE 1,_,aa bE 2,(x0 (e.u,e.v) hev).mono fun ev w7 hh=>?_⟩,fun ho=>⟨_,rfl,⟨_,D6.flag.1⟩,D6.flag.2,st w6 false (by rw[hok2,ho];rfl) (af _ _)⟩⟩
        obtain⟨rfl,g7⟩:=hh
        have D7:=D6.kept g7
        exact⟨_,rfl,_,rfl,⟨_,D7.flag.1⟩,D7.flag.2,st w7 _ (by rw[hok2,ho];rfl) g7⟩
      · rintro W ⟨DW,hOW,hgW,bW⟩
        have gA:=World.grownBy_alloc W (.cells #[.int .i64 e.t,.int .u32 e.u,.int .u32 e.v,.bool e.add] 62) none
        have rE:Row (W.alloc (.cells #[.int .i64 e.t,.int .u32 e.u,.int .u32 e.v,.bool e.add] 62)) (some ⟨W.heap.size,0,none⟩) (fh [e]):=gn _ #[.int .i64 e.t,.int .u32 e.u,.int .u32 e.v,.bool e.add] 62 (0,0)
        have hon:on=out.length:=by have:=hO.cases.1;rw[cw]at this;omega
        obtain⟨Y,yn,yc,w7,f1,f2,f3,f4⟩:=ew (m:=1) (d:=1) (ys:=[e]) (hOW.kept gA) rE rfl (by simp) (by omega) (Nat.le_trans hgW.size gA.size)
        refine⟨_,aa bW 0,_,aa bW 1,_,aa bW 2,_,aa bW 3,_,_,_,w7,f1,by omega,_,?_,out++[e],ok2,at',p',rfl,by omega,by omega,?_,f2,?_,fun ho=>?_,?_,?_,fun ho=>?_,fun l0 hl0=>?_⟩
        · omega
        · exact(DW.kept gA).kp (S:=fun j=>some j=(Value.slice oA on oc).ownBlock) ⟨f3.os,f3.tape,f3.output,f3.size,fun j hj hS=>f3.block j hj hS⟩ (fun h=>by have:=apart D6 hO6 _ h.symm;omega) (fun h=>by have:=apart D6 hO6 _ h.symm;omega) (fun a ha=>(hlow a ha).imp id (fun e h=>by have:=apart D6 hO6 _ h.symm;omega))
        · intro a ha
          rcases List.mem_append.1 ha with ha | ha
          · exact hEB a ha
          · simp at ha;subst ha;exact⟨⟨heu,hev⟩,het⟩
        · rw[ho]at hok2
          have h2:=hok2.symm
          simp only[Bool.and_eq_true,decide_eq_true_eq]at h2
          have:=(hok' h2.1).2.2
          simp only[List.length_append,List.length_singleton];omega
        · simp only[List.length_append,List.length_singleton];omega
        · exact ax (ab hgW gA) f3 (fun j hj=>hO.block_ge j hj)
        · rw[ho]at hok2
          have h2:=hok2.symm
          simp only[Bool.and_eq_true,decide_eq_true_eq]at h2
          obtain⟨q1,q2,q3⟩:=hok' h2.1
          refine⟨by simp only[List.length_append,List.length_singleton];omega,fun a ha=>?_,fun q hq=>?_⟩
          · rcases List.mem_append.1 ha with ha | ha
            · exact hvn a ha
            · simp at ha;subst ha;exact h2.2.2
          · rw[q1]at hq;cases hq;exact q2
        · obtain⟨_,j,pad,hj,hout,hp,hbits,hcj⟩:=hcond l0 hl0
          have hjl:j<l0.length:=by omega
          have hcons:=List.drop_eq_getElem_cons hjl
          have hDo:=hl0.1
          rw[← List.take_append_drop j l0,ig.append,← hp,hcons]at hDo
          have hoke:=hDo.2.1
          rw[hcons,ic,List.append_assoc]at hbits
          obtain⟨c1,c2,c3⟩:=hcond' l0[j] _ hoke hbits
          obtain⟨q1,q2,q3⟩:=hok' c1
          have hvn0:=hl0.2.2.1 _ (List.getElem_mem hjl)
          have hlt:=hoke.2.1
          refine⟨by rw[hok2,c1,c2];simp;omega,j+1,pad,by omega,?_,?_,?_,by omega⟩
          · rw[List.take_succ_eq_append_getElem hjl,hout,c2]
          · rw[List.take_succ_eq_append_getElem hjl,qv,q1,c2]
          · rw[c3,q1,c2]
    · obtain⟨h1,j,pad,hj,hout,hp,hbits,hcj⟩:=hcond l0 hl0
      refine⟨h1,?_⟩
      rw[hout,List.take_of_length_le (by omega)]
  · rintro oA on oc w4 ⟨out,ok,at_,p,hD,hO,hEB,hol,hg,hok,hcond⟩
    have hatl:at_<=8*x.length:=hD.rd.le
    have hon:on=out.length:=by have:=hO.cases.1;rw[cw]at this;omega
    refine(qch (t0:=t0) hO.row hon (by omega) hEB).mono fun ev w5 hh=>?_
    obtain⟨B,m,d,rfl,oB,g5⟩:=hh
    have D5:=hD.kept g5
    have g05:=ab hg g5
    refine⟨_,_,_,_,rfl,_,rfl,ok,D5.flag.1,fun hof=>⟨g05,.inr ⟨rfl,fun l hl=>?_⟩⟩,fun hot=>?_⟩
    · have:=(hcond l hl).1;rw[hof]at this;cases this
    · have hot:ok=true:=by simpa using hot
      by_cases hdel:qci t0 none out=true
      · rw[if_pos hdel]at *
        have hDO:=(vg hEB).1 hdel
        refine⟨fun h=>absurd rfl h,fun _=>(kv oB.row (d8 oB) (hr.kept_none g05) hk (df t0 out) hb).mono fun ev w6 hh=>?_⟩
        obtain⟨rfl,rfl⟩:=hh
        refine⟨_,rfl,fun h=>⟨g05,.inr ⟨rfl,fun l hl=>?_⟩⟩,fun h=>⟨g05,.inl ⟨_,_,_,out,rfl,hO.row.kept_none g5,hon,yw hO,fun h=>dr hO h,hDO,(hok hot).1,(hok hot).2,?_⟩⟩⟩
        · have:=of_decide_eq_false h
          have e:=(hcond l hl).2
          rw[e]at this
          exact this hl.2.2.2.symm
        · have:decide (iv t0 out=x)=true:=by simpa using h
          exact(of_decide_eq_true this).symm
      · rw[if_neg hdel]at *
        refine⟨fun _=>⟨g05,.inr ⟨rfl,fun l hl=>?_⟩⟩,fun h=>absurd (by omega) h⟩
        have e:=(hcond l hl).2
        rw[e]at hdel
        exact hdel ((vg hl.1.evtsB).2 hl.1)
end Go.Proofs.YtlieaecnllkefaaGreat
