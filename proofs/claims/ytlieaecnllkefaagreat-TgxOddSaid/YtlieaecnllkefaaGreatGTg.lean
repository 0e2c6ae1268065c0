/- snap.After: the walk. -/
import Derived.Test.YtlieaecnllkefaaGreatGSg
import Derived.Test.YtlieaecnllkefaaGreatGPg
import Derived.Laws.Build
set_option linter.unusedVariables false
set_option linter.unusedSimpArgs false
set_option maxHeartbeats 4000000
set_option maxRecDepth 100000
namespace Go.Proofs.YtlieaecnllkefaaGreat
open Go Go.V Go.RowKit
theorem CD:∀ x y:Edge,gj x=gj y->x=y:=fun x y h=>by
 obtain⟨a,b⟩:=x;obtain⟨c,d⟩:=y;simp[gj]at h;simp[h]
theorem _root_.Go.V.IterAt.nodup{w:World}{r b:Nat}{L:List (Edge×Bool)}{done:List Edge}{last:Option (Edge×Bool)}(h:IterAt gj Value.bool w r b L done last):(L.map Prod.fst).Nodup:=by
 obtain⟨es,clock,since,seen,c0,h1,h2,h3,h4,h5,h6,G8,_⟩:=h;exact G8
theorem x9{w:World}{base ge n c:Nat}{A:OA}{out:List Edge}(ho:aE w base 45 2 A n c (edges out))(he:w.heap[ge]?=some (.cells #[.slice A n c] 40 (0,0)))(hn:n<50)(G8:out.Nodup):
    Calls P 63 #[.iface 40 (.slice A n c),gg ge] w fun ev w'=>ev=.returned (.tuple #[])/\∃ out',aE w' base 45 2 A n c (edges out')/\w'.heap[ge]?=some (.cells #[.slice A n c] 40 (0,0))/\w.grownBy w' (Value.slice A n c).ownBlock/\out'.Perm out/\fZ out':=by
  have hl:n=out.length:=by have:=ho.cases.1;rw[dk]at this;omega
  by_cases h0:n=0
  · subst h0;refine Ex.mono fun ev w1 hh=>?_;obtain⟨rfl,g1⟩:=hh;have:out=[]:=List.eq_nil_of_length_eq_zero hl.symm;subst this;exact⟨rfl,[],ho.kept g1,aF he g1,⟨g1.os,g1.tape,g1.output,g1.size,fun k hk _=>g1.block k hk (by simp)⟩,List.Perm.refl _,List.Pairwise.nil⟩
  by_cases h1:n=1
  · subst h1;refine Ew.mono fun ev w1 hh=>?_;obtain⟨rfl,g1⟩:=hh;refine⟨rfl,out,ho.kept g1,aF he g1,⟨g1.os,g1.tape,g1.output,g1.size,fun k hk _=>g1.block k hk (by simp)⟩,List.Perm.refl _,?_⟩;cases out with
    | nil=>simp at hl
    | cons a t=>cases t with
      | nil=>simp[fZ]
      | cons b t=>simp at hl
  obtain⟨_,⟨_,q,_⟩ | ⟨g,cur,rfl,VT,Te,MZ,hg,Je,GD⟩⟩:=ho.cases
  · exact absurd q h0
  have hs:jS w g ge n c out.toArray:=⟨⟨cur,hg,Je,by simpa using GD⟩,he,by simp;omega,MZ⟩;refine(yb hs (by omega) hn).mono fun ev w1 hh=>?_;obtain⟨rfl,d',s1,k1,hp,Hl⟩:=hh;obtain⟨cur',e1,e2,e3⟩:=s1.blk;have Hr:out.toArray.size=n:=by simp;omega
  rw[← Hr]at hp;have Gk:=uk hp;have hr:fZ d'.toList:=x0 (by rw[s1.sz];exact Hl) (Gk.nodup_iff.2 (by simpa using G8));refine⟨rfl,d'.toList,aE.of_block VT e1 MZ Te e2 (by rw[dk];have:=s1.sz;simp;omega) e3,s1.env,?_,by simpa using Gk,hr⟩;exact⟨k1.os,k1.tape,k1.output,k1.size,fun k hk FS=>k1.block k hk (fun e=>FS (by rw[e];rfl))⟩
theorem pR {w:World} {A:OA} {n c:Nat} {l:List aS} {N k:Int} (hr:aZ w A (cE l)) (hn:n=l.length) (hc:n<=c) (hA:A=none->c=0) (hl:n<50) (hb:sN l) :
    Calls P 35 #[.agg #[.int .u64 N,.slice A n c],.int .i64 k] w fun ev w'=>∃(A':OA)(n' c':Nat),ev=.returned (.tuple #[.slice A' n' c',.int .i64 (dF N l).2])/\aE w' w.heap.size 45 2 A' n' c' (edges (gG N l k))/\w.grownBy w' none:=by
  apply vc35;dsimp only[VC35,rt,Wt,Br,Bb,Rd,Rs,Ix,Ap,Ws,cU,nb,ad,al,iq]
  try simp only[aG]
  obtain⟨w0,HD,g0,b0⟩:=fQ w #[.int .u64 N,.slice A n c] 25;rw[← HD];refine⟨_,aB b0 0,_,_,_,aB b0 1,(mr (hr.kept_none g0) hn (by omega) hb).mono fun ev w1 hh=>?_⟩;obtain⟨rfl,g1⟩:=hh;have Hg:=aA g0 g1;refine⟨_,_,rfl,fun h=>?_,fun h=>?_⟩
  · have:gG N l k=[]:=by rw[gG,if_pos h]
    rw[this];exact⟨_,_,_,rfl,aE.nil _ _ _ _,Hg⟩
  have hz:(dF N l).2=0:=by omega
  have RE:gG N l k=dA (l.take k.toNat) []:=by rw[gG,if_neg h]
  have Ob:=(nU.1 hz).2.2;rw[RE,hz];have hM:vJ (w1.alloc (.map #[] 0)) w1.heap.size []:=dE.made w1;have g2:=World.grownBy_alloc w1 (.map #[] 0) none;obtain⟨w2,Ig⟩:∃ w2,w2=w1.alloc (.map #[] 0):=⟨_,rfl⟩;rw[← Ig]at hM g2 ⊢;have b2:=aF (aF b0 g1) g2;have GH:=aA Hg g2;obtain⟨K,hK⟩:∃ K:Nat,mn (mx k 0) (n:Int)=(K:Int)/\K<=n/\l.take K=l.take k.toNat:=by
    refine⟨min k.toNat n,by unfold mn mx;split <;>split <;>omega,by omega,?_⟩;by_cases hh:k.toNat<=n
    · rw[Nat.min_eq_left hh]
    · rw[Nat.min_eq_right (by omega),List.take_of_length_le (by omega),List.take_of_length_le (by omega)]
  obtain⟨Wx,RX,IL⟩:=hK;have tK:((K:Nat):Int).toNat=K:=by omega
  refine⟨_,_,_,aB b2 1,_,_,_,aB b2 1,?_⟩;rw[Wx,tK,← IL];refine⟨⟨by omega,by omega⟩,fun m i W=>∃ (p:Nat) (L:List (Edge×Bool)),i=(p:Int)/\p<=K/\m=K-p/\vJ W w1.heap.size L/\zH L/\iV L (dA (l.take p) [])/\w.grownBy W none,
    ⟨_,0,[],rfl,by omega,rfl,hM,fun p hp=>(by simp at hp),fun a=>by simp[dY,dA],GH⟩,?_⟩
  rintro m i w3 ⟨p,L,rfl,hp,rfl,RS,IC,IN,hg⟩;have tp:(p:Int).toNat=p:=by omega
  rw[tp];refine⟨fun FP=>?_,fun FU=>?_⟩
  · have lp:p<l.length:=by omega
    have Jf:=hb _ (List.getElem_mem lp);obtain⟨a,e1,e2,e3,e4,e5⟩:=ey (hr.kept_none hg) lp;obtain⟨x,LN,Py⟩:=Ob.step lp;obtain⟨w4,hE,pE0,qE0,pE1,qE1,pE2,qE2,pE3,qE3,bE,gE⟩:=uC w3 62 (.int .i64 0) (.int .u32 0) (.int .u32 0) (.bool false) (.int .i64 l[p].t) (.int .u32 l[p].u) (.int .u32 l[p].v) (.bool l[p].add);refine⟨a,e1,by omega,by omega,_,e2,_,e3,_,e4,_,e5,pE0,qE0,pE1,qE1,pE2,qE2,pE3,qE3,?_⟩;rw[← hE];have F8:=aA hg gE;have okk:oU (l[p].u,l[p].v):=⟨Jf.1,Jf.2⟩;have lM:w.heap.size<=w1.heap.size:=Hg.size;refine⟨_,aB bE 3,fun ha=>?_,fun ha=>?_⟩
    · obtain⟨W2,k1,k2,k3⟩:=dE.update Cr Tryz.underlying114 (RS.kept gE) okk true;refine⟨_,aB bE 1,_,aB bE 2,W2,k1,⟨by omega,by omega⟩,K-(p+1),by omega,p+1,_,by omega,by omega,rfl,k2,IC.upd _,?_,aN F8 k3 (fun k hk=>by cases hk;omega)⟩;rw[Py];have:=IN.upd LN;rw[ha]at this;exact this
    · obtain⟨W2,k1,k2,k3⟩:=dE.strike Cr Tryz.underlying114 (RS.kept gE) okk _;refine⟨_,aB bE 1,_,aB bE 2,W2,k1,⟨by omega,by omega⟩,K-(p+1),by omega,p+1,_,by omega,by omega,rfl,k2,IC.del _,?_,aN F8 k3 (fun k hk=>by cases hk;omega)⟩;rw[Py];exact IN.del LN ha
  · have UK:p=K:=by omega
    subst UK;have gO:=World.grownBy_alloc w3 (.cells #[.slice none 0 0] 40) none;have bO:(w3.alloc (.cells #[.slice none 0 0] 40)).heap[w3.heap.size]?=some (.cells #[.slice none 0 0] 40 (0,0)):=heap_alloc_new w3 _;obtain⟨w4,HY⟩:∃ w4,w4=w3.alloc (.cells #[.slice none 0 0] 40):=⟨_,rfl⟩;rw[← HY]at gO bO ⊢;obtain⟨o,GL,SO⟩:=dE.range Tryz.underlying114 (RS.kept gO);have gI:=World.grownBy_alloc w4 o none;have hL:=SO.nodup;have keys:=IN.keys IC;have Q7:=aA (aA hg gO) gI;have lw3:w.heap.size<=w3.heap.size:=hg.size;have lw4:w3.heap.size<w4.heap.size:=(Array.getElem?_eq_some_iff.1 bO).1;refine⟨_,_,GL,fun m W=>∃ (done:List Edge) (last:Option (Edge×Bool)) (out:List Edge) (B:OA) (bn bc:Nat),IterAt gj Value.bool W w4.heap.size w1.heap.size L done last/\W.heap[w3.heap.size]?=some (.cells #[.slice B bn bc] 40 (0,0))/\aE W w.heap.size 45 2 B bn bc (edges out)/\out.Nodup/\(∀ a,a∈out↔a∈done)/\(∀ a∈done,∃ p∈L,p.1=a)/\m=L.length-out.length/\w.grownBy W none,
      ⟨_,[],none,[],none,0,0,SO,aF bO gI,aE.nil _ _ _ _,List.nodup_nil,fun a=>Iff.rfl,fun a ha=>(by simp at ha),rfl,Q7⟩,?_⟩
    rintro m W ⟨done,last,out,B,bn,bc,hI,hO,Nd,G8,Gl,JL,rfl,JD⟩;have KQ:bn=out.length:=by have:=Nd.cases.1;rw[dk]at this;omega
    have FT:out.length<=L.length:=by
      have:=kY (l:=out) (m:=L.map Prod.fst) G8 (fun a ha=>by obtain⟨p,h1,h2⟩:=JL a ((Gl a).1 ha);exact List.mem_map.2 ⟨p,h1,h2⟩);simpa using this
    have IQ:out.length<=50:=by
      have h1:=kY G8 (fun a ha=>(keys a).2 (JL a ((Gl a).1 ha)));have h2:=ig (l.take p) [];rw[List.length_take]at h2;simp only[List.length_nil]at h2;omega
    have apart:∀ j,(Value.slice B bn bc).ownBlock=some j->w.heap.size<=j/\j≠w1.heap.size/\j≠w4.heap.size/\j≠w3.heap.size:=by
      intro j hj;obtain⟨cur,Gc⟩:=Nd.block_type j hj;obtain⟨es,clock,since,seen,c0,i1,_,_,_,i5,_⟩:=hI;refine⟨Nd.block_ge j hj,fun e=>?_,fun e=>?_,fun e=>?_⟩
      · rw[e,i1]at Gc;cases Gc
      · rw[e,i5]at Gc;cases Gc
      · rw[e,hO]at Gc;cases Gc
    rcases hI.next CD 0 with⟨FZ,GL⟩ | ⟨q,hq,PH,W7,GL,Tu,k7⟩
    · refine⟨W,.inl ⟨GL,fun h=>(by cases h),fun _=>?_⟩⟩;have Oh:∀ a,a∈out↔a∈dA (l.take p) []:=fun a=>by
        rw[Gl,keys];exact⟨JL a,fun⟨q,h1,h2⟩=>by rw[← h2];exact FZ q h1⟩
      have GR:fZ (dA (l.take p) []):=((Ob.take p).fold List.Pairwise.nil).1;have Lw:=kY G8 (fun a ha=>(Oh a).1 ha);have Mf:=ig (l.take p) [];rw[List.length_take]at Mf;simp only[List.length_nil]at Mf;refine⟨_,_,_,aB hO 0,_,fun w=>run_makeInterface (P:=P) w 40 _ (by kernel_rfl),(x9 Nd hO (by omega) G8).mono fun ev w8 hh=>?_⟩;obtain⟨rfl,out',o8,e8,g8,Gk,Uu⟩:=hh;have Vx:out'=dA (l.take p) []:=fZ.ext Uu GR fun e=>by rw[Gk.mem_iff,Oh]
      subst Vx;exact⟨by trivial,_,_,_,aB e8 0,_,_,_,rfl,o8,aN JD g8 (fun k hk=>Nd.block_ge k hk)⟩
    · refine⟨W7,.inr ⟨_,_,GL,fun _=>⟨q.1.1,q.1.2,q.2,W7,Tu.entry,?_⟩,fun h=>(by cases h)⟩⟩;have Rq:w1.heap.size≠w3.heap.size:=fun e=>by
        obtain⟨es,clock,since,seen,c0,i1,_⟩:=hI;rw[e,hO]at i1;cases i1
      have Wn:W7.heap[w3.heap.size]?=some (.cells #[.slice B bn bc] 40 (0,0)):=by
        rw[k7.block _ (Array.getElem?_eq_some_iff.1 hO).1 (by omega)];exact hO
      have g7:w.grownBy W7 none:=((Kp.of_none (S:=fun j=>w.heap.size<=j) JD).then k7 (fun j _ h=>by omega)).grown (fun j hj h=>by omega);obtain⟨W8,hE,pE0,qE0,pE1,qE1,bE,gE⟩:=uD W7 45 (.int .u32 0) (.int .u32 0) (.int .u32 q.1.1) (.int .u32 q.1.2);refine⟨pE0,qE0,pE1,qE1,?_⟩;rw[← hE];have Tq:=aF Wn gE;have gA:=World.grownBy_alloc W8 (.cells #[.int .u32 q.1.1,.int .u32 q.1.2] 45) none;have rE:aZ (W8.alloc (.cells #[.int .u32 q.1.1,.int .u32 q.1.2] 45)) (some ⟨W8.heap.size,0,none⟩) (edges [q.1]):=fh _ #[.int .u32 q.1.1,.int .u32 q.1.2] 45 (0,0);have RO:=((Nd.kp k7 (fun j hj e=>(apart j hj).2.2.1 e)).kept gE).kept gA;have g9:=aA (aA g7 gE) gA;obtain⟨B',n',c',Gd,f1,f2,f3,f4⟩:=dP (m:=1) (d:=1) (ys:=[q.1]) RO rE rfl (by simp) (by omega) g9.size;have HB:=aN g9 f3 (fun k hk=>(apart k hk).1);have Tp:=aF Tq gA;have KW:Gd.heap[w3.heap.size]?=some (.cells #[.slice B bn bc] 40 (0,0)):=by
        rw[f3.block _ (Array.getElem?_eq_some_iff.1 Tp).1 (fun e=>(apart _ e.symm).2.2.2 rfl)];exact Tp
      have Wz:=(Tu.kp (S:=fun _=>False) (Kp.of_none gE) (fun h=>h) (fun h=>h)).kp (S:=fun _=>False) (Kp.of_none gA) (fun h=>h) (fun h=>h);have RY:=Wz.kp (Kp.of_grown f3) (fun e=>(apart _ e.symm).2.1 rfl) (fun e=>(apart _ e.symm).2.2.1 rfl);have K11:Kp Gd (Gd.setCell ⟨w3.heap.size,0,none⟩ (.slice B' n' c')) (fun k=>k=w3.heap.size):=cA (Kp.refl Gd _) rfl;have Ss:q.1 ∉ out:=fun h=>PH ((Gl _).1 h);refine⟨_,_,_,aB Tq 0,_,aB bE 0,_,aB bE 1,_,_,_,Gd,f1,⟨_,aB KW 0⟩,aD KW 0,L.length-(out.length+1),?_,q.1 ::done,some q,out++[q.1],B',n',c',RY.kp K11 (fun e=>Rq e) (fun e=>by omega),by simpa using aH KW 0 (.slice B' n' c'),f2.kp K11 (fun j hj e=>?_),?_,fun a=>?_,fun a ha=>?_,by simp,(cA (Kp.of_none (S:=fun j=>w.heap.size<=j) HB) lw3).grown (fun j hj h=>by omega)⟩
      · have:=kY (l:=q.1 ::out) (m:=L.map Prod.fst) (List.nodup_cons.2 ⟨Ss,G8⟩) (fun a ha=>by
          rcases List.mem_cons.1 ha with rfl | ha
          · exact List.mem_map.2 ⟨q,hq,rfl⟩
          · obtain⟨p,h1,h2⟩:=JL a ((Gl a).1 ha);exact List.mem_map.2 ⟨p,h1,h2⟩)
        simp only[List.length_cons,List.length_map]at this;omega
      · obtain⟨cur,Gc⟩:=f2.block_type j hj;rw[e,KW]at Gc;cases Gc
      · rw[List.nodup_append];exact⟨G8,by simp,fun a ha b hb=>by simp at hb;subst hb;exact fun e=>Ss (by rw[← e];exact ha)⟩
      · rw[List.mem_append,List.mem_singleton,Gl];refine⟨fun h=>?_,fun h=>?_⟩
        · rcases h with h | rfl
          · exact List.mem_cons_of_mem _ h
          · exact List.mem_cons_self
        · exact(List.mem_cons.1 h).elim .inr .inl
      · rcases List.mem_cons.1 ha with rfl | ha
        · exact⟨q,hq,rfl⟩
        · exact JL a ha
end Go.Proofs.YtlieaecnllkefaaGreat
