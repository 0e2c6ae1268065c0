/- Own texts, packed: B1, B2, B3, B4, B5. -/
import Derived.Test.YtlieaecnllkefaaGreatGCg
import Derived.Test.YtlieaecnllkefaaGreatGFg
import Derived.Test.YtlieaecnllkefaaGreatGXg
import Derived.Laws.IdiomStrings
set_option linter.unusedVariables false
set_option linter.unusedSimpArgs false
set_option maxHeartbeats 4000000
set_option maxRecDepth 100000
namespace Go.Proofs.YtlieaecnllkefaaGreat
open Go Go.V Go.RowKit
theorem nl:qw P 26 5 1 1:=⟨(P.info? 5).getD default,.int .u8 0,by kernel_rfl,by kernel_rfl,by kernel_rfl,by kernel_rfl,by kernel_rfl,by kernel_rfl,by omega⟩
theorem DD:qw P 176 4 1 1:=⟨(P.info? 4).getD default,.bool false,by kernel_rfl,by kernel_rfl,by kernel_rfl,by kernel_rfl,by kernel_rfl,by kernel_rfl,by omega⟩
theorem qZ:CT P 26 5 (.int .u8 0) 1:=⟨(P.info? 5).getD default,by kernel_rfl,by kernel_rfl,by kernel_rfl,by kernel_rfl,by kernel_rfl,by kernel_rfl⟩
abbrev bY(xs:List Int):List Value:=xs.map (Value.int .u8)
abbrev BO(xs:List Bool):List Value:=xs.map Value.bool
structure vg(w:World)(base g:Nat)(A:OA)(n c:Nat)(bits:List Bool):Prop where
 blk:w.heap[g]?=some (.cells #[.slice A n c,.int .i64 (bits.length:Int)] 214 (0,0))
 low:base<=g
 row:aE w base 5 1 A n c (bY (dN bits))
def Wr(w:World)(base g:Nat)(bits:List Bool):Prop:=∃(A:OA)(n c:Nat),vg w base g A n c bits
def Ef(A:OA)(n c g:Nat)(k:Nat):Prop:=k=g∨some k=(Value.slice A n c).ownBlock
theorem vg.ne{w:World}{base g:Nat}{A:OA}{n c:Nat}{bits:List Bool}(h:vg w base g A n c bits):some g≠(Value.slice A n c).ownBlock:=by
 intro e;obtain⟨cur,h1⟩:=h.row.block_type g e.symm;have:=h.blk;rw[h1]at this;cases this
theorem vg.kp{w w':World}{S:Nat->Prop}{base g:Nat}{A:OA}{n c:Nat}{bits:List Bool}(h:vg w base g A n c bits)(hk:Kp w w' S)(h1:¬ S g)(h2:∀ k,(Value.slice A n c).ownBlock=some k->¬ S k):vg w' base g A n c bits:=by
 refine⟨by rw[hk.block g (Array.getElem?_eq_some_iff.1 h.blk).1 h1];exact h.blk,h.low,?_⟩;obtain⟨e1,e2⟩:=h.row;refine⟨e1,e2.imp id ?_⟩;rintro⟨q,cap,cur,e3,e4,e5,r⟩;have hq:(Value.slice A n c).ownBlock=some q:=by rw[e3];simp[Value.ownBlock]
 exact⟨q,cap,cur,e3,e4,by rw[hk.block q (Array.getElem?_eq_some_iff.1 e5).1 (h2 q hq)];exact e5,r⟩
theorem sG{n:Int}{w:World}{R:Ending->World->Prop}(h:R (.returned (.int .i64 (mn (mx n 0) 64))) w):Calls P 175 #[.int .i64 n] w R:=vc175 n w R h
theorem u9{n:Nat}(h:n<=64):mn (mx (n:Int) 0) 64=(n:Int):=by
 unfold mn mx;split <;>split <;>omega
theorem BP{v:Int}(h0:0<=v)(h:v<18446744073709551616){i:Nat}(hi:i<=63):dD .and .u64 (v / 2^(min i 64)) 1=fy (eZ v i):=by
 have e:min i 64=i:=by omega
 have hp:=eu i;have hd:0<=v / 2^i:=Int.ediv_nonneg h0 (Int.le_of_lt hp);have JE:v / 2^i<=v:=by
  have:=Int.ediv_le_self (2^i) h0;exact this
 rw[e,DV hd (by omega)];unfold eZ fy;have:=Int.emod_nonneg (v / 2^i) (show(2:Int)≠0 by omega);have:=Int.emod_lt_of_pos (v / 2^i) (show(0:Int)<2 by omega);by_cases h1:v / 2^i % 2=1
 ·simp[h1]
 ·have h2:v / 2^i % 2=0:=by omega
  simp[h2]
theorem wh(bs:List Bool)(b:Bool):cJ bs (bs.length / 8)+fy b*2^(bs.length % 8)<=255:=by
 have h:=jL (bs++[b]) (bs.length / 8);rw[nw,if_pos rfl]at h;exact h.2
theorem Fw {w:World} {base g:Nat} {A:OA} {n0 c:Nat} {bits:List Bool} {v:Int} {n:Nat} (h:vg w base g A n0 c bits) (hv:0<=v/\v<18446744073709551616) (hn:n<=64) (hl:bits.length<=2^30) (FW:base<=w.heap.size) :
    Calls P 151 #[.pointer (some ⟨g,0,none⟩),.int .u64 v,.int .i64 (n:Int)] w fun ev w'=>ev=.returned (.tuple #[])/\∃(A':OA)(n' c':Nat),vg w' base g A' n' c' (bits++cK v n)/\Kp w w' (Ef A n0 c g) ∧
      ((Value.slice A' n' c').ownBlock=(Value.slice A n0 c).ownBlock∨∃ q,(Value.slice A' n' c').ownBlock=some q/\w.heap.size<=q):=by
  apply vc151;dsimp only[VC151,rt,Wt,Br,Rd,Rs,Ix,Ap,cI,nb,iq];refine sG ⟨_,rfl,?_⟩;rw[u9 hn];simp only[aG]
  refine⟨by omega,fun m i w1=>∃(r:Nat)(bs:List Bool)(A':OA)(n' c':Nat),i=(r:Int)-1/\m=r/\r<=n/\bs++cK v r=bits++cK v n/\vg w1 base g A' n' c' bs/\Kp w w1 (Ef A n0 c g) ∧
      ((Value.slice A' n' c').ownBlock=(Value.slice A n0 c).ownBlock∨∃ q,(Value.slice A' n' c').ownBlock=some q/\w.heap.size<=q),
    ⟨_,n,bits,A,n0,c,rfl,rfl,Nat.le_refl _,rfl,h,Kp.refl _ _,.inl rfl⟩,?_⟩
  rintro m i w1 ⟨r,bs,A1,n1,c1,rfl,QL,NN,HW,h1,HR,IC⟩;subst QL;have FT:bs.length+m=bits.length+n:=by
    have:=congrArg List.length HW;simpa[ef]using this
  refine⟨fun FU=>?_,fun FP=>?_⟩
  · obtain⟨r,rfl⟩:∃ r,m=r+1:=⟨m-1,by omega⟩;have hi:((r+1:Nat):Int)-1=(r:Int):=by omega
    rw[hi];have ht:(r:Int).toNat=r:=by omega
    rw[ht,BP hv.1 hv.2 (show r<=63 by omega)];have c0:∀(cur:Array Value)(t:TypeId)(w2:World),w2.heap[g]?=some (.cells cur t (0,0))->w2.cell? ⟨g,0,none⟩=cur[0]?/\w2.cell? ((⟨g,0,none⟩:Addr).add 1)=cur[1]?:=fun cur t w2 e=>⟨aB e 0,by rw[aP];exact aB e 1⟩;have szr:base<=w1.heap.size:=Nat.le_trans FW HR.size
    -- behind the byte more
    refine⟨fun w2=>∃(A':OA)(n' c':Nat),w2.heap[g]?=some (.cells #[.slice A' n' c',.int .i64 (bs.length:Int)] 214 (0,0))/\aE w2 base 5 1 A' n' c' (bY (if bs.length % 8=0 then dN bs++[0] else dN bs))/\Kp w w2 (Ef A n0 c g) ∧
      ((Value.slice A' n' c').ownBlock=(Value.slice A n0 c).ownBlock∨∃ q,(Value.slice A' n' c').ownBlock=some q/\w.heap.size<=q),⟨_,rfl,_,(c0 _ _ _ h1.blk).2,by omega,fun hz=>?_,fun SE=>?_⟩,?_⟩
    · have g1:=World.grownBy_alloc w1 (.cells #[.int .u8 0] 5) none;have ro:=dg w1 #[.int .u8 0] 5;have II:n1=(dN bs).length:=by have:=h1.row.cases.1;rw[List.length_map]at this;omega
      obtain⟨A2,n2,c2,w2,e1,e2,e3,e4,e5⟩:=(h1.row.kept g1).appends (ty:=26) nl (by omega) (a:=⟨w1.heap.size,0,none⟩) (m:=1) (cc:=1) (us:=bY [0]) rfl (fun j u hj=>by obtain⟨b,q1,q2⟩:=ro j u hj;cases q1;exact q2) (fun u hu=>by simp at hu;rw[hu];rfl) (by rw[II,bM];omega) (Nat.le_trans szr g1.size);have Ia:Kp w w2 (Ef A n0 c g):=by
        refine(HR.step g1 (by simp)).step e4 ?_;intro k hk;rcases IC with e | ⟨q,e,hq⟩
        · right;right;rw[← e];exact hk.symm
        · left;rw[e]at hk;cases hk;exact hq
      have Gf:w2.heap[g]?=some (.cells #[.slice A1 n1 c1,.int .i64 (bs.length:Int)] 214 (0,0)):=by
        rw[e4.block g (Nat.lt_of_lt_of_le (Array.getElem?_eq_some_iff.1 h1.blk).1 g1.size) h1.ne,g1.block g (Array.getElem?_eq_some_iff.1 h1.blk).1 (by simp)];exact h1.blk
      have JV:some g≠(Value.slice A2 n2 c2).ownBlock:=by
        intro e;obtain⟨cur,h3⟩:=e2.block_type g e.symm;rw[h3]at Gf;cases Gf
      refine⟨_,rfl,_,_,_,(c0 _ _ _ h1.blk).1,A2,n2,c2,w2,e1,_,rfl,⟨_,(c0 _ _ _ Gf).1⟩,aD Gf 0,A2,n2,c2,?_,?_,Ia.set (.inr (.inl rfl)) _,?_⟩
      · exact aH Gf 0 _
      · rw[if_pos (by omega)];have:=e2.apart (r:=some g) (bF (aC w2 (some g)) (p:=⟨g,0,none⟩) rfl (.slice A2 n2 c2)) (.inr (fun e=>JV e.symm));simpa using this
      · rcases e5 with e | e
        · rw[e];exact IC
        · right;exact⟨_,e,Nat.le_trans HR.size g1.size⟩
    · refine⟨A1,n1,c1,h1.blk,by rw[if_neg (by omega)];exact h1.row,HR,IC⟩
    · rintro w2 ⟨A2,n2,c2,Gf,Gz,Ia,O0⟩;have Ow:(if bs.length % 8=0 then dN bs++[0] else dN bs).length=(bs.length+8) / 8:=by
        split <;>simp[bM] <;>omega
      have IT:n2=(bs.length+8) / 8:=by have:=Gz.cases.1;rw[List.length_map,Ow]at this;omega
      have Xf:bs.length / 8<n2:=by omega
      have tdiv:((bs.length:Int) / 8).toNat=bs.length / 8:=by omega
      have tmod:((bs.length:Int) % 8).toNat=bs.length % 8:=by omega
      have tmin:min (bs.length % 8) 8=bs.length % 8:=by omega
      have HE:(if bs.length % 8=0 then dN bs++[0] else dN bs)[bs.length / 8]?=some (cJ bs (bs.length / 8)):=by
        split
        · rename_i hz;rw[List.getElem?_append_right (by rw[bM];omega),bM];rw[show bs.length / 8-(bs.length+7) / 8=0 by omega,ny (by omega)];rfl
        · exact kV (by omega)
      obtain⟨a,rfl,FV⟩:=Gz.row (bs.length / 8) (.int .u8 (cJ bs (bs.length / 8))) (by rw[List.getElem?_map,HE];rfl);obtain⟨_,Je | ⟨q,cur,hq,Lo,UB,UC,Sw,Uz,Uy⟩⟩:=Gz.cases
      · cases Je.1
      cases hq;have Rr:=jL bs (bs.length / 8);have FP:=wG bs;have HL:=wh bs (eZ v r);have Jv:=fS (eZ v r);have hp:=eu (bs.length % 8);have NY:dD .or .u8 (cJ bs (bs.length / 8)) (fy (eZ v r)*2^(bs.length % 8))=cJ bs (bs.length / 8)+fy (eZ v r)*2^(bs.length % 8):=Fg Rr.1 FP Jv.1 (by omega);have SF:0<=fy (eZ v r)*2^(bs.length % 8):=Int.mul_nonneg Jv.1 (Int.le_of_lt hp);have FS:q≠g:=by
        rintro rfl;rw[Sw]at Gf;cases Gf
      have JE:w2.drew.heap[g]?=some (.cells #[.slice (some ⟨q,0,none⟩) n2 c2,.int .i64 (bs.length:Int)] 214 (0,0)):=Gf;have Gr:=tg (p:=(⟨q,0,none⟩:Addr).add (bs.length / 8)) JE (by rw[aL];exact FS) (.int .u8 (cJ bs (bs.length / 8)+fy (eZ v r)*2^(bs.length % 8)));have PH:w2.drew.heap[q]?=some (.cells cur 5 (0,0)):=Sw;refine⟨_,rfl,_,_,_,(c0 _ _ _ JE).1,_,rfl,_,(c0 _ _ _ JE).2,by omega,?_⟩;rw[tdiv];refine⟨_,rfl,by omega,by omega,_,FV,by omega,by omega,_,rfl,_,(c0 _ _ _ JE).2,by omega,?_⟩;rw[tmod,tmin,NY];refine⟨⟨by omega,by omega⟩,_,rfl,by omega,by omega,⟨_,FV⟩,by rw[aP];exact aD PH _,_,rfl,_,(c0 _ _ _ Gr).2,by omega,_,rfl,⟨_,(c0 _ _ _ Gr).2⟩,by rw[aP g 1];exact aD Gr 1,by omega,r,by omega,r,bs++[eZ v r],some ⟨q,0,none⟩,n2,c2,by omega,rfl,by omega,?_,⟨?_,h1.low,?_⟩,?_,O0⟩
      · rw[← HW];simp[cK]
      · have:=aH Gr 1 (.int .i64 ((bs.length:Int)+1));rw[aP g 1];simpa using this
      · have Qz:=aH PH (bs.length / 8) (.int .u8 (cJ bs (bs.length / 8)+fy (eZ v r)*2^(bs.length % 8)));have UD:=tg (p:=(⟨g,0,none⟩:Addr).add 1) Qz (by rw[aL];exact fun e=>FS e.symm) (.int .i64 ((bs.length:Int)+1));refine⟨by rw[List.length_map,bM,List.length_append,List.length_singleton];omega,.inr ⟨q,c2,_,rfl,Lo,by rw[aP q];exact UD,UC,UB,by simpa using Uz,?_⟩⟩;rw[Ab,Array.toList_setIfInBounds,List.take_set,Uy];simp[List.map_set]
      · refine(Ia.drew.set ?_ _).set (.inr (.inl (aL _ _))) _;rw[aL];rcases O0 with e | ⟨k,e,hk⟩
        · right;right;rw[← e];simp[Value.ownBlock]
        · left;simp[Value.ownBlock]at e;subst e;exact hk
  · have hm:m=0:=by omega
    subst hm;simp[cK]at HW;subst HW;exact⟨by trivial,A1,n1,c1,h1,HR,IC⟩
def vl(w:World)(base:Nat)(ts:List TypeId)(k:Nat):Prop:=base<=k/\∃ t,t∈ts/\Fa w k t
theorem vg.tys{w:World}{base g:Nat}{A:OA}{n c:Nat}{bits:List Bool}(h:vg w base g A n c bits){k:Nat}(hk:Ef A n c g k):vl w base [214,5] k:=by
 rcases hk with rfl | hk
 ·exact⟨h.low,_,by simp,_,_,h.blk⟩
 ·obtain⟨cur,h1⟩:=h.row.block_type k hk.symm;exact⟨h.row.block_ge k hk.symm,_,by simp,_,_,h1⟩
theorem Wr.kp{w w':World}{S:Nat->Prop}{base g:Nat}{bits:List Bool}(h:Wr w base g bits)(hk:Kp w w' S)(h1:∀ k,k<w.heap.size->vl w base [214,5] k->¬ S k):Wr w' base g bits:=by
 obtain⟨A,n,c,h2⟩:=h;refine⟨A,n,c,h2.kp hk (h1 g (Array.getElem?_eq_some_iff.1 h2.blk).1 (h2.tys (.inl rfl))) fun k Gi=>h1 k (h2.row.block_lt k Gi) (h2.tys (.inr Gi.symm))⟩
theorem Wr.kept{w w':World}{base g:Nat}{bits:List Bool}(h:Wr w base g bits)(hg:w.grownBy w' none):Wr w' base g bits:=h.kp (S:=fun _=>False) (Kp.of_none hg) (fun _ _ _ h=>h)
theorem nN{w:World}{base g:Nat}{bits:List Bool}{v:Int}{n:Nat}(h:Wr w base g bits)(hv:0<=v/\v<18446744073709551616)(hn:n<=64)(hl:bits.length<=2^30)(FW:base<=w.heap.size):
    Calls P 151 #[.pointer (some ⟨g,0,none⟩),.int .u64 v,.int .i64 (n:Int)] w fun ev w'=>ev=.returned (.tuple #[])/\Wr w' base g (bits++cK v n)/\Kp w w' (vl w base [214,5]):=by
  obtain⟨A,n0,c,h⟩:=h;refine(Fw h hv hn hl FW).mono fun ev w' hh=>?_;obtain⟨e,A',n',c',h1,h2,_⟩:=hh;exact⟨e,⟨A',n',c',h1⟩,h2.mono fun k _ hk=>h.tys hk⟩
theorem mH{w:World}{base:Nat}(hb:base<=w.heap.size):Calls P 107 #[] w fun ev w'=>ev=.returned (.pointer (some ⟨w.heap.size,0,none⟩))/\Wr w' base w.heap.size []/\w.grownBy w' none:=by
 apply vc107;dsimp only[VC107,nb,iq];exact⟨rfl,⟨none,0,0,by simpa using heap_alloc_new w (.cells #[.slice none 0 0,.int .i64 0] 214),hb,aE.nil _ _ _ _⟩,World.grownBy_alloc _ _ _⟩
theorem ja{w:World}{A:OA}{n c:Nat}{l:List Int}(hr:aZ w A (bY l))(hn:n=l.length)(hl:l.length<=2^40):
    Calls P 98 #[.slice A n c] w fun ev w'=>∃(A':OA)(n' c':Nat),ev=.returned (.slice A' n' c')/\aE w' w.heap.size 5 1 A' n' c' (bY l)/\w.grownBy w' none:=by
  apply vc98;dsimp only[VC98,Br,Ap,nb];refine⟨fun h=>?_,fun h=>?_⟩
  · subst h;have:l=[]:=by
      cases l with
      | nil=>rfl
      | cons x l=>obtain⟨a,e,_⟩:=hr 0 _ rfl;cases e
    subst this;exact⟨none,0,0,rfl,aE.nil _ _ _ _,aC _ _⟩
  · obtain⟨a,rfl⟩:∃ a,A=some a:=by cases A with
      | none=>exact absurd rfl h
      | some a=>exact⟨a,rfl⟩
    have hg:=World.grownBy_alloc w (.cells #[] 5) none;have ho:aE (w.alloc (.cells #[] 5)) w.heap.size 5 1 (some ⟨w.heap.size,0,none⟩) 0 0 []:=⟨rfl,.inr ⟨w.heap.size,0,#[],rfl,Nat.le_refl _,heap_alloc_new w _,Nat.le_refl _,Nat.zero_le _,rfl,rfl⟩⟩;obtain⟨A',n',c',w',h1,h2,h3,h4,_⟩:=ho.appends (ty:=26) nl (by omega) (a:=a) (m:=n) (cc:=c) (us:=bY l) (by simp[hn]) (fun j u hj=>by obtain⟨b,e1,e2⟩:=(hr.kept_none hg) j u hj;cases e1;exact e2) (fun u hu=>by obtain⟨x,_,rfl⟩:=List.mem_map.1 hu;rfl) (by omega) hg.size;exact⟨A',n',c',w',h1,A',n',c',rfl,by simpa using h2,aN hg h4 ho.block_ge⟩
theorem sD{w:World}{base g:Nat}{bits:List Bool}(h:Wr w base g bits)(hl:bits.length<=2^40):Calls P 109 #[.pointer (some ⟨g,0,none⟩)] w fun ev w'=>∃(A':OA)(n' c':Nat),ev=.returned (.slice A' n' c')/\aE w' w.heap.size 5 1 A' n' c' (bY (dN bits))/\w.grownBy w' none:=by
 obtain⟨A,n,c,h⟩:=h;apply vc109;dsimp only[VC109,Rs,cS];refine⟨_,rfl,_,_,_,aB h.blk 0,?_⟩;refine(ja h.row.row (by have:=h.row.cases.1;rw[List.length_map]at this;omega) (by rw[bM];omega)).mono fun ev w' hh=>?_;obtain⟨A',n',c',e,h1,h2⟩:=hh;exact⟨_,_,_,e,_,_,_,rfl,h1,h2⟩
structure sM(w:World)(base g:Nat)(A:OA)(n c:Nat)(bits:List Bool):Prop where
 blk:w.heap[g]?=some (.cells #[.slice A n c] 178 (0,0))
 low:base<=g
 row:aE w base 4 1 A n c (BO bits)
def zC(w:World)(base g:Nat)(bits:List Bool):Prop:=∃(A:OA)(n c:Nat),sM w base g A n c bits
theorem sM.ne{w:World}{base g:Nat}{A:OA}{n c:Nat}{bits:List Bool}(h:sM w base g A n c bits):some g≠(Value.slice A n c).ownBlock:=by
 intro e;obtain⟨cur,h1⟩:=h.row.block_type g e.symm;have:=h.blk;rw[h1]at this;cases this
theorem sM.tys{w:World}{base g:Nat}{A:OA}{n c:Nat}{bits:List Bool}(h:sM w base g A n c bits){k:Nat}(hk:Ef A n c g k):vl w base [178,4] k:=by
 rcases hk with rfl | hk
 ·exact⟨h.low,_,by simp,_,_,h.blk⟩
 ·obtain⟨cur,h1⟩:=h.row.block_type k hk.symm;exact⟨h.row.block_ge k hk.symm,_,by simp,_,_,h1⟩
theorem zC.kp{w w':World}{S:Nat->Prop}{base g:Nat}{bits:List Bool}(h:zC w base g bits)(hk:Kp w w' S)(h1:∀ k,k<w.heap.size->vl w base [178,4] k->¬ S k):zC w' base g bits:=by
 obtain⟨A,n,c,h2⟩:=h;exact⟨A,n,c,by rw[hk.block g (Array.getElem?_eq_some_iff.1 h2.blk).1 (h1 g (Array.getElem?_eq_some_iff.1 h2.blk).1 (h2.tys (.inl rfl)))];exact h2.blk,h2.low,h2.row.kp hk fun k Gi=>h1 k (h2.row.block_lt k Gi) (h2.tys (.inr Gi.symm))⟩
theorem zC.kept{w w':World}{base g:Nat}{bits:List Bool}(h:zC w base g bits)(hg:w.grownBy w' none):zC w' base g bits:=h.kp (S:=fun _=>False) (Kp.of_none hg) (fun _ _ _ h=>h)
theorem lO {w:World} {base g:Nat} {bits:List Bool} {v:Int} {n:Nat} (h:zC w base g bits) (hv:0<=v/\v<18446744073709551616) (hn:n<=64) (hl:bits.length<=2^30) (FW:base<=w.heap.size) :
    Calls P 115 #[.pointer (some ⟨g,0,none⟩),.int .u64 v,.int .i64 (n:Int)] w fun ev w'=>ev=.returned (.tuple #[])/\zC w' base g (bits++cK v n)/\Kp w w' (vl w base [178,4]):=by
  obtain⟨A,n0,c,h⟩:=h;apply vc115;dsimp only[VC115,rt,Wt,Br,Rs,Ap];rw[u9 hn];simp only[aG]
  refine⟨by omega,fun m i w1=>∃(r:Nat)(bs:List Bool)(A':OA)(n' c':Nat),i=(r:Int)-1/\m=r/\r<=n/\bs++cK v r=bits++cK v n/\sM w1 base g A' n' c' bs/\Kp w w1 (Ef A n0 c g) ∧
      ((Value.slice A' n' c').ownBlock=(Value.slice A n0 c).ownBlock∨∃ q,(Value.slice A' n' c').ownBlock=some q/\w.heap.size<=q),
    ⟨_,n,bits,A,n0,c,rfl,rfl,Nat.le_refl _,rfl,h,Kp.refl _ _,.inl rfl⟩,?_⟩
  rintro m i w1 ⟨r,bs,A1,n1,c1,rfl,QL,NN,HW,h1,HR,IC⟩;subst QL;have FT:bs.length+m=bits.length+n:=by
    have:=congrArg List.length HW;simpa[ef]using this
  refine⟨fun FU=>?_,fun FP=>?_⟩
  · obtain⟨r,rfl⟩:∃ r,m=r+1:=⟨m-1,by omega⟩;have hi:((r+1:Nat):Int)-1=(r:Int):=by omega
    rw[hi];have ht:(r:Int).toNat=r:=by omega
    rw[ht,BP hv.1 hv.2 (show r<=63 by omega)];have Mk:decide (fy (eZ v r)=1)=eZ v r:=by cases eZ v r <;>decide
    rw[Mk];have szr:base<=w1.heap.size:=Nat.le_trans FW HR.size;have GA:w1.drew.heap[g]?=some (.cells #[.slice A1 n1 c1] 178 (0,0)):=h1.blk;have g1:=World.grownBy_alloc w1.drew (.cells #[.bool (eZ v r)] 4) none;have ro:=dg w1.drew #[.bool (eZ v r)] 4;have gd:=aI (aC w1 none);have II:n1=bs.length:=by have:=h1.row.cases.1;rw[List.length_map]at this;omega
    obtain⟨A2,n2,c2,w2,e1,e2,e3,e4,e5⟩:=((h1.row.kept gd).kept g1).appends (ty:=176) DD (by omega) (a:=⟨w1.drew.heap.size,0,none⟩) (m:=1) (cc:=1) (us:=BO [eZ v r]) rfl (fun j u hj=>by obtain⟨b,q1,q2⟩:=ro j u hj;cases q1;exact q2) (fun u hu=>by simp at hu;rw[hu];rfl) (by omega) (Nat.le_trans szr g1.size);have Hy:(w1.drew.alloc (.cells #[.bool (eZ v r)] 4)).heap[g]?=some (.cells #[.slice A1 n1 c1] 178 (0,0)):=by
      rw[g1.block g (Array.getElem?_eq_some_iff.1 GA).1 (by simp)];exact GA
    have Gf:w2.heap[g]?=some (.cells #[.slice A1 n1 c1] 178 (0,0)):=by
      rw[e4.block g (Array.getElem?_eq_some_iff.1 Hy).1 h1.ne];exact Hy
    have Ia:Kp w w2 (Ef A n0 c g):=by
      refine(HR.drew.step g1 (by simp)).step e4 ?_;intro k hk;rcases IC with e | ⟨q,e,hq⟩
      · right;right;rw[← e];exact hk.symm
      · left;rw[e]at hk;cases hk;exact hq
    have JV:some g≠(Value.slice A2 n2 c2).ownBlock:=by
      intro e;obtain⟨cur,h3⟩:=e2.block_type g e.symm;rw[h3]at Gf;cases Gf
    have KN:∃(r':Nat)(bs':List Bool)(A':OA)(n' c':Nat),(r:Int)-1=(r':Int)-1/\r=r'/\r'<=n/\bs'++cK v r'=bits++cK v n/\sM (w2.setCell ⟨g,0,none⟩ (.slice A2 n2 c2)) base g A' n' c' bs'/\Kp w (w2.setCell ⟨g,0,none⟩ (.slice A2 n2 c2)) (Ef A n0 c g) ∧
      ((Value.slice A' n' c').ownBlock=(Value.slice A n0 c).ownBlock∨∃ q,(Value.slice A' n' c').ownBlock=some q/\w.heap.size<=q):=by
      refine⟨r,bs++[eZ v r],A2,n2,c2,rfl,rfl,by omega,by rw[← HW];simp[cK],⟨aH Gf 0 _,h1.low,?_⟩,Ia.set (.inr (.inl rfl)) _,?_⟩
      · have:=e2.apart (r:=some g) (bF (aC w2 (some g)) (p:=⟨g,0,none⟩) rfl (.slice A2 n2 c2)) (.inr (fun e=>JV e.symm));simpa using this
      · rcases e5 with e | e
        · rw[e];exact IC
        · right;exact⟨_,e,Nat.le_trans HR.size g1.size⟩
    exact⟨⟨_,rfl,_,_,_,aB GA 0,by omega,A2,n2,c2,w2,e1,_,rfl,⟨_,aB Gf 0⟩,aD Gf 0,by omega,r,by omega,KN⟩,
      ⟨_,rfl,by omega,_,_,_,aB Hy 0,A2,n2,c2,w2,e1,_,rfl,⟨_,aB Gf 0⟩,aD Gf 0,by omega,r,by omega,KN⟩⟩
  · have hm:m=0:=by omega
    subst hm;simp[cK]at HW;subst HW;exact⟨by trivial,⟨A1,n1,c1,h1⟩,HR.mono fun k _ hk=>h.tys hk⟩
theorem vx{m k:Nat}(f:Nat->Int)(v:Int):((List.range m).map f).set k v=(List.range m).map fun j=>if j=k then v else f j:=by
 apply List.ext_getElem?;intro j;rw[List.getElem?_set];by_cases hj:j<m
 ·by_cases hk:k=j
  ·subst hk;simp[hj]
  ·rw[if_neg hk];simp[hj,show ¬ j=k from fun e=>hk e.symm]
 ·by_cases hk:k=j
  ·subst hk;simp[hj]
  ·rw[if_neg hk];simp[hj]
theorem pT {w:World} {base g:Nat} {bits:List Bool} (h:zC w base g bits) (hl:bits.length<=2^32) (FW:base<=w.heap.size):Calls P 116 #[.pointer (some ⟨g,0,none⟩)] w fun ev w'=>∃(A':OA)(n' c':Nat),ev=.returned (.slice A' n' c')/\aE w' w.heap.size 5 1 A' n' c' (bY (dN bits))/\w.grownBy w' none:=by
  obtain⟨A,n,c,h⟩:=h;apply vc116;dsimp only[VC116,Wt,Br,Bb,Rd,Rs,Ix,iq]
  try simp only[aG]
  have II:n=bits.length:=by have:=h.row.cases.1;rw[List.length_map]at this;omega
  obtain⟨M,hM⟩:∃ M:Nat,((n:Int)+7) / 8=(M:Int):=⟨(n+7) / 8,by omega⟩;have Ts:M=(bits.length+7) / 8:=by omega
  refine⟨_,rfl,_,_,_,aB h.blk 0,by omega,by omega,?_⟩;rw[hM];obtain⟨w1,hr,FR,hg⟩:=jm (P:=P) (w:=w) qZ (by omega) (m:=M) (by omega);refine⟨_,_,_,w1,hr,?_⟩;have h1:sM w1 base g A n c bits:=⟨by rw[hg.block g (Array.getElem?_eq_some_iff.1 h.blk).1 (by simp)];exact h.blk,h.low,h.row.kept hg⟩;have gne:g≠w.heap.size:=fun e=>by have:=(Array.getElem?_eq_some_iff.1 h.blk).1;omega
  have one:∀ w2:World,w1.grownBy w2 (some w.heap.size)->w2.cell? ⟨g,0,none⟩=some (.slice A n c)/\aZ w2 A (BO bits):=by
    intro w2 h2;refine⟨aB (cur:=#[.slice A n c]) (t:=178) (fr:=(0,0)) (by rw[h2.block g (Array.getElem?_eq_some_iff.1 h1.blk).1 (by simpa using gne)];exact h1.blk) 0,?_⟩;refine h1.row.row.kept h2 fun a ha e=>?_;rcases h1.row.cases.2 with⟨e1,_⟩ | ⟨q,cur,e1,_,_,_,hq,_⟩
    · rw[ha]at e1;cases e1
    · rw[ha]at e1;cases e1;simp only[Option.some.injEq]at e;obtain⟨cur',e3,_⟩:=FR;rw[e,e3]at hq;cases hq
  refine⟨fun ms i w2=>∃ j:Nat,i=(j:Int)/\j<=bits.length/\ms=bits.length-j/\cQ w2 w.heap.size 5 M (bY ((List.range M).map (cJ (bits.take j))))/\w1.grownBy w2 (some w.heap.size),
    ⟨_,0,rfl,by omega,rfl,?_,aC _ _⟩,?_⟩
  · have:(List.range M).map (cJ (bits.take 0))=List.replicate M 0:=by
      apply List.ext_getElem
      · simp
      · intro i _ _;simp[ny]
    rw[this];simpa using FR
  rintro ms i w2 ⟨j,rfl,hj,rfl,ho,FY⟩;have tj:(j:Int).toNat=j:=by omega
  rw[tj];obtain⟨o1,o2⟩:=one w2 FY;refine⟨_,rfl,_,_,_,o1,fun FP=>?_,fun FU=>?_⟩
  · have lj:j<bits.length:=by omega
    have I9:(bits.take j).length=j:=by simp;omega
    obtain⟨a,Ge,Gb⟩:=o2 j (.bool bits[j]) (by simp[lj]);have Hb:∀ k,cJ (bits.take (j+1)) k=if k=j / 8 then cJ (bits.take j) k+fy bits[j]*2^(j % 8) else cJ (bits.take j) k:=by
      intro k;rw[List.take_succ_eq_append_getElem lj,nw,I9]
    refine⟨_,rfl,_,_,_,o1,a,Ge,by omega,by omega,bits[j],Gb,fun ht=>?_,fun hf=>?_⟩
    · have e8:(j:Int) / 8=((j / 8:Nat):Int):=by omega
      have m8:(j:Int) % 8=((j % 8:Nat):Int):=by omega
      have mn8:min (j % 8) 8=j % 8:=by omega
      have t8:((j / 8:Nat):Int).toNat=j / 8:=by omega
      have tm8:((j % 8:Nat):Int).toNat=j % 8:=by omega
      rw[e8,m8,t8,tm8,mn8,Int.one_mul];have SN:j / 8<M:=by omega
      have FV:=ho.cell (j:=j / 8) (u:=.int .u8 (cJ (bits.take j) (j / 8))) (by simp[SN]);have hb:=jL (bits.take j) (j / 8);have GI:=wG (bits.take j);rw[I9]at GI;have HL:=wh (bits.take j) true;rw[I9]at HL;have e1:fy true=1:=rfl;rw[e1,Int.one_mul]at HL;have hp:=eu (j % 8);have NY:dD .or .u8 (cJ (bits.take j) (j / 8)) (2^(j % 8))=cJ (bits.take j) (j / 8)+2^(j % 8):=by
        have:=Fg (c:=1) hb.1 GI (by omega) (by rw[Int.one_mul];omega)
        rwa [Int.one_mul]at this
      refine⟨by omega,_,rfl,by omega,by omega,_,FV,by omega,⟨by omega,by omega,by omega⟩,_,rfl,by omega,by omega,⟨_,FV⟩,ho.drew.notFrozen (aL _ _),by omega,bits.length-(j+1),by omega,j+1,by omega,by omega,rfl,?_,bF (aI FY) (aL _ _) _⟩;rw[NY];have Gy:=ho.drew.set (j:=j / 8) (by simp[SN]) (.int .u8 (cJ (bits.take j) (j / 8)+2^(j % 8)));rw[← List.map_set,vx]at Gy;have:(List.range M).map (cJ (bits.take (j+1)))=(List.range M).map fun k=>if k=j / 8 then cJ (bits.take j) (j / 8)+2^(j % 8) else cJ (bits.take j) k:=by
        apply List.map_congr_left;intro k _;rw[Hb,ht,e1,Int.one_mul];split
        · rename_i e;rw[e]
        · rfl
      rw[this];exact Gy
    · refine⟨by omega,bits.length-(j+1),by omega,j+1,by omega,by omega,rfl,?_,FY⟩;have:(List.range M).map (cJ (bits.take (j+1)))=(List.range M).map (cJ (bits.take j)):=by
        apply List.map_congr_left;intro k _;have e0:fy false=0:=rfl;rw[Hb,hf,e0];split <;>omega
      rw[this];exact ho
  · have:j=bits.length:=by omega
    subst this;rw[List.take_length]at ho;have h5:=ho.ownsRow (Nat.le_refl _) (by simp only[maxLen];omega);have Hc:(List.range M).map (cJ bits)=dN bits:=by rw[Ts];rfl
    rw[Hc]at h5;have M7:(bY (dN bits)).length=M:=by simp[bM,Ts]
    rw[M7]at h5;exact⟨_,_,_,rfl,h5,aN hg FY (by intro k hk;cases hk;omega)⟩
def ki(bs:List Bool):Int:=bs.foldl (fun v b=>2*v+fy b) 0
theorem tE(bs:List Bool)(b:Bool):ki (bs++[b])=2*ki bs+fy b:=by simp[ki]
theorem tF(bs:List Bool):0<=ki bs/\ki bs<2^bs.length:=by
 refine ya (P:=fun bs=>0<=ki bs/\ki bs<2^bs.length) (by simp[ki]) ?_ bs;intro l b ih;have:=fS b;rw[tE,List.length_append,List.length_singleton,pow_succ'];omega
theorem FH{v:Int}(h0:0<=v)(h:v<=255){i:Nat}(hi:i<=7):dD .and .u8 (v / 2^(min i 8)) 1=fy (eZ v i):=by
 have e:min i 8=i:=by omega
 have hp:=eu i;have hd:0<=v / 2^i:=Int.ediv_nonneg h0 (Int.le_of_lt hp);have JE:v / 2^i<=v:=Int.ediv_le_self (2^i) h0;rw[e,E5 hd (by omega)];unfold eZ fy;have:=Int.emod_nonneg (v / 2^i) (show(2:Int)≠0 by omega);have:=Int.emod_lt_of_pos (v / 2^i) (show(0:Int)<2 by omega);by_cases h1:v / 2^i % 2=1
 ·simp[h1]
 ·have h2:v / 2^i % 2=0:=by omega
  simp[h2]
structure jt(w:World)(g:Nat)(A:OA)(n c:Nat)(l:List Int)(at_:Nat):Prop where
 blk:w.heap[g]?=some (.cells #[.slice A n c,.int .i64 (at_:Int)] 240 (0,0))
 row:aZ w A (bY l)
 len:n=l.length
 le:at_<=8*l.length
 ne:∀ a,A=some a->l=[]∨a.block≠g
theorem jt.kp{w w':World}{S:Nat->Prop}{g:Nat}{A:OA}{n c:Nat}{l:List Int}{at_:Nat}(h:jt w g A n c l at_)(hk:Kp w w' S)(h1:¬ S g)(h2:∀ a,A=some a->l=[]∨¬ S a.block):jt w' g A n c l at_ :=
 ⟨by rw[hk.block g (Array.getElem?_eq_some_iff.1 h.blk).1 h1];exact h.blk,h.row.kpE hk (fun a ha=>(h2 a ha).imp (fun e=>by rw[e];rfl) id),h.len,h.le,h.ne⟩
theorem jt.kept{w w':World}{g:Nat}{A:OA}{n c:Nat}{l:List Int}{at_:Nat}(h:jt w g A n c l at_)(hg:w.grownBy w' none):jt w' g A n c l at_ :=
 h.kp (S:=fun _=>False) (Kp.of_none hg) (fun h=>h) (fun _ _=>.inr (fun h=>h))
theorem Ar{w:World}{g:Nat}{A:OA}{n c:Nat}{l:List Int}{at_:Nat}(h:jt w g A n c l at_)(hl:l.length<=2^40):
    Calls P 185 #[.pointer (some ⟨g,0,none⟩)] w fun ev w'=>ev=.returned (.int .i64 ((8*l.length-at_:Nat):Int))/\w.grownBy w' none:=by
  apply vc185;dsimp only[VC185,Rd,Rs,iq]
  try simp only[aG]
  have hb:w.drew.heap[g]?=some (.cells #[.slice A n c,.int .i64 (at_:Int)] 240 (0,0)):=h.blk;have h1:=h.len;have h2:=h.le;refine⟨_,rfl,_,_,_,aB hb 0,by omega,_,rfl,_,by rw[aP];exact aB hb 1,by omega,?_,aI (aC _ _)⟩;congr 2;omega
theorem lK {w:World} {g:Nat} {A:OA} {n c:Nat} {l:List Int} {at_:Nat} {k:Nat} (h:jt w g A n c l at_) (hl:l.length<=2^40) (hb:∀ x∈l,0<=x/\x<=255) (hk:k<=64) :
    Calls P 166 #[.pointer (some ⟨g,0,none⟩),.int .i64 (k:Int)] w fun ev w'=>Kp w w' (fun q=>q=g) ∧
      ((at_+k<=8*l.length/\ev=.returned (.tuple #[.int .u64 (ki (((aX l).drop at_).take k)),.bool true])/\jt w' g A n c l (at_+k)) ∨
       (8*l.length<at_+k/\ev=.returned (.tuple #[.int .u64 0,.bool false])/\jt w' g A n c l at_)):=by
  apply vc166;dsimp only[VC166,rt,Wt,Br,Rd,Rs,Ix,cI,iq];refine sG ⟨_,rfl,?_⟩;rw[u9 hk];refine(Ar h hl).mono fun ev w0 hh=>?_;obtain⟨rfl,OM⟩:=hh;simp only[aG];refine⟨_,rfl,?_⟩;have h1:=h.len;have h2:=h.le;refine⟨fun FP=>⟨Kp.of_none OM,.inr ⟨by omega,by first | trivial | rfl,h.kept OM⟩⟩,fun FU=>?_⟩;have G9:at_+k<=8*l.length:=by omega
  refine⟨fun m v x w1=>∃ j:Nat,x=(j:Int)/\j<=k/\m=k-j/\v=ki (((aX l).drop at_).take j)/\jt w1 g A n c l (at_+j)/\Kp w w1 (fun q=>q=g),⟨_,0,rfl,by omega,rfl,rfl,h.kept OM,Kp.of_none OM⟩,?_⟩;rintro m v x w1 ⟨j,rfl,hj,rfl,rfl,hr,HR⟩;have Uh:(aX l).length=8*l.length:=eo l;refine⟨fun FP=>?_,fun FU=>?_⟩
  · have ljk:j<k:=by omega
    have GA:w1.drew.heap[g]?=some (.cells #[.slice A n c,.int .i64 ((at_+j:Nat):Int)] 240 (0,0)):=hr.blk;have c1:w1.drew.cell? ((⟨g,0,none⟩:Addr).add 1)=some (.int .i64 ((at_+j:Nat):Int)):=by rw[aP];exact aB GA 1
    have e8:((at_+j:Nat):Int) / 8=(((at_+j) / 8:Nat):Int):=by omega
    have m8:((at_+j:Nat):Int) % 8=(((at_+j) % 8:Nat):Int):=by omega
    have t8:(((at_+j) / 8:Nat):Int).toNat=(at_+j) / 8:=by omega
    have tm8:(((at_+j) % 8:Nat):Int).toNat=(at_+j) % 8:=by omega
    have lb:(at_+j) / 8<l.length:=by omega
    obtain⟨a,Ge,Gb⟩:=hr.row ((at_+j) / 8) (.int .u8 l[(at_+j) / 8]) (by simp[lb]);have Sl:=hb _ (List.getElem_mem lb);have HX:=FH Sl.1 Sl.2 (show(at_+j) % 8<=7 by omega);have Ru:eZ l[(at_+j) / 8] ((at_+j) % 8)=fb l (at_+j):=by simp[fb,List.getD_eq_getElem?_getD,lb]
    rw[Ru]at HX;have hv:=tF (((aX l).drop at_).take j);have I9:(((aX l).drop at_).take j).length=j:=by simp;omega
    rw[I9]at hv;have QC:(2:Int)^j<=2^63:=by
      have e1:((2^j:Nat):Int)=2^j:=by simp
      have e2:((2^63:Nat):Int)=2^63:=by simp
      have:=Nat.pow_le_pow_right (n:=2) (by omega) (show j<=63 by omega);omega
    have Jv:=fS (fb l (at_+j));have NY:=Fz hv.1 Jv (by omega);have JU:(((aX l).drop at_).take (j+1))=(((aX l).drop at_).take j)++[fb l (at_+j)]:=by
      have lt:j<((aX l).drop at_).length:=by simp;omega
      rw[List.take_succ_eq_append_getElem lt];congr 1;simp[aX]
    refine⟨by omega,_,rfl,_,_,_,aB GA 0,_,rfl,_,c1,by omega,?_⟩;rw[e8,t8];refine⟨a,Ge,by omega,by omega,_,Gb,_,rfl,_,c1,by omega,?_⟩;rw[m8,tm8,HX,NY];refine⟨by omega,by omega,_,rfl,_,c1,by omega,_,rfl,⟨_,c1⟩,by rw[aP];exact aD GA 1,by omega,k-(j+1),by omega,j+1,by omega,by omega,rfl,?_,?_,HR.drew.set (.inr (aL _ _)) _⟩
    · rw[JU,tE]
    · have FS:∀ a,A=some a->l=[]∨¬ (a.block=g):=hr.ne;refine⟨?_,?_,hr.len,by omega,hr.ne⟩
      · have:=aH GA 1 (.int .i64 (((at_+j:Nat):Int)+1));rw[aP,show((at_+(j+1):Nat):Int)=((at_+j:Nat):Int)+1 by omega];simpa using this
      · refine hr.row.kpE (S:=fun q=>q=g) ((Kp.refl w1 (fun q=>q=g)).drew.set (.inr (aL _ _)) _) fun a ha=>(FS a ha).imp (fun e=>by rw[e];rfl) id
  · have:j=k:=by omega
    subst this;exact⟨HR,.inl ⟨G9,by first | trivial | rfl,hr⟩⟩
def ry(l:List Int):ByteArray:=l.foldl (fun r n=>r.push (UInt8.ofNat n.toNat)) ByteArray.empty
theorem ji{w:World}{A:OA}{n c:Nat}{l:List Int}(hr:aZ w A (bY l))(hn:n=l.length):Sem.run P (Go.convert 26 9 (.slice A n c)) w=.ok (.string (ry l)) w:=by
 rw[run_convert_bytes_string w 26 9 5 A n c (by kernel_rfl) (by kernel_rfl) (by kernel_rfl)];cases A with
 | none =>
  have:l=[]:=by
   cases l with
   | nil=>rfl
   | cons x l=>obtain⟨a,e,_⟩:=hr 0 _ rfl;cases e
  subst this;rfl
 | some a =>
  have hl:=run_loadCells_list (P:=P) w a (bY l) (fun j v hj=>by obtain⟨b,e1,e2⟩:=hr j v hj;cases e1;exact e2);rw[List.length_map,← hn]at hl;exact run_bytesToString w a n c l hl
theorem zQ(l:List Int):∀ r:ByteArray,(l.foldl (fun r n=>r.push (UInt8.ofNat n.toNat)) r).data.toList=r.data.toList++l.map fun n=>UInt8.ofNat n.toNat:=by
 induction l with
 | nil=>simp
 | cons x l ih=>intro r;rw[List.foldl_cons,ih];simp[ByteArray.push]
theorem tP(l:List Int):(ry l).data.toList=l.map fun n=>UInt8.ofNat n.toNat:=by
 rw[ry,zQ];rfl
theorem Cb{l m:List Int}(hl:∀ x∈l,0<=x/\x<=255)(hm:∀ x∈m,0<=x/\x<=255)(h:ry l=ry m):l=m:=by
 have h1:=tP l;rw[h,tP]at h1;have key:∀ x:Int,0<=x/\x<=255->((UInt8.ofNat x.toNat).toNat:Int)=x:=by
  intro x hx;rw[UInt8.toNat_ofNat'];omega
 have h2:=congrArg (List.map fun b:UInt8=>(b.toNat:Int)) h1;rw[List.map_map,List.map_map]at h2;have e:∀ q:List Int,(∀ x∈q,0<=x/\x<=255)->q.map ((fun b:UInt8=>(b.toNat:Int)) ∘ fun n:Int=>UInt8.ofNat n.toNat)=q:=by
  intro q hq
  conv=>rhs;rw[← List.map_id q]
  apply List.map_congr_left;intro x hx;exact key x (hq x hx)
 rw[e l hl,e m hm]at h2;exact h2.symm
theorem zl(a b:ByteArray):(a.toList ==b.toList)=decide (a=b):=by
 rw[ByteArray.toList_eq,ByteArray.toList_eq,Bool.eq_iff_iff,beq_iff_eq,decide_eq_true_iff];constructor
 ·intro h;cases a;cases b;simp at h;rw[h]
 ·intro h;rw[h]
theorem yg(s t:Operand)(x y:ByteArray)(w:World):Sem.run P (do eqGuard .neq 9 s t (.string x) (.string y);Go.binOp .neq 9 (.string x) (.string y):Sem Value) w=.ok (.bool (!decide (x=y))) w:=by
 rw[← zl];simp[eqGuard_at_string,binOp_string_neq]
theorem C9(s t:Operand)(x y:ByteArray)(w:World):Sem.run P (do eqGuard .eql 9 s t (.string x) (.string y);Go.binOp .eql 9 (.string x) (.string y):Sem Value) w=.ok (.bool (decide (x=y))) w:=by
 rw[← zl];simp[eqGuard_at_string,binOp_string_eql]
end Go.Proofs.YtlieaecnllkefaaGreat
