/- Own texts, packed: B1, B2, B3, B4, B5. -/
import Derived.Test.YtlieaecnllkefaaGreatGCg
import Derived.Test.YtlieaecnllkefaaGreatGFg
import Derived.Test.YtlieaecnllkefaaGreatGXg
import Derived.Laws.IdiomStrings
set_option linter.unusedVariables false
set_option linter.unusedSimpArgs false
set_option maxHeartbeats 4000000
set_option maxRecDepth 100000
namespace Go.Proofs.YtlieaecnllkefaaGreat
open Go Go.V Go.RowKit
theorem nj:oq P 26 5 1 1:=⟨(P.info? 5).getD default,.int .u8 0,by kernel_rfl,by kernel_rfl,by kernel_rfl,by kernel_rfl,by kernel_rfl,by kernel_rfl,by omega⟩
theorem Du:oq P 176 4 1 1:=⟨(P.info? 4).getD default,.bool false,by kernel_rfl,by kernel_rfl,by kernel_rfl,by kernel_rfl,by kernel_rfl,by kernel_rfl,by omega⟩
theorem qO:CI P 26 5 (.int .u8 0) 1:=⟨(P.info? 5).getD default,by kernel_rfl,by kernel_rfl,by kernel_rfl,by kernel_rfl,by kernel_rfl,by kernel_rfl⟩
abbrev bV(xs:List Int):List Value:=xs.map (Value.int .u8)
abbrev BC(xs:List Bool):List Value:=xs.map Value.bool
structure uU(w:World)(base g:Nat)(A:OA)(n c:Nat)(bits:List Bool):Prop where
 blk:w.heap[g]?=some (.cells #[.slice A n c,.int .i64 (bits.length:Int)] 214 (0,0))
 low:base<=g
 row:aE w base 5 1 A n c (bV (dM bits))
def Wr(w:World)(base g:Nat)(bits:List Bool):Prop:=∃(A:OA)(n c:Nat),uU w base g A n c bits
def DZ(A:OA)(n c g:Nat)(k:Nat):Prop:=k=g∨some k=(Value.slice A n c).ownBlock
theorem uU.ne{w:World}{base g:Nat}{A:OA}{n c:Nat}{bits:List Bool}(h:uU w base g A n c bits):some g≠(Value.slice A n c).ownBlock:=by
 intro e;obtain⟨cur,h1⟩:=h.row.block_type g e.symm;have:=h.blk;rw[h1]at this;cases this
theorem uU.kp{w w':World}{S:Nat->Prop}{base g:Nat}{A:OA}{n c:Nat}{bits:List Bool}(h:uU w base g A n c bits)(hk:Kp w w' S)(h1:¬ S g)(h2:∀ k,(Value.slice A n c).ownBlock=some k->¬ S k):uU w' base g A n c bits:=by
 refine⟨by rw[hk.block g (Array.getElem?_eq_some_iff.1 h.blk).1 h1];exact h.blk,h.low,?_⟩;obtain⟨e1,e2⟩:=h.row;refine⟨e1,e2.imp id ?_⟩;rintro⟨q,cap,cur,e3,e4,e5,r⟩;have hq:(Value.slice A n c).ownBlock=some q:=by rw[e3];simp[Value.ownBlock]
 exact⟨q,cap,cur,e3,e4,by rw[hk.block q (Array.getElem?_eq_some_iff.1 e5).1 (h2 q hq)];exact e5,r⟩
theorem si{n:Int}{w:World}{R:Ending->World->Prop}(h:R (.returned (.int .i64 (mn (mx n 0) 64))) w):Calls P 175 #[.int .i64 n] w R:=vc175 n w R h
theorem qd{n:Nat}(h:n<=64):mn (mx (n:Int) 0) 64=(n:Int):=by
 unfold mn mx;split <;>split <;>omega
theorem BE{v:Int}(h0:0<=v)(h:v<18446744073709551616){i:Nat}(hi:i<=63):dE .and .u64 (v / 2^(min i 64)) 1=eS (eV v i):=by
 have e:min i 64=i:=by omega
 have hp:=ew i;have hd:0<=v / 2^i:=Int.ediv_nonneg h0 (Int.le_of_lt hp);have Jr:v / 2^i<=v:=by
  have:=Int.ediv_le_self (2^i) h0;exact this
 rw[e,DQ hd (by omega)];unfold eV eS;have:=Int.emod_nonneg (v / 2^i) (show(2:Int)≠0 by omega);have:=Int.emod_lt_of_pos (v / 2^i) (show(0:Int)<2 by omega);by_cases h1:v / 2^i % 2=1
 ·simp[h1]
 ·have h2:v / 2^i % 2=0:=by omega
  simp[h2]
theorem vT(bs:List Bool)(b:Bool):cM bs (bs.length / 8)+eS b*2^(bs.length % 8)<=255:=by
 have h:=jw (bs++[b]) (bs.length / 8);rw[nr,if_pos rfl]at h;exact h.2
theorem Fm {w:World} {base g:Nat} {A:OA} {n0 c:Nat} {bits:List Bool} {v:Int} {n:Nat} (h:uU w base g A n0 c bits) (hv:0<=v/\v<18446744073709551616) (hn:n<=64) (hl:bits.length<=2^30) (FL:base<=w.heap.size) :
    Calls P 151 #[.pointer (some ⟨g,0,none⟩),.int .u64 v,.int .i64 (n:Int)] w fun ev w'=>ev=.returned (.tuple #[])/\∃(A':OA)(n' c':Nat),uU w' base g A' n' c' (bits++cF v n)/\Kp w w' (DZ A n0 c g) ∧
      ((Value.slice A' n' c').ownBlock=(Value.slice A n0 c).ownBlock∨∃ q,(Value.slice A' n' c').ownBlock=some q/\w.heap.size<=q):=by
  apply vc151;dsimp only[VC151,rt,Wt,Br,Rd,Rs,Ix,Ap,cI,nb,iq];refine si ⟨_,rfl,?_⟩;rw[qd hn];simp only[aF]
  refine⟨by omega,fun m i w1=>∃(r:Nat)(bs:List Bool)(A':OA)(n' c':Nat),i=(r:Int)-1/\m=r/\r<=n/\bs++cF v r=bits++cF v n/\uU w1 base g A' n' c' bs/\Kp w w1 (DZ A n0 c g) ∧
      ((Value.slice A' n' c').ownBlock=(Value.slice A n0 c).ownBlock∨∃ q,(Value.slice A' n' c').ownBlock=some q/\w.heap.size<=q),
    ⟨_,n,bits,A,n0,c,rfl,rfl,Nat.le_refl _,rfl,h,Kp.refl _ _,.inl rfl⟩,?_⟩
  rintro m i w1 ⟨r,bs,A1,n1,c1,rfl,QA,NK,HJ,h1,G7,IE⟩;subst QA;have FI:bs.length+m=bits.length+n:=by
    have:=congrArg List.length HJ;simpa[dS]using this
  refine⟨fun FJ=>?_,fun FE=>?_⟩
  · obtain⟨r,rfl⟩:∃ r,m=r+1:=⟨m-1,by omega⟩;have hi:((r+1:Nat):Int)-1=(r:Int):=by omega
    rw[hi];have ht:(r:Int).toNat=r:=by omega
    rw[ht,BE hv.1 hv.2 (show r<=63 by omega)];have c0:∀(cur:Array Value)(t:TypeId)(w2:World),w2.heap[g]?=some (.cells cur t (0,0))->w2.cell? ⟨g,0,none⟩=cur[0]?/\w2.cell? ((⟨g,0,none⟩:Addr).add 1)=cur[1]?:=fun cur t w2 e=>⟨aB e 0,by rw[aP];exact aB e 1⟩;have szr:base<=w1.heap.size:=Nat.le_trans FL G7.size
    -- behind the byte more
    refine⟨fun w2=>∃(A':OA)(n' c':Nat),w2.heap[g]?=some (.cells #[.slice A' n' c',.int .i64 (bs.length:Int)] 214 (0,0))/\aE w2 base 5 1 A' n' c' (bV (if bs.length % 8=0 then dM bs++[0] else dM bs))/\Kp w w2 (DZ A n0 c g) ∧
      ((Value.slice A' n' c').ownBlock=(Value.slice A n0 c).ownBlock∨∃ q,(Value.slice A' n' c').ownBlock=some q/\w.heap.size<=q),⟨_,rfl,_,(c0 _ _ _ h1.blk).2,by omega,fun hz=>?_,fun SA=>?_⟩,?_⟩
    · have g1:=World.grownBy_alloc w1 (.cells #[.int .u8 0] 5) none;have ro:=de w1 #[.int .u8 0] 5;have IM:n1=(dM bs).length:=by have:=h1.row.cases.1;rw[List.length_map]at this;omega
      obtain⟨A2,n2,c2,w2,e1,e2,e3,e4,e5⟩:=(h1.row.kept g1).appends (ty:=26) nj (by omega) (a:=⟨w1.heap.size,0,none⟩) (m:=1) (cc:=1) (us:=bV [0]) rfl (fun j u hj=>by obtain⟨b,q1,q2⟩:=ro j u hj;cases q1;exact q2) (fun u hu=>by simp at hu;rw[hu];rfl) (by rw[IM,bM];omega) (Nat.le_trans szr g1.size);have HN:Kp w w2 (DZ A n0 c g):=by
        refine(G7.step g1 (by simp)).step e4 ?_;intro k hk;rcases IE with e | ⟨q,e,hq⟩
        · right;right;rw[← e];exact hk.symm
        · left;rw[e]at hk;cases hk;exact hq
      have FX:w2.heap[g]?=some (.cells #[.slice A1 n1 c1,.int .i64 (bs.length:Int)] 214 (0,0)):=by
        rw[e4.block g (Nat.lt_of_lt_of_le (Array.getElem?_eq_some_iff.1 h1.blk).1 g1.size) h1.ne,g1.block g (Array.getElem?_eq_some_iff.1 h1.blk).1 (by simp)];exact h1.blk
      have JR:some g≠(Value.slice A2 n2 c2).ownBlock:=by
        intro e;obtain⟨cur,h3⟩:=e2.block_type g e.symm;rw[h3]at FX;cases FX
      refine⟨_,rfl,_,_,_,(c0 _ _ _ h1.blk).1,A2,n2,c2,w2,e1,_,rfl,⟨_,(c0 _ _ _ FX).1⟩,aD FX 0,A2,n2,c2,?_,?_,HN.set (.inr (.inl rfl)) _,?_⟩
      · exact aG FX 0 _
      · rw[if_pos (by omega)];have:=e2.apart (r:=some g) (bD (aC w2 (some g)) (p:=⟨g,0,none⟩) rfl (.slice A2 n2 c2)) (.inr (fun e=>JR e.symm));simpa using this
      · rcases e5 with e | e
        · rw[e];exact IE
        · right;exact⟨_,e,Nat.le_trans G7.size g1.size⟩
    · refine⟨A1,n1,c1,h1.blk,by rw[if_neg (by omega)];exact h1.row,G7,IE⟩
    · rintro w2 ⟨A2,n2,c2,FX,Gt,HN,OW⟩;have Ot:(if bs.length % 8=0 then dM bs++[0] else dM bs).length=(bs.length+8) / 8:=by
        split <;>simp[bM] <;>omega
      have Hp:n2=(bs.length+8) / 8:=by have:=Gt.cases.1;rw[List.length_map,Ot]at this;omega
      have Xh:bs.length / 8<n2:=by omega
      have tdiv:((bs.length:Int) / 8).toNat=bs.length / 8:=by omega
      have tmod:((bs.length:Int) % 8).toNat=bs.length % 8:=by omega
      have tmin:min (bs.length % 8) 8=bs.length % 8:=by omega
      have Hu:(if bs.length % 8=0 then dM bs++[0] else dM bs)[bs.length / 8]?=some (cM bs (bs.length / 8)):=by
        split
        · rename_i hz;rw[List.getElem?_append_right (by rw[bM];omega),bM];rw[show bs.length / 8-(bs.length+7) / 8=0 by omega,nt (by omega)];rfl
        · exact kI (by omega)
      obtain⟨a,rfl,FK⟩:=Gt.row (bs.length / 8) (.int .u8 (cM bs (bs.length / 8))) (by rw[List.getElem?_map,Hu];rfl);obtain⟨_,Jc | ⟨q,cur,hq,Lg,UG,UH,Su,UF,UE⟩⟩:=Gt.cases
      · cases Jc.1
      cases hq;have Rp:=jw bs (bs.length / 8);have FE:=wk bs;have Hd:=vT bs (eV v r);have HY:=ff (eV v r);have hp:=ew (bs.length % 8);have LV:dE .or .u8 (cM bs (bs.length / 8)) (eS (eV v r)*2^(bs.length % 8))=cM bs (bs.length / 8)+eS (eV v r)*2^(bs.length % 8):=E7 Rp.1 FE HY.1 (by omega);have SB:0<=eS (eV v r)*2^(bs.length % 8):=Int.mul_nonneg HY.1 (Int.le_of_lt hp);have FG:q≠g:=by
        rintro rfl;rw[Su]at FX;cases FX
      have Jr:w2.drew.heap[g]?=some (.cells #[.slice (some ⟨q,0,none⟩) n2 c2,.int .i64 (bs.length:Int)] 214 (0,0)):=FX;have GF:=nR (p:=(⟨q,0,none⟩:Addr).add (bs.length / 8)) Jr (by rw[aK];exact FG) (.int .u8 (cM bs (bs.length / 8)+eS (eV v r)*2^(bs.length % 8)));have Pz:w2.drew.heap[q]?=some (.cells cur 5 (0,0)):=Su;refine⟨_,rfl,_,_,_,(c0 _ _ _ Jr).1,_,rfl,_,(c0 _ _ _ Jr).2,by omega,?_⟩;rw[tdiv];refine⟨_,rfl,by omega,by omega,_,FK,by omega,by omega,_,rfl,_,(c0 _ _ _ Jr).2,by omega,?_⟩;rw[tmod,tmin,LV];refine⟨⟨by omega,by omega⟩,_,rfl,by omega,by omega,⟨_,FK⟩,by rw[aP];exact aD Pz _,_,rfl,_,(c0 _ _ _ GF).2,by omega,_,rfl,⟨_,(c0 _ _ _ GF).2⟩,by rw[aP g 1];exact aD GF 1,by omega,r,by omega,r,bs++[eV v r],some ⟨q,0,none⟩,n2,c2,by omega,rfl,by omega,?_,⟨?_,h1.low,?_⟩,?_,OW⟩
      · rw[← HJ];simp[cF]
      · have:=aG GF 1 (.int .i64 ((bs.length:Int)+1));rw[aP g 1];simpa using this
      · have Qm:=aG Pz (bs.length / 8) (.int .u8 (cM bs (bs.length / 8)+eS (eV v r)*2^(bs.length % 8)));have UI:=nR (p:=(⟨g,0,none⟩:Addr).add 1) Qm (by rw[aK];exact fun e=>FG e.symm) (.int .i64 ((bs.length:Int)+1));refine⟨by rw[List.length_map,bM,List.length_append,List.length_singleton];omega,.inr ⟨q,c2,_,rfl,Lg,by rw[aP q];exact UI,UH,UG,by simpa using UF,?_⟩⟩;rw[zN,Array.toList_setIfInBounds,List.take_set,UE];simp[List.map_set]
      · refine(HN.drew.set ?_ _).set (.inr (.inl (aK _ _))) _;rw[aK];rcases OW with e | ⟨k,e,hk⟩
        · right;right;rw[← e];simp[Value.ownBlock]
        · left;simp[Value.ownBlock]at e;subst e;exact hk
  · have hm:m=0:=by omega
    subst hm;simp[cF]at HJ;subst HJ;exact⟨by trivial,A1,n1,c1,h1,G7,IE⟩
def u4(w:World)(base:Nat)(ts:List TypeId)(k:Nat):Prop:=base<=k/\∃ t,t∈ts/\EV w k t
theorem uU.tys{w:World}{base g:Nat}{A:OA}{n c:Nat}{bits:List Bool}(h:uU w base g A n c bits){k:Nat}(hk:DZ A n c g k):u4 w base [214,5] k:=by
 rcases hk with rfl | hk
 ·exact⟨h.low,_,by simp,_,_,h.blk⟩
 ·obtain⟨cur,h1⟩:=h.row.block_type k hk.symm;exact⟨h.row.block_ge k hk.symm,_,by simp,_,_,h1⟩
theorem Wr.kp{w w':World}{S:Nat->Prop}{base g:Nat}{bits:List Bool}(h:Wr w base g bits)(hk:Kp w w' S)(h1:∀ k,k<w.heap.size->u4 w base [214,5] k->¬ S k):Wr w' base g bits:=by
 obtain⟨A,n,c,h2⟩:=h;refine⟨A,n,c,h2.kp hk (h1 g (Array.getElem?_eq_some_iff.1 h2.blk).1 (h2.tys (.inl rfl))) fun k Gc=>h1 k (h2.row.block_lt k Gc) (h2.tys (.inr Gc.symm))⟩
theorem Wr.kept{w w':World}{base g:Nat}{bits:List Bool}(h:Wr w base g bits)(hg:w.grownBy w' none):Wr w' base g bits:=h.kp (S:=fun _=>False) (Kp.of_none hg) (fun _ _ _ h=>h)
theorem nJ{w:World}{base g:Nat}{bits:List Bool}{v:Int}{n:Nat}(h:Wr w base g bits)(hv:0<=v/\v<18446744073709551616)(hn:n<=64)(hl:bits.length<=2^30)(FL:base<=w.heap.size):
    Calls P 151 #[.pointer (some ⟨g,0,none⟩),.int .u64 v,.int .i64 (n:Int)] w fun ev w'=>ev=.returned (.tuple #[])/\Wr w' base g (bits++cF v n)/\Kp w w' (u4 w base [214,5]):=by
  obtain⟨A,n0,c,h⟩:=h;refine(Fm h hv hn hl FL).mono fun ev w' hh=>?_;obtain⟨e,A',n',c',h1,h2,_⟩:=hh;exact⟨e,⟨A',n',c',h1⟩,h2.mono fun k _ hk=>h.tys hk⟩
theorem my{w:World}{base:Nat}(hb:base<=w.heap.size):Calls P 107 #[] w fun ev w'=>ev=.returned (.pointer (some ⟨w.heap.size,0,none⟩))/\Wr w' base w.heap.size []/\w.grownBy w' none:=by
 apply vc107;dsimp only[VC107,nb,iq];exact⟨rfl,⟨none,0,0,by simpa using heap_alloc_new w (.cells #[.slice none 0 0,.int .i64 0] 214),hb,aE.nil _ _ _ _⟩,World.grownBy_alloc _ _ _⟩
theorem iY{w:World}{A:OA}{n c:Nat}{l:List Int}(hr:aZ w A (bV l))(hn:n=l.length)(hl:l.length<=2^40):
    Calls P 98 #[.slice A n c] w fun ev w'=>∃(A':OA)(n' c':Nat),ev=.returned (.slice A' n' c')/\aE w' w.heap.size 5 1 A' n' c' (bV l)/\w.grownBy w' none:=by
  apply vc98;dsimp only[VC98,Br,Ap,nb];refine⟨fun h=>?_,fun h=>?_⟩
  · subst h;have:l=[]:=by
      cases l with
      | nil=>rfl
      | cons x l=>obtain⟨a,e,_⟩:=hr 0 _ rfl;cases e
    subst this;exact⟨none,0,0,rfl,aE.nil _ _ _ _,aC _ _⟩
  · obtain⟨a,rfl⟩:∃ a,A=some a:=by cases A with
      | none=>exact absurd rfl h
      | some a=>exact⟨a,rfl⟩
    have hg:=World.grownBy_alloc w (.cells #[] 5) none;have ho:aE (w.alloc (.cells #[] 5)) w.heap.size 5 1 (some ⟨w.heap.size,0,none⟩) 0 0 []:=⟨rfl,.inr ⟨w.heap.size,0,#[],rfl,Nat.le_refl _,heap_alloc_new w _,Nat.le_refl _,Nat.zero_le _,rfl,rfl⟩⟩;obtain⟨A',n',c',w',h1,h2,h3,h4,_⟩:=ho.appends (ty:=26) nj (by omega) (a:=a) (m:=n) (cc:=c) (us:=bV l) (by simp[hn]) (fun j u hj=>by obtain⟨b,e1,e2⟩:=(hr.kept_none hg) j u hj;cases e1;exact e2) (fun u hu=>by obtain⟨x,_,rfl⟩:=List.mem_map.1 hu;rfl) (by omega) hg.size;exact⟨A',n',c',w',h1,A',n',c',rfl,by simpa using h2,aN hg h4 ho.block_ge⟩
theorem sg{w:World}{base g:Nat}{bits:List Bool}(h:Wr w base g bits)(hl:bits.length<=2^40):Calls P 109 #[.pointer (some ⟨g,0,none⟩)] w fun ev w'=>∃(A':OA)(n' c':Nat),ev=.returned (.slice A' n' c')/\aE w' w.heap.size 5 1 A' n' c' (bV (dM bits))/\w.grownBy w' none:=by
 obtain⟨A,n,c,h⟩:=h;apply vc109;dsimp only[VC109,Rs,cS];refine⟨_,rfl,_,_,_,aB h.blk 0,?_⟩;refine(iY h.row.row (by have:=h.row.cases.1;rw[List.length_map]at this;omega) (by rw[bM];omega)).mono fun ev w' hh=>?_;obtain⟨A',n',c',e,h1,h2⟩:=hh;exact⟨_,_,_,e,_,_,_,rfl,h1,h2⟩
structure su(w:World)(base g:Nat)(A:OA)(n c:Nat)(bits:List Bool):Prop where
 blk:w.heap[g]?=some (.cells #[.slice A n c] 178 (0,0))
 low:base<=g
 row:aE w base 4 1 A n c (BC bits)
def zj(w:World)(base g:Nat)(bits:List Bool):Prop:=∃(A:OA)(n c:Nat),su w base g A n c bits
theorem su.ne{w:World}{base g:Nat}{A:OA}{n c:Nat}{bits:List Bool}(h:su w base g A n c bits):some g≠(Value.slice A n c).ownBlock:=by
 intro e;obtain⟨cur,h1⟩:=h.row.block_type g e.symm;have:=h.blk;rw[h1]at this;cases this
theorem su.tys{w:World}{base g:Nat}{A:OA}{n c:Nat}{bits:List Bool}(h:su w base g A n c bits){k:Nat}(hk:DZ A n c g k):u4 w base [178,4] k:=by
 rcases hk with rfl | hk
 ·exact⟨h.low,_,by simp,_,_,h.blk⟩
 ·obtain⟨cur,h1⟩:=h.row.block_type k hk.symm;exact⟨h.row.block_ge k hk.symm,_,by simp,_,_,h1⟩
theorem zj.kp{w w':World}{S:Nat->Prop}{base g:Nat}{bits:List Bool}(h:zj w base g bits)(hk:Kp w w' S)(h1:∀ k,k<w.heap.size->u4 w base [178,4] k->¬ S k):zj w' base g bits:=by
 obtain⟨A,n,c,h2⟩:=h;exact⟨A,n,c,by rw[hk.block g (Array.getElem?_eq_some_iff.1 h2.blk).1 (h1 g (Array.getElem?_eq_some_iff.1 h2.blk).1 (h2.tys (.inl rfl)))];exact h2.blk,h2.low,h2.row.kp hk fun k Gc=>h1 k (h2.row.block_lt k Gc) (h2.tys (.inr Gc.symm))⟩
theorem zj.kept{w w':World}{base g:Nat}{bits:List Bool}(h:zj w base g bits)(hg:w.grownBy w' none):zj w' base g bits:=h.kp (S:=fun _=>False) (Kp.of_none hg) (fun _ _ _ h=>h)
theorem lx {w:World} {base g:Nat} {bits:List Bool} {v:Int} {n:Nat} (h:zj w base g bits) (hv:0<=v/\v<18446744073709551616) (hn:n<=64) (hl:bits.length<=2^30) (FL:base<=w.heap.size) :
    Calls P 115 #[.pointer (some ⟨g,0,none⟩),.int .u64 v,.int .i64 (n:Int)] w fun ev w'=>ev=.returned (.tuple #[])/\zj w' base g (bits++cF v n)/\Kp w w' (u4 w base [178,4]):=by
  obtain⟨A,n0,c,h⟩:=h;apply vc115;dsimp only[VC115,rt,Wt,Br,Rs,Ap];rw[qd hn];simp only[aF]
  refine⟨by omega,fun m i w1=>∃(r:Nat)(bs:List Bool)(A':OA)(n' c':Nat),i=(r:Int)-1/\m=r/\r<=n/\bs++cF v r=bits++cF v n/\su w1 base g A' n' c' bs/\Kp w w1 (DZ A n0 c g) ∧
      ((Value.slice A' n' c').ownBlock=(Value.slice A n0 c).ownBlock∨∃ q,(Value.slice A' n' c').ownBlock=some q/\w.heap.size<=q),
    ⟨_,n,bits,A,n0,c,rfl,rfl,Nat.le_refl _,rfl,h,Kp.refl _ _,.inl rfl⟩,?_⟩
  rintro m i w1 ⟨r,bs,A1,n1,c1,rfl,QA,NK,HJ,h1,G7,IE⟩;subst QA;have FI:bs.length+m=bits.length+n:=by
    have:=congrArg List.length HJ;simpa[dS]using this
  refine⟨fun FJ=>?_,fun FE=>?_⟩
  · obtain⟨r,rfl⟩:∃ r,m=r+1:=⟨m-1,by omega⟩;have hi:((r+1:Nat):Int)-1=(r:Int):=by omega
    rw[hi];have ht:(r:Int).toNat=r:=by omega
    rw[ht,BE hv.1 hv.2 (show r<=63 by omega)];have Rf:decide (eS (eV v r)=1)=eV v r:=by cases eV v r <;>decide
    rw[Rf];have szr:base<=w1.heap.size:=Nat.le_trans FL G7.size;have Ge:w1.drew.heap[g]?=some (.cells #[.slice A1 n1 c1] 178 (0,0)):=h1.blk;have g1:=World.grownBy_alloc w1.drew (.cells #[.bool (eV v r)] 4) none;have ro:=de w1.drew #[.bool (eV v r)] 4;have gd:=aH (aC w1 none);have IM:n1=bs.length:=by have:=h1.row.cases.1;rw[List.length_map]at this;omega
    obtain⟨A2,n2,c2,w2,e1,e2,e3,e4,e5⟩:=((h1.row.kept gd).kept g1).appends (ty:=176) Du (by omega) (a:=⟨w1.drew.heap.size,0,none⟩) (m:=1) (cc:=1) (us:=BC [eV v r]) rfl (fun j u hj=>by obtain⟨b,q1,q2⟩:=ro j u hj;cases q1;exact q2) (fun u hu=>by simp at hu;rw[hu];rfl) (by omega) (Nat.le_trans szr g1.size);have Hc:(w1.drew.alloc (.cells #[.bool (eV v r)] 4)).heap[g]?=some (.cells #[.slice A1 n1 c1] 178 (0,0)):=by
      rw[g1.block g (Array.getElem?_eq_some_iff.1 Ge).1 (by simp)];exact Ge
    have FX:w2.heap[g]?=some (.cells #[.slice A1 n1 c1] 178 (0,0)):=by
      rw[e4.block g (Array.getElem?_eq_some_iff.1 Hc).1 h1.ne];exact Hc
    have HN:Kp w w2 (DZ A n0 c g):=by
      refine(G7.drew.step g1 (by simp)).step e4 ?_;intro k hk;rcases IE with e | ⟨q,e,hq⟩
      · right;right;rw[← e];exact hk.symm
      · left;rw[e]at hk;cases hk;exact hq
    have JR:some g≠(Value.slice A2 n2 c2).ownBlock:=by
      intro e;obtain⟨cur,h3⟩:=e2.block_type g e.symm;rw[h3]at FX;cases FX
    have KL:∃(r':Nat)(bs':List Bool)(A':OA)(n' c':Nat),(r:Int)-1=(r':Int)-1/\r=r'/\r'<=n/\bs'++cF v r'=bits++cF v n/\su (w2.setCell ⟨g,0,none⟩ (.slice A2 n2 c2)) base g A' n' c' bs'/\Kp w (w2.setCell ⟨g,0,none⟩ (.slice A2 n2 c2)) (DZ A n0 c g) ∧
      ((Value.slice A' n' c').ownBlock=(Value.slice A n0 c).ownBlock∨∃ q,(Value.slice A' n' c').ownBlock=some q/\w.heap.size<=q):=by
      refine⟨r,bs++[eV v r],A2,n2,c2,rfl,rfl,by omega,by rw[← HJ];simp[cF],⟨aG FX 0 _,h1.low,?_⟩,HN.set (.inr (.inl rfl)) _,?_⟩
      · have:=e2.apart (r:=some g) (bD (aC w2 (some g)) (p:=⟨g,0,none⟩) rfl (.slice A2 n2 c2)) (.inr (fun e=>JR e.symm));simpa using this
      · rcases e5 with e | e
        · rw[e];exact IE
        · right;exact⟨_,e,Nat.le_trans G7.size g1.size⟩
    exact⟨⟨_,rfl,_,_,_,aB Ge 0,by omega,A2,n2,c2,w2,e1,_,rfl,⟨_,aB FX 0⟩,aD FX 0,by omega,r,by omega,KL⟩,
      ⟨_,rfl,by omega,_,_,_,aB Hc 0,A2,n2,c2,w2,e1,_,rfl,⟨_,aB FX 0⟩,aD FX 0,by omega,r,by omega,KL⟩⟩
  · have hm:m=0:=by omega
    subst hm;simp[cF]at HJ;subst HJ;exact⟨by trivial,⟨A1,n1,c1,h1⟩,G7.mono fun k _ hk=>h.tys hk⟩
theorem vh{m k:Nat}(f:Nat->Int)(v:Int):((List.range m).map f).set k v=(List.range m).map fun j=>if j=k then v else f j:=by
 apply List.ext_getElem?;intro j;rw[List.getElem?_set];by_cases hj:j<m
 ·by_cases hk:k=j
  ·subst hk;simp[hj]
  ·rw[if_neg hk];simp[hj,show ¬ j=k from fun e=>hk e.symm]
 ·by_cases hk:k=j
  ·subst hk;simp[hj]
  ·rw[if_neg hk];simp[hj]
theorem pL {w:World} {base g:Nat} {bits:List Bool} (h:zj w base g bits) (hl:bits.length<=2^32) (FL:base<=w.heap.size):Calls P 116 #[.pointer (some ⟨g,0,none⟩)] w fun ev w'=>∃(A':OA)(n' c':Nat),ev=.returned (.slice A' n' c')/\aE w' w.heap.size 5 1 A' n' c' (bV (dM bits))/\w.grownBy w' none:=by
  obtain⟨A,n,c,h⟩:=h;apply vc116;dsimp only[VC116,Wt,Br,Bb,Rd,Rs,Ix,iq]
  try simp only[aF]
  have IM:n=bits.length:=by have:=h.row.cases.1;rw[List.length_map]at this;omega
  obtain⟨M,hM⟩:∃ M:Nat,((n:Int)+7) / 8=(M:Int):=⟨(n+7) / 8,by omega⟩;have Tu:M=(bits.length+7) / 8:=by omega
  refine⟨_,rfl,_,_,_,aB h.blk 0,by omega,by omega,?_⟩;rw[hM];obtain⟨w1,hr,FF,hg⟩:=il (P:=P) (w:=w) qO (by omega) (m:=M) (by omega);refine⟨_,_,_,w1,hr,?_⟩;have h1:su w1 base g A n c bits:=⟨by rw[hg.block g (Array.getElem?_eq_some_iff.1 h.blk).1 (by simp)];exact h.blk,h.low,h.row.kept hg⟩;have gne:g≠w.heap.size:=fun e=>by have:=(Array.getElem?_eq_some_iff.1 h.blk).1;omega
  have one:∀ w2:World,w1.grownBy w2 (some w.heap.size)->w2.cell? ⟨g,0,none⟩=some (.slice A n c)/\aZ w2 A (BC bits):=by
    intro w2 h2;refine⟨aB (cur:=#[.slice A n c]) (t:=178) (fr:=(0,0)) (by rw[h2.block g (Array.getElem?_eq_some_iff.1 h1.blk).1 (by simpa using gne)];exact h1.blk) 0,?_⟩;refine h1.row.row.kept h2 fun a ha e=>?_;rcases h1.row.cases.2 with⟨e1,_⟩ | ⟨q,cur,e1,_,_,_,hq,_⟩
    · rw[ha]at e1;cases e1
    · rw[ha]at e1;cases e1;simp only[Option.some.injEq]at e;obtain⟨cur',e3,_⟩:=FF;rw[e,e3]at hq;cases hq
  refine⟨fun ms i w2=>∃ j:Nat,i=(j:Int)/\j<=bits.length/\ms=bits.length-j/\cV w2 w.heap.size 5 M (bV ((List.range M).map (cM (bits.take j))))/\w1.grownBy w2 (some w.heap.size),
    ⟨_,0,rfl,by omega,rfl,?_,aC _ _⟩,?_⟩
  · have:(List.range M).map (cM (bits.take 0))=List.replicate M 0:=by
      apply List.ext_getElem
      · simp
      · intro i _ _;simp[nt]
    rw[this];simpa using FF
  rintro ms i w2 ⟨j,rfl,hj,rfl,ho,FN⟩;have tj:(j:Int).toNat=j:=by omega
  rw[tj];obtain⟨o1,o2⟩:=one w2 FN;refine⟨_,rfl,_,_,_,o1,fun FE=>?_,fun FJ=>?_⟩
  · have lj:j<bits.length:=by omega
    have IQ:(bits.take j).length=j:=by simp;omega
    obtain⟨a,FU,FP⟩:=o2 j (.bool bits[j]) (by simp[lj]);have G4:∀ k,cM (bits.take (j+1)) k=if k=j / 8 then cM (bits.take j) k+eS bits[j]*2^(j % 8) else cM (bits.take j) k:=by
      intro k;rw[List.take_succ_eq_append_getElem lj,nr,IQ]
    refine⟨_,rfl,_,_,_,o1,a,FU,by omega,by omega,bits[j],FP,fun ht=>?_,fun hf=>?_⟩
    · have e8:(j:Int) / 8=((j / 8:Nat):Int):=by omega
      have m8:(j:Int) % 8=((j % 8:Nat):Int):=by omega
      have mn8:min (j % 8) 8=j % 8:=by omega
      have t8:((j / 8:Nat):Int).toNat=j / 8:=by omega
      have tm8:((j % 8:Nat):Int).toNat=j % 8:=by omega
      rw[e8,m8,t8,tm8,mn8,Int.one_mul];have SL:j / 8<M:=by omega
      have FK:=ho.cell (j:=j / 8) (u:=.int .u8 (cM (bits.take j) (j / 8))) (by simp[SL]);have hb:=jw (bits.take j) (j / 8);have Gn:=wk (bits.take j);rw[IQ]at Gn;have Hd:=vT (bits.take j) true;rw[IQ]at Hd;have e1:eS true=1:=rfl;rw[e1,Int.one_mul]at Hd;have hp:=ew (j % 8);have LV:dE .or .u8 (cM (bits.take j) (j / 8)) (2^(j % 8))=cM (bits.take j) (j / 8)+2^(j % 8):=by
        have:=E7 (c:=1) hb.1 Gn (by omega) (by rw[Int.one_mul];omega)
        rwa [Int.one_mul]at this
      refine⟨by omega,_,rfl,by omega,by omega,_,FK,by omega,⟨by omega,by omega,by omega⟩,_,rfl,by omega,by omega,⟨_,FK⟩,ho.drew.notFrozen (aK _ _),by omega,bits.length-(j+1),by omega,j+1,by omega,by omega,rfl,?_,bD (aH FN) (aK _ _) _⟩;rw[LV];have Gh:=ho.drew.set (j:=j / 8) (by simp[SL]) (.int .u8 (cM (bits.take j) (j / 8)+2^(j % 8)));rw[← List.map_set,vh]at Gh;have:(List.range M).map (cM (bits.take (j+1)))=(List.range M).map fun k=>if k=j / 8 then cM (bits.take j) (j / 8)+2^(j % 8) else cM (bits.take j) k:=by
        apply List.map_congr_left;intro k _;rw[G4,ht,e1,Int.one_mul];split
        · rename_i e;rw[e]
        · rfl
      rw[this];exact Gh
    · refine⟨by omega,bits.length-(j+1),by omega,j+1,by omega,by omega,rfl,?_,FN⟩;have:(List.range M).map (cM (bits.take (j+1)))=(List.range M).map (cM (bits.take j)):=by
        apply List.map_congr_left;intro k _;have e0:eS false=0:=rfl;rw[G4,hf,e0];split <;>omega
      rw[this];exact ho
  · have:j=bits.length:=by omega
    subst this;rw[List.take_length]at ho;have h5:=ho.ownsRow (Nat.le_refl _) (by simp only[maxLen];omega);have Hx:(List.range M).map (cM bits)=dM bits:=by rw[Tu];rfl
    rw[Hx]at h5;have Lo:(bV (dM bits)).length=M:=by simp[bM,Tu]
    rw[Lo]at h5;exact⟨_,_,_,rfl,h5,aN hg FN (by intro k hk;cases hk;omega)⟩
def ij(bs:List Bool):Int:=bs.foldl (fun v b=>2*v+eS b) 0
theorem ou(bs:List Bool)(b:Bool):ij (bs++[b])=2*ij bs+eS b:=by simp[ij]
theorem mD(bs:List Bool):0<=ij bs/\ij bs<2^bs.length:=by
 refine xN (P:=fun bs=>0<=ij bs/\ij bs<2^bs.length) (by simp[ij]) ?_ bs;intro l b ih;have:=ff b;rw[ou,List.length_append,List.length_singleton,pow_succ'];omega
theorem DL{v:Int}(h0:0<=v)(h:v<=255){i:Nat}(hi:i<=7):dE .and .u8 (v / 2^(min i 8)) 1=eS (eV v i):=by
 have e:min i 8=i:=by omega
 have hp:=ew i;have hd:0<=v / 2^i:=Int.ediv_nonneg h0 (Int.le_of_lt hp);have Jr:v / 2^i<=v:=Int.ediv_le_self (2^i) h0;rw[e,ER hd (by omega)];unfold eV eS;have:=Int.emod_nonneg (v / 2^i) (show(2:Int)≠0 by omega);have:=Int.emod_lt_of_pos (v / 2^i) (show(0:Int)<2 by omega);by_cases h1:v / 2^i % 2=1
 ·simp[h1]
 ·have h2:v / 2^i % 2=0:=by omega
  simp[h2]
structure jn(w:World)(g:Nat)(A:OA)(n c:Nat)(l:List Int)(at_:Nat):Prop where
 blk:w.heap[g]?=some (.cells #[.slice A n c,.int .i64 (at_:Int)] 240 (0,0))
 row:aZ w A (bV l)
 len:n=l.length
 le:at_<=8*l.length
 ne:∀ a,A=some a->l=[]∨a.block≠g
theorem jn.kp{w w':World}{S:Nat->Prop}{g:Nat}{A:OA}{n c:Nat}{l:List Int}{at_:Nat}(h:jn w g A n c l at_)(hk:Kp w w' S)(h1:¬ S g)(h2:∀ a,A=some a->l=[]∨¬ S a.block):jn w' g A n c l at_ :=
 ⟨by rw[hk.block g (Array.getElem?_eq_some_iff.1 h.blk).1 h1];exact h.blk,h.row.kpE hk (fun a ha=>(h2 a ha).imp (fun e=>by rw[e];rfl) id),h.len,h.le,h.ne⟩
theorem jn.kept{w w':World}{g:Nat}{A:OA}{n c:Nat}{l:List Int}{at_:Nat}(h:jn w g A n c l at_)(hg:w.grownBy w' none):jn w' g A n c l at_ :=
 h.kp (S:=fun _=>False) (Kp.of_none hg) (fun h=>h) (fun _ _=>.inr (fun h=>h))
theorem zZ{w:World}{g:Nat}{A:OA}{n c:Nat}{l:List Int}{at_:Nat}(h:jn w g A n c l at_)(hl:l.length<=2^40):
    Calls P 185 #[.pointer (some ⟨g,0,none⟩)] w fun ev w'=>ev=.returned (.int .i64 ((8*l.length-at_:Nat):Int))/\w.grownBy w' none:=by
  apply vc185;dsimp only[VC185,Rd,Rs,iq]
  try simp only[aF]
  have hb:w.drew.heap[g]?=some (.cells #[.slice A n c,.int .i64 (at_:Int)] 240 (0,0)):=h.blk;have h1:=h.len;have h2:=h.le;refine⟨_,rfl,_,_,_,aB hb 0,by omega,_,rfl,_,by rw[aP];exact aB hb 1,by omega,?_,aH (aC _ _)⟩;congr 2;omega
theorem lr {w:World} {g:Nat} {A:OA} {n c:Nat} {l:List Int} {at_:Nat} {k:Nat} (h:jn w g A n c l at_) (hl:l.length<=2^40) (hb:∀ x∈l,0<=x/\x<=255) (hk:k<=64) :
    Calls P 166 #[.pointer (some ⟨g,0,none⟩),.int .i64 (k:Int)] w fun ev w'=>Kp w w' (fun q=>q=g) ∧
      ((at_+k<=8*l.length/\ev=.returned (.tuple #[.int .u64 (ij (((aM l).drop at_).take k)),.bool true])/\jn w' g A n c l (at_+k)) ∨
       (8*l.length<at_+k/\ev=.returned (.tuple #[.int .u64 0,.bool false])/\jn w' g A n c l at_)):=by
  apply vc166;dsimp only[VC166,rt,Wt,Br,Rd,Rs,Ix,cI,iq];refine si ⟨_,rfl,?_⟩;rw[qd hk];refine(zZ h hl).mono fun ev w0 hh=>?_;obtain⟨rfl,Ko⟩:=hh;simp only[aF];refine⟨_,rfl,?_⟩;have h1:=h.len;have h2:=h.le;refine⟨fun FE=>⟨Kp.of_none Ko,.inr ⟨by omega,by first | trivial | rfl,h.kept Ko⟩⟩,fun FJ=>?_⟩;have Gy:at_+k<=8*l.length:=by omega
  refine⟨fun m v x w1=>∃ j:Nat,x=(j:Int)/\j<=k/\m=k-j/\v=ij (((aM l).drop at_).take j)/\jn w1 g A n c l (at_+j)/\Kp w w1 (fun q=>q=g),⟨_,0,rfl,by omega,rfl,rfl,h.kept Ko,Kp.of_none Ko⟩,?_⟩;rintro m v x w1 ⟨j,rfl,hj,rfl,rfl,hr,G7⟩;have Sj:(aM l).length=8*l.length:=cQ l;refine⟨fun FE=>?_,fun FJ=>?_⟩
  · have ljk:j<k:=by omega
    have Ge:w1.drew.heap[g]?=some (.cells #[.slice A n c,.int .i64 ((at_+j:Nat):Int)] 240 (0,0)):=hr.blk;have c1:w1.drew.cell? ((⟨g,0,none⟩:Addr).add 1)=some (.int .i64 ((at_+j:Nat):Int)):=by rw[aP];exact aB Ge 1
    have e8:((at_+j:Nat):Int) / 8=(((at_+j) / 8:Nat):Int):=by omega
    have m8:((at_+j:Nat):Int) % 8=(((at_+j) % 8:Nat):Int):=by omega
    have t8:(((at_+j) / 8:Nat):Int).toNat=(at_+j) / 8:=by omega
    have tm8:(((at_+j) % 8:Nat):Int).toNat=(at_+j) % 8:=by omega
    have lb:(at_+j) / 8<l.length:=by omega
    obtain⟨a,FU,FP⟩:=hr.row ((at_+j) / 8) (.int .u8 l[(at_+j) / 8]) (by simp[lb]);have Nx:=hb _ (List.getElem_mem lb);have Gu:=DL Nx.1 Nx.2 (show(at_+j) % 8<=7 by omega);have Mm:eV l[(at_+j) / 8] ((at_+j) % 8)=dD l (at_+j):=by simp[dD,List.getD_eq_getElem?_getD,lb]
    rw[Mm]at Gu;have hv:=mD (((aM l).drop at_).take j);have IQ:(((aM l).drop at_).take j).length=j:=by simp;omega
    rw[IQ]at hv;have LS:(2:Int)^j<=2^63:=by
      have e1:((2^j:Nat):Int)=2^j:=by simp
      have e2:((2^63:Nat):Int)=2^63:=by simp
      have:=Nat.pow_le_pow_right (n:=2) (by omega) (show j<=63 by omega);omega
    have HY:=ff (dD l (at_+j));have LV:=C6 hv.1 HY (by omega);have Iv:(((aM l).drop at_).take (j+1))=(((aM l).drop at_).take j)++[dD l (at_+j)]:=by
      have lt:j<((aM l).drop at_).length:=by simp;omega
      rw[List.take_succ_eq_append_getElem lt];congr 1;simp[aM]
    refine⟨by omega,_,rfl,_,_,_,aB Ge 0,_,rfl,_,c1,by omega,?_⟩;rw[e8,t8];refine⟨a,FU,by omega,by omega,_,FP,_,rfl,_,c1,by omega,?_⟩;rw[m8,tm8,Gu,LV];refine⟨by omega,by omega,_,rfl,_,c1,by omega,_,rfl,⟨_,c1⟩,by rw[aP];exact aD Ge 1,by omega,k-(j+1),by omega,j+1,by omega,by omega,rfl,?_,?_,G7.drew.set (.inr (aK _ _)) _⟩
    · rw[Iv,ou]
    · have FG:∀ a,A=some a->l=[]∨¬ (a.block=g):=hr.ne;refine⟨?_,?_,hr.len,by omega,hr.ne⟩
      · have:=aG Ge 1 (.int .i64 (((at_+j:Nat):Int)+1));rw[aP,show((at_+(j+1):Nat):Int)=((at_+j:Nat):Int)+1 by omega];simpa using this
      · refine hr.row.kpE (S:=fun q=>q=g) ((Kp.refl w1 (fun q=>q=g)).drew.set (.inr (aK _ _)) _) fun a ha=>(FG a ha).imp (fun e=>by rw[e];rfl) id
  · have:j=k:=by omega
    subst this;exact⟨G7,.inl ⟨Gy,by first | trivial | rfl,hr⟩⟩
structure eU(w:World)(g:Nat)(A:OA)(n c:Nat)(l:List Int)(at_:Nat):Prop where
 blk:w.heap[g]?=some (.cells #[.slice A n c,.int .i64 (at_:Int)] 139 (0,0))
 row:aZ w A (bV l)
 len:n=l.length
 le:at_<=8*l.length
 ne:∀ a,A=some a->l=[]∨a.block≠g
theorem eU.kp{w w':World}{S:Nat->Prop}{g:Nat}{A:OA}{n c:Nat}{l:List Int}{at_:Nat}(h:eU w g A n c l at_)(hk:Kp w w' S)(h1:¬ S g)(h2:∀ a,A=some a->l=[]∨¬ S a.block):eU w' g A n c l at_ :=
 ⟨by rw[hk.block g (Array.getElem?_eq_some_iff.1 h.blk).1 h1];exact h.blk,h.row.kpE hk (fun a ha=>(h2 a ha).imp (fun e=>by rw[e];rfl) id),h.len,h.le,h.ne⟩
theorem eU.kept{w w':World}{g:Nat}{A:OA}{n c:Nat}{l:List Int}{at_:Nat}(h:eU w g A n c l at_)(hg:w.grownBy w' none):eU w' g A n c l at_ :=
 h.kp (S:=fun _=>False) (Kp.of_none hg) (fun h=>h) (fun _ _=>.inr (fun h=>h))
theorem xW{w:World}{g:Nat}{A:OA}{n c:Nat}{l:List Int}{at_:Nat}(h:eU w g A n c l at_)(hl:l.length<=2^40):
    Calls P 167 #[.pointer (some ⟨g,0,none⟩)] w fun ev w'=>ev=.returned (.int .i64 ((8*l.length-at_:Nat):Int))/\w.grownBy w' none:=by
  apply vc167;dsimp only[VC167,Rd,Rs,iq]
  try simp only[aF]
  have hb:w.drew.heap[g]?=some (.cells #[.slice A n c,.int .i64 (at_:Int)] 139 (0,0)):=h.blk;have h1:=h.len;have h2:=h.le;refine⟨_,rfl,_,_,_,aB hb 0,by omega,_,rfl,_,by rw[aP];exact aB hb 1,by omega,?_,aH (aC _ _)⟩;congr 2;omega
theorem j5 {w:World} {g:Nat} {A:OA} {n c:Nat} {l:List Int} {at_:Nat} {k:Nat} (h:eU w g A n c l at_) (hl:l.length<=2^40) (hb:∀ x∈l,0<=x/\x<=255) (hk:k<=64) :
    Calls P 126 #[.pointer (some ⟨g,0,none⟩),.int .i64 (k:Int)] w fun ev w'=>Kp w w' (fun q=>q=g) ∧
      ((at_+k<=8*l.length/\ev=.returned (.tuple #[.int .u64 (ij (((aM l).drop at_).take k)),.bool true])/\eU w' g A n c l (at_+k)) ∨
       (8*l.length<at_+k/\ev=.returned (.tuple #[.int .u64 0,.bool false])/\eU w' g A n c l at_)):=by
  apply vc126;dsimp only[VC126,rt,Wt,Br,Rd,Rs,Ix,cI,iq];refine(xW h hl).mono fun ev w0 hh=>?_;obtain⟨rfl,Ko⟩:=hh;rw[qd hk];simp only[aF];refine⟨_,rfl,?_⟩;have h1:=h.len;have h2:=h.le;refine⟨fun FE=>⟨Kp.of_none Ko,.inr ⟨by omega,by first | trivial | rfl,h.kept Ko⟩⟩,fun FJ=>?_⟩;have Gy:at_+k<=8*l.length:=by omega
  refine⟨fun m v x w1=>∃ j:Nat,x=(j:Int)/\j<=k/\m=k-j/\v=ij (((aM l).drop at_).take j)/\eU w1 g A n c l (at_+j)/\Kp w w1 (fun q=>q=g),⟨_,0,rfl,by omega,rfl,rfl,h.kept Ko,Kp.of_none Ko⟩,?_⟩;rintro m v x w1 ⟨j,rfl,hj,rfl,rfl,hr,G7⟩;have Sj:(aM l).length=8*l.length:=cQ l;refine⟨fun FE=>?_,fun FJ=>?_⟩
  · have ljk:j<k:=by omega
    have Ge:w1.drew.heap[g]?=some (.cells #[.slice A n c,.int .i64 ((at_+j:Nat):Int)] 139 (0,0)):=hr.blk;have c1:w1.drew.cell? ((⟨g,0,none⟩:Addr).add 1)=some (.int .i64 ((at_+j:Nat):Int)):=by rw[aP];exact aB Ge 1
    have e8:((at_+j:Nat):Int) / 8=(((at_+j) / 8:Nat):Int):=by omega
    have m8:((at_+j:Nat):Int) % 8=(((at_+j) % 8:Nat):Int):=by omega
    have t8:(((at_+j) / 8:Nat):Int).toNat=(at_+j) / 8:=by omega
    have tm8:(((at_+j) % 8:Nat):Int).toNat=(at_+j) % 8:=by omega
    have lb:(at_+j) / 8<l.length:=by omega
    obtain⟨a,FU,FP⟩:=hr.row ((at_+j) / 8) (.int .u8 l[(at_+j) / 8]) (by simp[lb]);have Nx:=hb _ (List.getElem_mem lb);have Gu:=DL Nx.1 Nx.2 (show(at_+j) % 8<=7 by omega);have Mm:eV l[(at_+j) / 8] ((at_+j) % 8)=dD l (at_+j):=by simp[dD,List.getD_eq_getElem?_getD,lb]
    rw[Mm]at Gu;have hv:=mD (((aM l).drop at_).take j);have IQ:(((aM l).drop at_).take j).length=j:=by simp;omega
    rw[IQ]at hv;have LS:(2:Int)^j<=2^63:=by
      have e1:((2^j:Nat):Int)=2^j:=by simp
      have e2:((2^63:Nat):Int)=2^63:=by simp
      have:=Nat.pow_le_pow_right (n:=2) (by omega) (show j<=63 by omega);omega
    have HY:=ff (dD l (at_+j));have LV:=C6 hv.1 HY (by omega);have Iv:(((aM l).drop at_).take (j+1))=(((aM l).drop at_).take j)++[dD l (at_+j)]:=by
      have lt:j<((aM l).drop at_).length:=by simp;omega
      rw[List.take_succ_eq_append_getElem lt];congr 1;simp[aM]
    refine⟨by omega,_,rfl,_,_,_,aB Ge 0,_,rfl,_,c1,by omega,?_⟩;rw[e8,t8];refine⟨a,FU,by omega,by omega,_,FP,_,rfl,_,c1,by omega,?_⟩;rw[m8,tm8,Gu,LV];refine⟨by omega,by omega,_,rfl,_,c1,by omega,_,rfl,⟨_,c1⟩,by rw[aP];exact aD Ge 1,by omega,k-(j+1),by omega,j+1,by omega,by omega,rfl,?_,?_,G7.drew.set (.inr (aK _ _)) _⟩
    · rw[Iv,ou]
    · have FG:∀ a,A=some a->l=[]∨¬ (a.block=g):=hr.ne;refine⟨?_,?_,hr.len,by omega,hr.ne⟩
      · have:=aG Ge 1 (.int .i64 (((at_+j:Nat):Int)+1));rw[aP,show((at_+(j+1):Nat):Int)=((at_+j:Nat):Int)+1 by omega];simpa using this
      · refine hr.row.kpE (S:=fun q=>q=g) ((Kp.refl w1 (fun q=>q=g)).drew.set (.inr (aK _ _)) _) fun a ha=>(FG a ha).imp (fun e=>by rw[e];rfl) id
  · have:j=k:=by omega
    subst this;exact⟨G7,.inl ⟨Gy,by first | trivial | rfl,hr⟩⟩
def qZ(l:List Int):ByteArray:=l.foldl (fun r n=>r.push (UInt8.ofNat n.toNat)) ByteArray.empty
theorem dg{w:World}{A:OA}{n c:Nat}{l:List Int}(hr:aZ w A (bV l))(hn:n=l.length):Sem.run P (Go.convert 26 9 (.slice A n c)) w=.ok (.string (qZ l)) w:=by
 rw[run_convert_bytes_string w 26 9 5 A n c (by kernel_rfl) (by kernel_rfl) (by kernel_rfl)];cases A with
 | none =>
  have:l=[]:=by
   cases l with
   | nil=>rfl
   | cons x l=>obtain⟨a,e,_⟩:=hr 0 _ rfl;cases e
  subst this;rfl
 | some a =>
  have hl:=run_loadCells_list (P:=P) w a (bV l) (fun j v hj=>by obtain⟨b,e1,e2⟩:=hr j v hj;cases e1;exact e2);rw[List.length_map,← hn]at hl;exact run_bytesToString w a n c l hl
theorem zy(l:List Int):∀ r:ByteArray,(l.foldl (fun r n=>r.push (UInt8.ofNat n.toNat)) r).data.toList=r.data.toList++l.map fun n=>UInt8.ofNat n.toNat:=by
 induction l with
 | nil=>simp
 | cons x l ih=>intro r;rw[List.foldl_cons,ih];simp[ByteArray.push]
theorem tx(l:List Int):(qZ l).data.toList=l.map fun n=>UInt8.ofNat n.toNat:=by
 rw[qZ,zy];rfl
theorem vE{l m:List Int}(hl:∀ x∈l,0<=x/\x<=255)(hm:∀ x∈m,0<=x/\x<=255)(h:qZ l=qZ m):l=m:=by
 have h1:=tx l;rw[h,tx]at h1;have key:∀ x:Int,0<=x/\x<=255->((UInt8.ofNat x.toNat).toNat:Int)=x:=by
  intro x hx;rw[UInt8.toNat_ofNat'];omega
 have h2:=congrArg (List.map fun b:UInt8=>(b.toNat:Int)) h1;rw[List.map_map,List.map_map]at h2;have e:∀ q:List Int,(∀ x∈q,0<=x/\x<=255)->q.map ((fun b:UInt8=>(b.toNat:Int)) ∘ fun n:Int=>UInt8.ofNat n.toNat)=q:=by
  intro q hq
  conv=>rhs;rw[← List.map_id q]
  apply List.map_congr_left;intro x hx;exact key x (hq x hx)
 rw[e l hl,e m hm]at h2;exact h2.symm
theorem y6(a b:ByteArray):(a.toList ==b.toList)=decide (a=b):=by
 rw[ByteArray.toList_eq,ByteArray.toList_eq,Bool.eq_iff_iff,beq_iff_eq,decide_eq_true_iff];constructor
 ·intro h;cases a;cases b;simp at h;rw[h]
 ·intro h;rw[h]
theorem kC(s t:Operand)(x y:ByteArray)(w:World):Sem.run P (do eqGuard .neq 9 s t (.string x) (.string y);Go.binOp .neq 9 (.string x) (.string y):Sem Value) w=.ok (.bool (!decide (x=y))) w:=by
 rw[← y6];simp[eqGuard_at_string,binOp_string_neq]
theorem CZ(s t:Operand)(x y:ByteArray)(w:World):Sem.run P (do eqGuard .eql 9 s t (.string x) (.string y);Go.binOp .eql 9 (.string x) (.string y):Sem Value) w=.ok (.bool (decide (x=y))) w:=by
 rw[← y6];simp[eqGuard_at_string,binOp_string_eql]
end Go.Proofs.YtlieaecnllkefaaGreat
