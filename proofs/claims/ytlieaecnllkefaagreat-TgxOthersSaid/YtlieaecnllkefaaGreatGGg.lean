/- Own texts, packed: B1, B2, B3, B4, B5. -/
import Derived.Test.YtlieaecnllkefaaGreatGCg
import Derived.Test.YtlieaecnllkefaaGreatGFg
import Derived.Test.YtlieaecnllkefaaGreatGXg
import Derived.Laws.IdiomStrings
set_option linter.unusedVariables false
set_option linter.unusedSimpArgs false
set_option maxHeartbeats 4000000
set_option maxRecDepth 100000
namespace Go.Proofs.YtlieaecnllkefaaGreat
open Go Go.V Go.RowKit
theorem lK:uw P 26 5 1 1:=⟨(P.info? 5).getD default,.int .u8 0,by kernel_rfl,by kernel_rfl,by kernel_rfl,by kernel_rfl,by kernel_rfl,by kernel_rfl,by omega⟩
theorem ui:AR P 26 5 (.int .u8 0) 1:=⟨(P.info? 5).getD default,by kernel_rfl,by kernel_rfl,by kernel_rfl,by kernel_rfl,by kernel_rfl,by kernel_rfl⟩
abbrev cz(xs:List Int):List Value:=xs.map (Value.int .u8)
abbrev bools(xs:List Bool):List Value:=xs.map Value.bool
structure sF(w:World)(base g:Nat)(A:OA)(n c:Nat)(bits:List Bool):Prop where
 blk:w.heap[g]?=some (.cells #[.slice A n c,.int .i64 (bits.length:Int)] 214 (0,0))
 low:base<=g
 row:aH w base 5 1 A n c (cz (dD bits))
def Wr(w:World)(base g:Nat)(bits:List Bool):Prop:=∃(A:OA)(n c:Nat),sF w base g A n c bits
def wrS(A:OA)(n c g:Nat)(k:Nat):Prop:=k=g∨some k=(Value.slice A n c).ownBlock
theorem sF.ne{w:World}{base g:Nat}{A:OA}{n c:Nat}{bits:List Bool}(h:sF w base g A n c bits):some g≠(Value.slice A n c).ownBlock:=by
 intro e;obtain⟨cur,h1⟩:=h.row.block_type g e.symm;have:=h.blk;rw[h1]at this;cases this
theorem sF.kp{w w':World}{S:Nat->Prop}{base g:Nat}{A:OA}{n c:Nat}{bits:List Bool}(h:sF w base g A n c bits)(hk:Kp w w' S)(h1:¬ S g)(h2:∀ k,(Value.slice A n c).ownBlock=some k->¬ S k):sF w' base g A n c bits:=by
 refine⟨by rw[hk.block g (Array.getElem?_eq_some_iff.1 h.blk).1 h1];exact h.blk,h.low,?_⟩;obtain⟨e1,e2⟩:=h.row;refine⟨e1,e2.imp id ?_⟩;rintro⟨q,cap,cur,e3,e4,e5,r⟩;have hq:(Value.slice A n c).ownBlock=some q:=by rw[e3];simp[Value.ownBlock]
 exact⟨q,cap,cur,e3,e4,by rw[hk.block q (Array.getElem?_eq_some_iff.1 e5).1 (h2 q hq)];exact e5,r⟩
theorem qb{n:Int}{w:World}{R:Ending->World->Prop}(h:R (.returned (.int .i64 (mn (mx n 0) 64))) w):Calls P 175 #[.int .i64 n] w R:=vc175 n w R h
theorem xf{n:Nat}(h:n<=64):mn (mx (n:Int) 0) 64=(n:Int):=by
 unfold mn mx;split <;>split <;>omega
theorem CW{v:Int}(h0:0<=v)(h:v<18446744073709551616){i:Nat}(hi:i<=63):dC .and .u64 (v / 2^(min i 64)) 1=fq (fo v i):=by
 have e:min i 64=i:=by omega
 have hp:=dS i;have hd:0<=v / 2^i:=Int.ediv_nonneg h0 (Int.le_of_lt hp);have G4:v / 2^i<=v:=by
  have:=Int.ediv_le_self (2^i) h0;exact this
 rw[e,B7 hd (by omega)];unfold fo fq;have:=Int.emod_nonneg (v / 2^i) (show(2:Int)≠0 by omega);have:=Int.emod_lt_of_pos (v / 2^i) (show(0:Int)<2 by omega);by_cases h1:v / 2^i % 2=1
 ·simp[h1]
 ·have h2:v / 2^i % 2=0:=by omega
  simp[h2]
theorem Ac(bs:List Bool)(b:Bool):dB bs (bs.length / 8)+fq b*2^(bs.length % 8)<=255:=by
 have h:=kE (bs++[b]) (bs.length / 8);rw[pZ,if_pos rfl]at h;exact h.2
theorem Dn {w:World} {base g:Nat} {A:OA} {n0 c:Nat} {bits:List Bool} {v:Int} {n:Nat} (h:sF w base g A n0 c bits) (hv:0<=v/\v<18446744073709551616) (hn:n<=64) (hl:bits.length<=2^30) (DM:base<=w.heap.size) :
    Calls P 151 #[.pointer (some ⟨g,0,none⟩),.int .u64 v,.int .i64 (n:Int)] w fun ev w'=>ev=.returned (.tuple #[])/\∃(A':OA)(n' c':Nat),sF w' base g A' n' c' (bits++cX v n)/\Kp w w' (wrS A n0 c g) ∧
      ((Value.slice A' n' c').ownBlock=(Value.slice A n0 c).ownBlock∨∃ q,(Value.slice A' n' c').ownBlock=some q/\w.heap.size<=q):=by
  apply vc151;dsimp only[VC151,rt,Wt,Br,Rd,Rs,Ix,Ap,cI,nb,iq];refine qb ⟨_,rfl,?_⟩;rw[xf hn];simp only[aG]
  refine⟨by omega,fun m i w1=>∃(r:Nat)(bs:List Bool)(A':OA)(n' c':Nat),i=(r:Int)-1/\m=r/\r<=n/\bs++cX v r=bits++cX v n/\sF w1 base g A' n' c' bs/\Kp w w1 (wrS A n0 c g) ∧
      ((Value.slice A' n' c').ownBlock=(Value.slice A n0 c).ownBlock∨∃ q,(Value.slice A' n' c').ownBlock=some q/\w.heap.size<=q),
    ⟨_,n,bits,A,n0,c,rfl,rfl,Nat.le_refl _,rfl,h,Kp.refl _ _,.inl rfl⟩,?_⟩
  rintro m i w1 ⟨r,bs,A1,n1,c1,rfl,Rb,OP,G9,h1,FF,GM⟩;subst Rb;have DH:bs.length+m=bits.length+n:=by
    have:=congrArg List.length G9;simpa[dX]using this
  refine⟨fun DK=>?_,fun DF=>?_⟩
  · obtain⟨r,rfl⟩:∃ r,m=r+1:=⟨m-1,by omega⟩;have hi:((r+1:Nat):Int)-1=(r:Int):=by omega
    rw[hi];have ht:(r:Int).toNat=r:=by omega
    rw[ht,CW hv.1 hv.2 (show r<=63 by omega)];have c0:∀(cur:Array Value)(t:TypeId)(w2:World),w2.heap[g]?=some (.cells cur t (0,0))->w2.cell? ⟨g,0,none⟩=cur[0]?/\w2.cell? ((⟨g,0,none⟩:Addr).add 1)=cur[1]?:=fun cur t w2 e=>⟨aA e 0,by rw[aN];exact aA e 1⟩;have szr:base<=w1.heap.size:=Nat.le_trans DM FF.size
    -- behind the byte more
    refine⟨fun w2=>∃(A':OA)(n' c':Nat),w2.heap[g]?=some (.cells #[.slice A' n' c',.int .i64 (bs.length:Int)] 214 (0,0))/\aH w2 base 5 1 A' n' c' (cz (if bs.length % 8=0 then dD bs++[0] else dD bs))/\Kp w w2 (wrS A n0 c g) ∧
      ((Value.slice A' n' c').ownBlock=(Value.slice A n0 c).ownBlock∨∃ q,(Value.slice A' n' c').ownBlock=some q/\w.heap.size<=q),⟨_,rfl,_,(c0 _ _ _ h1.blk).2,by omega,fun hz=>?_,fun S8=>?_⟩,?_⟩
    · have g1:=World.grownBy_alloc w1 (.cells #[.int .u8 0] 5) none;have ro:=dQ w1 #[.int .u8 0] 5;have Ih:n1=(dD bs).length:=by have:=h1.row.cases.1;rw[List.length_map]at this;omega
      obtain⟨A2,n2,c2,w2,e1,e2,e3,e4,e5⟩:=(h1.row.kept g1).appends (ty:=26) lK (by omega) (a:=⟨w1.heap.size,0,none⟩) (m:=1) (cc:=1) (us:=cz [0]) rfl (fun j u hj=>by obtain⟨b,q1,q2⟩:=ro j u hj;cases q1;exact q2) (fun u hu=>by simp at hu;rw[hu];rfl) (by rw[Ih,bK];omega) (Nat.le_trans szr g1.size);have Fy:Kp w w2 (wrS A n0 c g):=by
        refine(FF.step g1 (by simp)).step e4 ?_;intro k hk;rcases GM with e | ⟨q,e,hq⟩
        · right;right;rw[← e];exact hk.symm
        · left;rw[e]at hk;cases hk;exact hq
      have Ek:w2.heap[g]?=some (.cells #[.slice A1 n1 c1,.int .i64 (bs.length:Int)] 214 (0,0)):=by
        rw[e4.block g (Nat.lt_of_lt_of_le (Array.getElem?_eq_some_iff.1 h1.blk).1 g1.size) h1.ne,g1.block g (Array.getElem?_eq_some_iff.1 h1.blk).1 (by simp)];exact h1.blk
      have IS:some g≠(Value.slice A2 n2 c2).ownBlock:=by
        intro e;obtain⟨cur,h3⟩:=e2.block_type g e.symm;rw[h3]at Ek;cases Ek
      refine⟨_,rfl,_,_,_,(c0 _ _ _ h1.blk).1,A2,n2,c2,w2,e1,_,rfl,⟨_,(c0 _ _ _ Ek).1⟩,aC Ek 0,A2,n2,c2,?_,?_,Fy.set (.inr (.inl rfl)) _,?_⟩
      · exact aF Ek 0 _
      · rw[if_pos (by omega)];have:=e2.apart (r:=some g) (bZ (aD w2 (some g)) (p:=⟨g,0,none⟩) rfl (.slice A2 n2 c2)) (.inr (fun e=>IS e.symm));simpa using this
      · rcases e5 with e | e
        · rw[e];exact GM
        · right;exact⟨_,e,Nat.le_trans FF.size g1.size⟩
    · refine⟨A1,n1,c1,h1.blk,by rw[if_neg (by omega)];exact h1.row,FF,GM⟩
    · rintro w2 ⟨A2,n2,c2,Ek,EB,Fy,Ln⟩;have Nc:(if bs.length % 8=0 then dD bs++[0] else dD bs).length=(bs.length+8) / 8:=by
        split <;>simp[bK] <;>omega
      have FQ:n2=(bs.length+8) / 8:=by have:=EB.cases.1;rw[List.length_map,Nc]at this;omega
      have Ta:bs.length / 8<n2:=by omega
      have tdiv:((bs.length:Int) / 8).toNat=bs.length / 8:=by omega
      have tmod:((bs.length:Int) % 8).toNat=bs.length % 8:=by omega
      have tmin:min (bs.length % 8) 8=bs.length % 8:=by omega
      have E9:(if bs.length % 8=0 then dD bs++[0] else dD bs)[bs.length / 8]?=some (dB bs (bs.length / 8)):=by
        split
        · rename_i hz;rw[List.getElem?_append_right (by rw[bK];omega),bK];rw[show bs.length / 8-(bs.length+7) / 8=0 by omega,p9 (by omega)];rfl
        · exact jO (by omega)
      obtain⟨a,rfl,DO⟩:=EB.row (bs.length / 8) (.int .u8 (dB bs (bs.length / 8))) (by rw[List.getElem?_map,E9];rfl);obtain⟨_,Gl | ⟨q,cur,hq,Ic,QN,QO,OU,QM,QL⟩⟩:=EB.cases
      · cases Gl.1
      cases hq;have NL:=kE bs (bs.length / 8);have DF:=AK bs;have FL:=Ac bs (fo v r);have Gx:=fL (fo v r);have hp:=dS (bs.length % 8);have MS:dC .or .u8 (dB bs (bs.length / 8)) (fq (fo v r)*2^(bs.length % 8))=dB bs (bs.length / 8)+fq (fo v r)*2^(bs.length % 8):=or_u8 NL.1 DF Gx.1 (by omega);have O7:0<=fq (fo v r)*2^(bs.length % 8):=Int.mul_nonneg Gx.1 (Int.le_of_lt hp);have DJ:q≠g:=by
        rintro rfl;rw[OU]at Ek;cases Ek
      have G4:w2.drew.heap[g]?=some (.cells #[.slice (some ⟨q,0,none⟩) n2 c2,.int .i64 (bs.length:Int)] 214 (0,0)):=Ek;have Ep:=js (p:=(⟨q,0,none⟩:Addr).add (bs.length / 8)) G4 (by rw[aL];exact DJ) (.int .u8 (dB bs (bs.length / 8)+fq (fo v r)*2^(bs.length % 8)));have L0:w2.drew.heap[q]?=some (.cells cur 5 (0,0)):=OU;refine⟨_,rfl,_,_,_,(c0 _ _ _ G4).1,_,rfl,_,(c0 _ _ _ G4).2,by omega,?_⟩;rw[tdiv];refine⟨_,rfl,by omega,by omega,_,DO,by omega,by omega,_,rfl,_,(c0 _ _ _ G4).2,by omega,?_⟩;rw[tmod,tmin,MS];refine⟨⟨by omega,by omega⟩,_,rfl,by omega,by omega,⟨_,DO⟩,by rw[aN];exact aC L0 _,_,rfl,_,(c0 _ _ _ Ep).2,by omega,_,rfl,⟨_,(c0 _ _ _ Ep).2⟩,by rw[aN g 1];exact aC Ep 1,by omega,r,by omega,r,bs++[fo v r],some ⟨q,0,none⟩,n2,c2,by omega,rfl,by omega,?_,⟨?_,h1.low,?_⟩,?_,Ln⟩
      · rw[← G9];simp[cX]
      · have:=aF Ep 1 (.int .i64 ((bs.length:Int)+1));rw[aN g 1];simpa using this
      · have QQ:=aF L0 (bs.length / 8) (.int .u8 (dB bs (bs.length / 8)+fq (fo v r)*2^(bs.length % 8)));have QP:=js (p:=(⟨g,0,none⟩:Addr).add 1) QQ (by rw[aL];exact fun e=>DJ e.symm) (.int .i64 ((bs.length:Int)+1));refine⟨by rw[List.length_map,bK,List.length_append,List.length_singleton];omega,.inr ⟨q,c2,_,rfl,Ic,by rw[aN q];exact QP,QO,QN,by simpa using QM,?_⟩⟩;rw[xX,Array.toList_setIfInBounds,List.take_set,QL];simp[List.map_set]
      · refine(Fy.drew.set ?_ _).set (.inr (.inl (aL _ _))) _;rw[aL];rcases Ln with e | ⟨k,e,hk⟩
        · right;right;rw[← e];simp[Value.ownBlock]
        · left;simp[Value.ownBlock]at e;subst e;exact hk
  · have hm:m=0:=by omega
    subst hm;simp[cX]at G9;subst G9;exact⟨by trivial,A1,n1,c1,h1,FF,GM⟩
def xB(w:World)(base:Nat)(ts:List TypeId)(k:Nat):Prop:=base<=k/\∃ t,t∈ts/\IsTy w k t
theorem sF.tys{w:World}{base g:Nat}{A:OA}{n c:Nat}{bits:List Bool}(h:sF w base g A n c bits){k:Nat}(hk:wrS A n c g k):xB w base [214,5] k:=by
 rcases hk with rfl | hk
 ·exact⟨h.low,_,by simp,_,_,h.blk⟩
 ·obtain⟨cur,h1⟩:=h.row.block_type k hk.symm;exact⟨h.row.block_ge k hk.symm,_,by simp,_,_,h1⟩
theorem Wr.kp{w w':World}{S:Nat->Prop}{base g:Nat}{bits:List Bool}(h:Wr w base g bits)(hk:Kp w w' S)(h1:∀ k,k<w.heap.size->xB w base [214,5] k->¬ S k):Wr w' base g bits:=by
 obtain⟨A,n,c,h2⟩:=h;refine⟨A,n,c,h2.kp hk (h1 g (Array.getElem?_eq_some_iff.1 h2.blk).1 (h2.tys (.inl rfl))) fun k D8=>h1 k (h2.row.block_lt k D8) (h2.tys (.inr D8.symm))⟩
theorem Wr.kept{w w':World}{base g:Nat}{bits:List Bool}(h:Wr w base g bits)(hg:w.grownBy w' none):Wr w' base g bits:=h.kp (S:=fun _=>False) (Kp.of_none hg) (fun _ _ _ h=>h)
theorem mc{w:World}{base g:Nat}{bits:List Bool}{v:Int}{n:Nat}(h:Wr w base g bits)(hv:0<=v/\v<18446744073709551616)(hn:n<=64)(hl:bits.length<=2^30)(DM:base<=w.heap.size):
    Calls P 151 #[.pointer (some ⟨g,0,none⟩),.int .u64 v,.int .i64 (n:Int)] w fun ev w'=>ev=.returned (.tuple #[])/\Wr w' base g (bits++cX v n)/\Kp w w' (xB w base [214,5]):=by
  obtain⟨A,n0,c,h⟩:=h;refine(Dn h hv hn hl DM).mono fun ev w' hh=>?_;obtain⟨e,A',n',c',h1,h2,_⟩:=hh;exact⟨e,⟨A',n',c',h1⟩,h2.mono fun k _ hk=>h.tys hk⟩
theorem kO{w:World}{base:Nat}(hb:base<=w.heap.size):Calls P 107 #[] w fun ev w'=>ev=.returned (.pointer (some ⟨w.heap.size,0,none⟩))/\Wr w' base w.heap.size []/\w.grownBy w' none:=by
 apply vc107;dsimp only[VC107,nb,iq];exact⟨rfl,⟨none,0,0,by simpa using heap_alloc_new w (.cells #[.slice none 0 0,.int .i64 0] 214),hb,aH.nil _ _ _ _⟩,World.grownBy_alloc _ _ _⟩
theorem hZ{w:World}{A:OA}{n c:Nat}{l:List Int}(hr:bB w A (cz l))(hn:n=l.length)(hl:l.length<=2^40):
    Calls P 98 #[.slice A n c] w fun ev w'=>∃(A':OA)(n' c':Nat),ev=.returned (.slice A' n' c')/\aH w' w.heap.size 5 1 A' n' c' (cz l)/\w.grownBy w' none:=by
  apply vc98;dsimp only[VC98,Br,Ap,nb];refine⟨fun h=>?_,fun h=>?_⟩
  · subst h;have:l=[]:=by
      cases l with
      | nil=>rfl
      | cons x l=>obtain⟨a,e,_⟩:=hr 0 _ rfl;cases e
    subst this;exact⟨none,0,0,rfl,aH.nil _ _ _ _,aD _ _⟩
  · obtain⟨a,rfl⟩:∃ a,A=some a:=by cases A with
      | none=>exact absurd rfl h
      | some a=>exact⟨a,rfl⟩
    have hg:=World.grownBy_alloc w (.cells #[] 5) none;have ho:aH (w.alloc (.cells #[] 5)) w.heap.size 5 1 (some ⟨w.heap.size,0,none⟩) 0 0 []:=⟨rfl,.inr ⟨w.heap.size,0,#[],rfl,Nat.le_refl _,heap_alloc_new w _,Nat.le_refl _,Nat.zero_le _,rfl,rfl⟩⟩;obtain⟨A',n',c',w',h1,h2,h3,h4,_⟩:=ho.appends (ty:=26) lK (by omega) (a:=a) (m:=n) (cc:=c) (us:=cz l) (by simp[hn]) (fun j u hj=>by obtain⟨b,e1,e2⟩:=(hr.kept_none hg) j u hj;cases e1;exact e2) (fun u hu=>by obtain⟨x,_,rfl⟩:=List.mem_map.1 hu;rfl) (by omega) hg.size;exact⟨A',n',c',w',h1,A',n',c',rfl,by simpa using h2,aP hg h4 ho.block_ge⟩
theorem pY{w:World}{base g:Nat}{bits:List Bool}(h:Wr w base g bits)(hl:bits.length<=2^40):Calls P 109 #[.pointer (some ⟨g,0,none⟩)] w fun ev w'=>∃(A':OA)(n' c':Nat),ev=.returned (.slice A' n' c')/\aH w' w.heap.size 5 1 A' n' c' (cz (dD bits))/\w.grownBy w' none:=by
 obtain⟨A,n,c,h⟩:=h;apply vc109;dsimp only[VC109,Rs,cS];refine⟨_,rfl,_,_,_,aA h.blk 0,?_⟩;refine(hZ h.row.row (by have:=h.row.cases.1;rw[List.length_map]at this;omega) (by rw[bK];omega)).mono fun ev w' hh=>?_;obtain⟨A',n',c',e,h1,h2⟩:=hh;exact⟨_,_,_,e,_,_,_,rfl,h1,h2⟩
def jj(bs:List Bool):Int:=bs.foldl (fun v b=>2*v+fq b) 0
theorem qG(bs:List Bool)(b:Bool):jj (bs++[b])=2*jj bs+fq b:=by simp[jj]
theorem qH(bs:List Bool):0<=jj bs/\jj bs<2^bs.length:=by
 refine vG (P:=fun bs=>0<=jj bs/\jj bs<2^bs.length) (by simp[jj]) ?_ bs;intro l b ih;have:=fL b;rw[qG,List.length_append,List.length_singleton,pow_succ'];omega
theorem Dx{v:Int}(h0:0<=v)(h:v<=255){i:Nat}(hi:i<=7):dC .and .u8 (v / 2^(min i 8)) 1=fq (fo v i):=by
 have e:min i 8=i:=by omega
 have hp:=dS i;have hd:0<=v / 2^i:=Int.ediv_nonneg h0 (Int.le_of_lt hp);have G4:v / 2^i<=v:=Int.ediv_le_self (2^i) h0;rw[e,CY hd (by omega)];unfold fo fq;have:=Int.emod_nonneg (v / 2^i) (show(2:Int)≠0 by omega);have:=Int.emod_lt_of_pos (v / 2^i) (show(0:Int)<2 by omega);by_cases h1:v / 2^i % 2=1
 ·simp[h1]
 ·have h2:v / 2^i % 2=0:=by omega
  simp[h2]
structure iD(w:World)(g:Nat)(A:OA)(n c:Nat)(l:List Int)(at_:Nat):Prop where
 blk:w.heap[g]?=some (.cells #[.slice A n c,.int .i64 (at_:Int)] 240 (0,0))
 row:bB w A (cz l)
 len:n=l.length
 le:at_<=8*l.length
 ne:∀ a,A=some a->l=[]∨a.block≠g
theorem iD.kp{w w':World}{S:Nat->Prop}{g:Nat}{A:OA}{n c:Nat}{l:List Int}{at_:Nat}(h:iD w g A n c l at_)(hk:Kp w w' S)(h1:¬ S g)(h2:∀ a,A=some a->l=[]∨¬ S a.block):iD w' g A n c l at_ :=
 ⟨by rw[hk.block g (Array.getElem?_eq_some_iff.1 h.blk).1 h1];exact h.blk,h.row.kpE hk (fun a ha=>(h2 a ha).imp (fun e=>by rw[e];rfl) id),h.len,h.le,h.ne⟩
theorem iD.kept{w w':World}{g:Nat}{A:OA}{n c:Nat}{l:List Int}{at_:Nat}(h:iD w g A n c l at_)(hg:w.grownBy w' none):iD w' g A n c l at_ :=
 h.kp (S:=fun _=>False) (Kp.of_none hg) (fun h=>h) (fun _ _=>.inr (fun h=>h))
theorem yf{w:World}{g:Nat}{A:OA}{n c:Nat}{l:List Int}{at_:Nat}(h:iD w g A n c l at_)(hl:l.length<=2^40):
    Calls P 185 #[.pointer (some ⟨g,0,none⟩)] w fun ev w'=>ev=.returned (.int .i64 ((8*l.length-at_:Nat):Int))/\w.grownBy w' none:=by
  apply vc185;dsimp only[VC185,Rd,Rs,iq]
  try simp only[aG]
  have hb:w.drew.heap[g]?=some (.cells #[.slice A n c,.int .i64 (at_:Int)] 240 (0,0)):=h.blk;have h1:=h.len;have h2:=h.le;refine⟨_,rfl,_,_,_,aA hb 0,by omega,_,rfl,_,by rw[aN];exact aA hb 1,by omega,?_,aI (aD _ _)⟩;congr 2;omega
theorem j7 {w:World} {g:Nat} {A:OA} {n c:Nat} {l:List Int} {at_:Nat} {k:Nat} (h:iD w g A n c l at_) (hl:l.length<=2^40) (hb:∀ x∈l,0<=x/\x<=255) (hk:k<=64) :
    Calls P 166 #[.pointer (some ⟨g,0,none⟩),.int .i64 (k:Int)] w fun ev w'=>Kp w w' (fun q=>q=g) ∧
      ((at_+k<=8*l.length/\ev=.returned (.tuple #[.int .u64 (jj (((aS l).drop at_).take k)),.bool true])/\iD w' g A n c l (at_+k)) ∨
       (8*l.length<at_+k/\ev=.returned (.tuple #[.int .u64 0,.bool false])/\iD w' g A n c l at_)):=by
  apply vc166;dsimp only[VC166,rt,Wt,Br,Rd,Rs,Ix,cI,iq];refine qb ⟨_,rfl,?_⟩;rw[xf hk];refine(yf h hl).mono fun ev w0 hh=>?_;obtain⟨rfl,KY⟩:=hh;simp only[aG];refine⟨_,rfl,?_⟩;have h1:=h.len;have h2:=h.le;refine⟨fun DF=>⟨Kp.of_none KY,.inr ⟨by omega,by first | trivial | rfl,h.kept KY⟩⟩,fun DK=>?_⟩;have Gw:at_+k<=8*l.length:=by omega
  refine⟨fun m v x w1=>∃ j:Nat,x=(j:Int)/\j<=k/\m=k-j/\v=jj (((aS l).drop at_).take j)/\iD w1 g A n c l (at_+j)/\Kp w w1 (fun q=>q=g),⟨_,0,rfl,by omega,rfl,rfl,h.kept KY,Kp.of_none KY⟩,?_⟩;rintro m v x w1 ⟨j,rfl,hj,rfl,rfl,hr,FF⟩;have SW:(aS l).length=8*l.length:=dK l;refine⟨fun DF=>?_,fun DK=>?_⟩
  · have ljk:j<k:=by omega
    have En:w1.drew.heap[g]?=some (.cells #[.slice A n c,.int .i64 ((at_+j:Nat):Int)] 240 (0,0)):=hr.blk;have c1:w1.drew.cell? ((⟨g,0,none⟩:Addr).add 1)=some (.int .i64 ((at_+j:Nat):Int)):=by rw[aN];exact aA En 1
    have e8:((at_+j:Nat):Int) / 8=(((at_+j) / 8:Nat):Int):=by omega
    have m8:((at_+j:Nat):Int) % 8=(((at_+j) % 8:Nat):Int):=by omega
    have t8:(((at_+j) / 8:Nat):Int).toNat=(at_+j) / 8:=by omega
    have tm8:(((at_+j) % 8:Nat):Int).toNat=(at_+j) % 8:=by omega
    have lb:(at_+j) / 8<l.length:=by omega
    obtain⟨a,EN,Ex⟩:=hr.row ((at_+j) / 8) (.int .u8 l[(at_+j) / 8]) (by simp[lb]);have OH:=hb _ (List.getElem_mem lb);have FH:=Dx OH.1 OH.2 (show(at_+j) % 8<=7 by omega);have NN:fo l[(at_+j) / 8] ((at_+j) % 8)=ef l (at_+j):=by simp[ef,List.getD_eq_getElem?_getD,lb]
    rw[NN]at FH;have hv:=qH (((aS l).drop at_).take j);have Io:(((aS l).drop at_).take j).length=j:=by simp;omega
    rw[Io]at hv;have MQ:(2:Int)^j<=2^63:=by
      have e1:((2^j:Nat):Int)=2^j:=by simp
      have e2:((2^63:Nat):Int)=2^63:=by simp
      have:=Nat.pow_le_pow_right (n:=2) (by omega) (show j<=63 by omega);omega
    have Gx:=fL (ef l (at_+j));have MS:=Dq hv.1 Gx (by omega);have GW:(((aS l).drop at_).take (j+1))=(((aS l).drop at_).take j)++[ef l (at_+j)]:=by
      have lt:j<((aS l).drop at_).length:=by simp;omega
      rw[List.take_succ_eq_append_getElem lt];congr 1;simp[aS]
    refine⟨by omega,_,rfl,_,_,_,aA En 0,_,rfl,_,c1,by omega,?_⟩;rw[e8,t8];refine⟨a,EN,by omega,by omega,_,Ex,_,rfl,_,c1,by omega,?_⟩;rw[m8,tm8,FH,MS];refine⟨by omega,by omega,_,rfl,_,c1,by omega,_,rfl,⟨_,c1⟩,by rw[aN];exact aC En 1,by omega,k-(j+1),by omega,j+1,by omega,by omega,rfl,?_,?_,FF.drew.set (.inr (aL _ _)) _⟩
    · rw[GW,qG]
    · have DJ:∀ a,A=some a->l=[]∨¬ (a.block=g):=hr.ne;refine⟨?_,?_,hr.len,by omega,hr.ne⟩
      · have:=aF En 1 (.int .i64 (((at_+j:Nat):Int)+1));rw[aN,show((at_+(j+1):Nat):Int)=((at_+j:Nat):Int)+1 by omega];simpa using this
      · refine hr.row.kpE (S:=fun q=>q=g) ((Kp.refl w1 (fun q=>q=g)).drew.set (.inr (aL _ _)) _) fun a ha=>(DJ a ha).imp (fun e=>by rw[e];rfl) id
  · have:j=k:=by omega
    subst this;exact⟨FF,.inl ⟨Gw,by first | trivial | rfl,hr⟩⟩
def mF(l:List Int):ByteArray:=l.foldl (fun r n=>r.push (UInt8.ofNat n.toNat)) ByteArray.empty
theorem dG{w:World}{A:OA}{n c:Nat}{l:List Int}(hr:bB w A (cz l))(hn:n=l.length):Sem.run P (Go.convert 26 9 (.slice A n c)) w=.ok (.string (mF l)) w:=by
 rw[run_convert_bytes_string w 26 9 5 A n c (by kernel_rfl) (by kernel_rfl) (by kernel_rfl)];cases A with
 | none =>
  have:l=[]:=by
   cases l with
   | nil=>rfl
   | cons x l=>obtain⟨a,e,_⟩:=hr 0 _ rfl;cases e
  subst this;rfl
 | some a =>
  have hl:=run_loadCells_list (P:=P) w a (cz l) (fun j v hj=>by obtain⟨b,e1,e2⟩:=hr j v hj;cases e1;exact e2);rw[List.length_map,← hn]at hl;exact run_bytesToString w a n c l hl
theorem xL(l:List Int):∀ r:ByteArray,(l.foldl (fun r n=>r.push (UInt8.ofNat n.toNat)) r).data.toList=r.data.toList++l.map fun n=>UInt8.ofNat n.toNat:=by
 induction l with
 | nil=>simp
 | cons x l ih=>intro r;rw[List.foldl_cons,ih];simp[ByteArray.push]
theorem qP(l:List Int):(mF l).data.toList=l.map fun n=>UInt8.ofNat n.toNat:=by
 rw[mF,xL];rfl
theorem tH{l m:List Int}(hl:∀ x∈l,0<=x/\x<=255)(hm:∀ x∈m,0<=x/\x<=255)(h:mF l=mF m):l=m:=by
 have h1:=qP l;rw[h,qP]at h1;have key:∀ x:Int,0<=x/\x<=255->((UInt8.ofNat x.toNat).toNat:Int)=x:=by
  intro x hx;rw[UInt8.toNat_ofNat'];omega
 have h2:=congrArg (List.map fun b:UInt8=>(b.toNat:Int)) h1;rw[List.map_map,List.map_map]at h2;have e:∀ q:List Int,(∀ x∈q,0<=x/\x<=255)->q.map ((fun b:UInt8=>(b.toNat:Int)) ∘ fun n:Int=>UInt8.ofNat n.toNat)=q:=by
  intro q hq
  conv=>rhs;rw[← List.map_id q]
  apply List.map_congr_left;intro x hx;exact key x (hq x hx)
 rw[e l hl,e m hm]at h2;exact h2.symm
theorem xa(a b:ByteArray):(a.toList ==b.toList)=decide (a=b):=by
 rw[ByteArray.toList_eq,ByteArray.toList_eq,Bool.eq_iff_iff,beq_iff_eq,decide_eq_true_iff];constructor
 ·intro h;cases a;cases b;simp at h;rw[h]
 ·intro h;rw[h]
theorem vK(s t:Operand)(x y:ByteArray)(w:World):Sem.run P (do eqGuard .neq 9 s t (.string x) (.string y);Go.binOp .neq 9 (.string x) (.string y):Sem Value) w=.ok (.bool (!decide (x=y))) w:=by
 rw[← xa];simp[eqGuard_at_string,binOp_string_neq]
theorem qS(s t:Operand)(x y:ByteArray)(w:World):Sem.run P (do eqGuard .eql 9 s t (.string x) (.string y);Go.binOp .eql 9 (.string x) (.string y):Sem Value) w=.ok (.bool (decide (x=y))) w:=by
 rw[← xa];simp[eqGuard_at_string,binOp_string_eql]
end Go.Proofs.YtlieaecnllkefaaGreat
