/- Own texts, packed: B1, B2, B3, B4, B5. -/
import Derived.Test.YtlieaecnllkefaaGreatGCg
import Derived.Test.YtlieaecnllkefaaGreatGFg
import Derived.Test.YtlieaecnllkefaaGreatGXg
import Derived.Laws.IdiomStrings
namespace Go.Proofs.YtlieaecnllkefaaGreat
open Go Go.V Go.RowKit
set_option linter.unusedVariables false
set_option linter.unusedSimpArgs false
set_option maxHeartbeats 4000000
set_option maxRecDepth 100000
theorem ve:qkp P 26 5 1 1:=⟨(P.info? 5).getD default,.int .u8 0,by kernel_rfl,by kernel_rfl,by kernel_rfl,by kernel_rfl,by kernel_rfl,by kernel_rfl,by omega⟩
theorem qfg:qra P 26 5 (.int .u8 0) 1:=⟨(P.info? 5).getD default,by kernel_rfl,by kernel_rfl,by kernel_rfl,by kernel_rfl,by kernel_rfl,by kernel_rfl⟩
abbrev u8s(xs:List Int):List Value:=xs.map (Value.int .u8)
abbrev bools(xs:List Bool):List Value:=xs.map Value.bool
structure qnf(w:World)(base g:Nat)(A:Option Addr)(n c:Nat)(bits:List Bool):Prop where
 blk:w.heap[g]?=some (.cells #[.slice A n c,.int .i64 (bits.length:Int)] 214 (0,0))
 low:base<=g
 row:am w base 5 1 A n c (u8s (fz bits))
def Wr(w:World)(base g:Nat)(bits:List Bool):Prop:=∃(A:Option Addr)(n c:Nat),qnf w base g A n c bits
def wrS(A:Option Addr)(n c g:Nat)(k:Nat):Prop:=k=g∨some k=(Value.slice A n c).ownBlock
theorem qnf.ne{w:World}{base g:Nat}{A:Option Addr}{n c:Nat}{bits:List Bool}(h:qnf w base g A n c bits):some g≠(Value.slice A n c).ownBlock:=by
 intro e
 obtain⟨cur,h1⟩:=h.row.block_type g e.symm
 have:=h.blk
 rw[h1]at this
 cases this
theorem qnf.kp{w w':World}{S:Nat->Prop}{base g:Nat}{A:Option Addr}{n c:Nat}{bits:List Bool}(h:qnf w base g A n c bits)(hk:Kp w w' S)(h1:¬ S g)(h2:∀ k,(Value.slice A n c).ownBlock=some k->¬ S k):qnf w' base g A n c bits:=by
 refine⟨by rw[hk.block g (Array.getElem?_eq_some_iff.1 h.blk).1 h1];exact h.blk,h.low,?_⟩
 obtain⟨e1,e2⟩:=h.row
 refine⟨e1,e2.imp id ?_⟩
 rintro⟨q,cap,cur,e3,e4,e5,r⟩
 have hq:(Value.slice A n c).ownBlock=some q:=by rw[e3];simp[Value.ownBlock]
 exact⟨q,cap,cur,e3,e4,by rw[hk.block q (Array.getElem?_eq_some_iff.1 e5).1 (h2 q hq)];exact e5,r⟩
theorem qa1{n:Int}{w:World}{R:Ending->World->Prop}(h:R (.returned (.int .i64 (mn (mx n 0) 64))) w):Calls P 175 #[.int .i64 n] w R:=vc175 n w R h
theorem qiv{n:Nat}(h:n<=64):mn (mx (n:Int) 0) 64=(n:Int):=by
 unfold mn mx;split <;>split <;>omega
theorem qqu{v:Int}(h0:0<=v)(h:v<18446744073709551616){i:Nat}(hi:i<=63):bop .and .u64 (v / 2^(min i 64)) 1=b2i (rh v i):=by
 have e:min i 64=i:=by omega
 have hp:=fg i
 have hd:0<=v / 2^i:=Int.ediv_nonneg h0 (Int.le_of_lt hp)
 have hd2:v / 2^i<=v:=by
  have:=Int.ediv_le_self (2^i) h0
  exact this
 rw[e,qos hd (by omega)]
 unfold rh b2i
 have:=Int.emod_nonneg (v / 2^i) (show(2:Int)≠0 by omega)
 have:=Int.emod_lt_of_pos (v / 2^i) (show(0:Int)<2 by omega)
 by_cases h1:v / 2^i % 2=1
 ·simp[h1]
 ·have h2:v / 2^i % 2=0:=by omega
  simp[h2]
theorem qls(bs:List Bool)(b:Bool):fi bs (bs.length / 8)+b2i b*2^(bs.length % 8)<=255:=by
 have h:=pz (bs++[b]) (bs.length / 8)
 rw[qay,if_pos rfl]at h
 exact h.2
theorem put_at {w:World} {base g:Nat} {A:Option Addr} {n0 c:Nat} {bits:List Bool} {v:Int} {n:Nat} (h:qnf w base g A n0 c bits) (hv:0<=v/\v<18446744073709551616) (hn:n<=64) (hl:bits.length<=2^30) (hbase:base<=w.heap.size) :
    Calls P 151 #[.pointer (some ⟨g,0,none⟩),.int .u64 v,.int .i64 (n:Int)] w fun ev w'=>ev=.returned (.tuple #[])/\∃(A':Option Addr)(n' c':Nat),qnf w' base g A' n' c' (bits++dl v n)/\Kp w w' (wrS A n0 c g) ∧
      ((Value.slice A' n' c').ownBlock=(Value.slice A n0 c).ownBlock∨∃ q,(Value.slice A' n' c').ownBlock=some q/\w.heap.size<=q):=by
  apply vc151;dsimp only[VC151,Wt,Br,Bb,Rd,Rc,Rs,Ix,rI_,rB_,rS_]
  refine qa1 ⟨_,rfl,?_⟩
  rw[qiv hn]
  simp only[InK]
  refine⟨by omega,fun m i w1=>∃(r:Nat)(bs:List Bool)(A':Option Addr)(n' c':Nat),i=(r:Int)-1/\m=r/\r<=n/\bs++dl v r=bits++dl v n/\qnf w1 base g A' n' c' bs/\Kp w w1 (wrS A n0 c g) ∧
      ((Value.slice A' n' c').ownBlock=(Value.slice A n0 c).ownBlock∨∃ q,(Value.slice A' n' c').ownBlock=some q/\w.heap.size<=q),
    ⟨_,n,bits,A,n0,c,rfl,rfl,Nat.le_refl _,rfl,h,Kp.refl _ _,.inl rfl⟩,?_⟩
  rintro m i w1 ⟨r,bs,A1,n1,c1,rfl,hmr,hrn,hbs,h1,hk1,hat⟩
  subst hmr
  have hlen:bs.length+m=bits.length+n:=by
    have:=congrArg List.length hbs
    simpa[er]using this
  refine⟨fun hge=>?_,fun hlt=>?_⟩
  · obtain⟨r,rfl⟩:∃ r,m=r+1:=⟨m-1,by omega⟩
    have hi:((r+1:Nat):Int)-1=(r:Int):=by omega
    rw[hi]
    have ht:(r:Int).toNat=r:=by omega
    rw[ht,qqu hv.1 hv.2 (show r<=63 by omega)]
    have c0:∀(cur:Array Value)(t:TypeId)(w2:World),w2.heap[g]?=some (.cells cur t (0,0))->w2.cell? ⟨g,0,none⟩=cur[0]?/\w2.cell? ((⟨g,0,none⟩:Addr).add 1)=cur[1]?:=fun cur t w2 e=>⟨aa e 0,by rw[au];exact aa e 1⟩
    have szr:base<=w1.heap.size:=Nat.le_trans hbase hk1.size
    -- behind the byte more
    refine⟨fun w2=>∃(A':Option Addr)(n' c':Nat),w2.heap[g]?=some (.cells #[.slice A' n' c',.int .i64 (bs.length:Int)] 214 (0,0))/\am w2 base 5 1 A' n' c' (u8s (if bs.length % 8=0 then fz bs++[0] else fz bs))/\Kp w w2 (wrS A n0 c g) ∧
      ((Value.slice A' n' c').ownBlock=(Value.slice A n0 c).ownBlock∨∃ q,(Value.slice A' n' c').ownBlock=some q/\w.heap.size<=q),⟨_,rfl,_,(c0 _ _ _ h1.blk).2,by omega,fun hz=>?_,fun hnz=>?_⟩,?_⟩
    · have g1:=World.grownBy_alloc w1 (.cells #[.int .u8 0] 5) none
      have ro:=ey w1 #[.int .u8 0] 5
      have hnl:n1=(fz bs).length:=by have:=h1.row.cases.1;rw[List.length_map]at this;omega
      obtain⟨A2,n2,c2,w2,e1,e2,e3,e4,e5⟩:=(h1.row.kept g1).appends (ty:=26) ve (by omega) (a:=⟨w1.heap.size,0,none⟩) (m:=1) (cc:=1) (us:=u8s [0]) rfl (fun j u hj=>by obtain⟨b,q1,q2⟩:=ro j u hj;cases q1;exact q2) (fun u hu=>by simp at hu;rw[hu];rfl) (by rw[hnl,bo];omega) (Nat.le_trans szr g1.size)
      have hk2:Kp w w2 (wrS A n0 c g):=by
        refine(hk1.step g1 (by simp)).step e4 ?_
        intro k hk
        rcases hat with e | ⟨q,e,hq⟩
        · right;right;rw[← e];exact hk.symm
        · left;rw[e]at hk;cases hk;exact hq
      have hb2:w2.heap[g]?=some (.cells #[.slice A1 n1 c1,.int .i64 (bs.length:Int)] 214 (0,0)):=by
        rw[e4.block g (Nat.lt_of_lt_of_le (Array.getElem?_eq_some_iff.1 h1.blk).1 g1.size) h1.ne,g1.block g (Array.getElem?_eq_some_iff.1 h1.blk).1 (by simp)]
        exact h1.blk
      have hne2:some g≠(Value.slice A2 n2 c2).ownBlock:=by
        intro e
        obtain⟨cur,h3⟩:=e2.block_type g e.symm
        rw[h3]at hb2
        cases hb2
      refine⟨_,rfl,_,_,_,(c0 _ _ _ h1.blk).1,A2,n2,c2,w2,e1,_,rfl,⟨_,(c0 _ _ _ hb2).1⟩,ae hb2 0,A2,n2,c2,?_,?_,hk2.set (.inr (.inl rfl)) _,?_⟩
      · exact ah hb2 0 _
      · rw[if_pos (by omega)]
        have:=e2.apart (r:=some g) (ce (af w2 (some g)) (p:=⟨g,0,none⟩) rfl (.slice A2 n2 c2)) (.inr (fun e=>hne2 e.symm))
        simpa using this
      · rcases e5 with e | e
        · rw[e];exact hat
        · right;exact⟨_,e,Nat.le_trans hk1.size g1.size⟩
    · refine⟨A1,n1,c1,h1.blk,by rw[if_neg (by omega)];exact h1.row,hk1,hat⟩
    · rintro w2 ⟨A2,n2,c2,hb2,ho2,hk2,hat2⟩
      have hlp:(if bs.length % 8=0 then fz bs++[0] else fz bs).length=(bs.length+8) / 8:=by
        split <;>simp[bo] <;>omega
      have hn2:n2=(bs.length+8) / 8:=by have:=ho2.cases.1;rw[List.length_map,hlp]at this;omega
      have hnp:bs.length / 8<n2:=by omega
      have tdiv:((bs.length:Int) / 8).toNat=bs.length / 8:=by omega
      have tmod:((bs.length:Int) % 8).toNat=bs.length % 8:=by omega
      have tmin:min (bs.length % 8) 8=bs.length % 8:=by omega
      have hval:(if bs.length % 8=0 then fz bs++[0] else fz bs)[bs.length / 8]?=some (fi bs (bs.length / 8)):=by
        split
        · rename_i hz
          rw[List.getElem?_append_right (by rw[bo];omega),bo]
          rw[show bs.length / 8-(bs.length+7) / 8=0 by omega,qaz (by omega)];rfl
        · exact oz (by omega)
      obtain⟨a,rfl,hcell⟩:=ho2.row (bs.length / 8) (.int .u8 (fi bs (bs.length / 8))) (by rw[List.getElem?_map,hval];rfl)
      obtain⟨_,hcs | ⟨q,cur,hq,hqb,hqm,hqc,hqh,hqs,hqt⟩⟩:=ho2.cases
      · cases hcs.1
      cases hq
      have hbnd:=pz bs (bs.length / 8)
      have hlt:=qm4 bs
      have hadd:=qls bs (rh v r)
      have hb01:=jn (rh v r)
      have hp:=fg (bs.length % 8)
      have hor:bop .or .u8 (fi bs (bs.length / 8)) (b2i (rh v r)*2^(bs.length % 8))=fi bs (bs.length / 8)+b2i (rh v r)*2^(bs.length % 8):=or_u8 hbnd.1 hlt hb01.1 (by omega)
      have hmulb:0<=b2i (rh v r)*2^(bs.length % 8):=Int.mul_nonneg hb01.1 (Int.le_of_lt hp)
      have hne:q≠g:=by
        rintro rfl
        rw[hqh]at hb2
        cases hb2
      have hd2:w2.drew.heap[g]?=some (.cells #[.slice (some ⟨q,0,none⟩) n2 c2,.int .i64 (bs.length:Int)] 214 (0,0)):=hb2
      have hw3:=qb (p:=(⟨q,0,none⟩:Addr).add (bs.length / 8)) hd2 (by rw[aq];exact hne) (.int .u8 (fi bs (bs.length / 8)+b2i (rh v r)*2^(bs.length % 8)))
      have hqd:w2.drew.heap[q]?=some (.cells cur 5 (0,0)):=hqh
      refine⟨_,rfl,_,_,_,(c0 _ _ _ hd2).1,_,rfl,_,(c0 _ _ _ hd2).2,by omega,?_⟩
      rw[tdiv]
      refine⟨_,rfl,by omega,by omega,_,hcell,by omega,by omega,_,rfl,_,(c0 _ _ _ hd2).2,by omega,?_⟩
      rw[tmod,tmin,hor]
      refine⟨⟨by omega,by omega⟩,_,rfl,by omega,by omega,⟨_,hcell⟩,by rw[au];exact ae hqd _,_,rfl,_,(c0 _ _ _ hw3).2,by omega,_,rfl,⟨_,(c0 _ _ _ hw3).2⟩,by rw[au g 1];exact ae hw3 1,by omega,r,by omega,r,bs++[rh v r],some ⟨q,0,none⟩,n2,c2,by omega,rfl,by omega,?_,⟨?_,h1.low,?_⟩,?_,hat2⟩
      · rw[← hbs];simp[dl]
      · have:=ah hw3 1 (.int .i64 ((bs.length:Int)+1))
        rw[au g 1]
        simpa using this
      · have hq3:=ah hqd (bs.length / 8) (.int .u8 (fi bs (bs.length / 8)+b2i (rh v r)*2^(bs.length % 8)))
        have hq4:=qb (p:=(⟨g,0,none⟩:Addr).add 1) hq3 (by rw[aq];exact fun e=>hne e.symm) (.int .i64 ((bs.length:Int)+1))
        refine⟨by rw[List.length_map,bo,List.length_append,List.length_singleton];omega,.inr ⟨q,c2,_,rfl,hqb,by rw[au q];exact hq4,hqc,hqm,by simpa using hqs,?_⟩⟩
        rw[qjl,Array.toList_setIfInBounds,List.take_set,hqt]
        simp[List.map_set]
      · refine(hk2.drew.set ?_ _).set (.inr (.inl (aq _ _))) _
        rw[aq]
        rcases hat2 with e | ⟨k,e,hk⟩
        · right;right;rw[← e];simp[Value.ownBlock]
        · left;simp[Value.ownBlock]at e;subst e;exact hk
  · have hm:m=0:=by omega
    subst hm
    simp[dl]at hbs
    subst hbs
    exact⟨by trivial,A1,n1,c1,h1,hk1,hat⟩
def TyS(w:World)(base:Nat)(ts:List TypeId)(k:Nat):Prop:=base<=k/\∃ t,t∈ts/\IsTy w k t
theorem qnf.tys{w:World}{base g:Nat}{A:Option Addr}{n c:Nat}{bits:List Bool}(h:qnf w base g A n c bits){k:Nat}(hk:wrS A n c g k):TyS w base [214,5] k:=by
 rcases hk with rfl | hk
 ·exact⟨h.low,_,by simp,_,_,h.blk⟩
 ·obtain⟨cur,h1⟩:=h.row.block_type k hk.symm
  exact⟨h.row.block_ge k hk.symm,_,by simp,_,_,h1⟩
theorem Wr.kp{w w':World}{S:Nat->Prop}{base g:Nat}{bits:List Bool}(h:Wr w base g bits)(hk:Kp w w' S)(h1:∀ k,k<w.heap.size->TyS w base [214,5] k->¬ S k):Wr w' base g bits:=by
 obtain⟨A,n,c,h2⟩:=h
 refine⟨A,n,c,h2.kp hk (h1 g (Array.getElem?_eq_some_iff.1 h2.blk).1 (h2.tys (.inl rfl))) fun k hk'=>h1 k (h2.row.block_lt k hk') (h2.tys (.inr hk'.symm))⟩
theorem Wr.kept{w w':World}{base g:Nat}{bits:List Bool}(h:Wr w base g bits)(hg:w.grownBy w' none):Wr w' base g bits:=h.kp (S:=fun _=>False) (Kp.of_none hg) (fun _ _ _ h=>h)
theorem uo{w:World}{base g:Nat}{bits:List Bool}{v:Int}{n:Nat}(h:Wr w base g bits)(hv:0<=v/\v<18446744073709551616)(hn:n<=64)(hl:bits.length<=2^30)(hbase:base<=w.heap.size):
    Calls P 151 #[.pointer (some ⟨g,0,none⟩),.int .u64 v,.int .i64 (n:Int)] w fun ev w'=>ev=.returned (.tuple #[])/\Wr w' base g (bits++dl v n)/\Kp w w' (TyS w base [214,5]):=by
  obtain⟨A,n0,c,h⟩:=h
  refine(put_at h hv hn hl hbase).mono fun ev w' hh=>?_
  obtain⟨e,A',n',c',h1,h2,_⟩:=hh
  exact⟨e,⟨A',n',c',h1⟩,h2.mono fun k _ hk=>h.tys hk⟩
theorem pg{w:World}{base:Nat}(hb:base<=w.heap.size):Calls P 107 #[] w fun ev w'=>ev=.returned (.pointer (some ⟨w.heap.size,0,none⟩))/\Wr w' base w.heap.size []/\w.grownBy w' none:=by
 apply vc107;dsimp only[VC107,Wt,Br,Bb,Rd,Rc,Rs,Ix,rI_,rB_,rS_]
 exact⟨rfl,⟨none,0,0,by simpa using heap_alloc_new w (.cells #[.slice none 0 0,.int .i64 0] 214),hb,am.nil _ _ _ _⟩,World.grownBy_alloc _ _ _⟩
theorem jt{w:World}{A:Option Addr}{n c:Nat}{l:List Int}(hr:Row w A (u8s l))(hn:n=l.length)(hl:l.length<=2^40):
    Calls P 98 #[.slice A n c] w fun ev w'=>∃(A':Option Addr)(n' c':Nat),ev=.returned (.slice A' n' c')/\am w' w.heap.size 5 1 A' n' c' (u8s l)/\w.grownBy w' none:=by
  apply vc98;dsimp only[VC98,Wt,Br,Bb,Rd,Rc,Rs,Ix,rI_,rB_,rS_]
  refine⟨fun h=>?_,fun h=>?_⟩
  · subst h
    have:l=[]:=by
      cases l with
      | nil=>rfl
      | cons x l=>obtain⟨a,e,_⟩:=hr 0 _ rfl;cases e
    subst this
    exact⟨none,0,0,rfl,am.nil _ _ _ _,af _ _⟩
  · obtain⟨a,rfl⟩:∃ a,A=some a:=by cases A with
      | none=>exact absurd rfl h
      | some a=>exact⟨a,rfl⟩
    have hg:=World.grownBy_alloc w (.cells #[] 5) none
    have ho:am (w.alloc (.cells #[] 5)) w.heap.size 5 1 (some ⟨w.heap.size,0,none⟩) 0 0 []:=⟨rfl,.inr ⟨w.heap.size,0,#[],rfl,Nat.le_refl _,heap_alloc_new w _,Nat.le_refl _,Nat.zero_le _,rfl,rfl⟩⟩
    obtain⟨A',n',c',w',h1,h2,h3,h4,_⟩:=ho.appends (ty:=26) ve (by omega) (a:=a) (m:=n) (cc:=c) (us:=u8s l) (by simp[hn]) (fun j u hj=>by obtain⟨b,e1,e2⟩:=(hr.kept_none hg) j u hj;cases e1;exact e2) (fun u hu=>by obtain⟨x,_,rfl⟩:=List.mem_map.1 hu;rfl) (by omega) hg.size
    exact⟨A',n',c',w',h1,A',n',c',rfl,by simpa using h2,ax hg h4 ho.block_ge⟩
theorem qax{w:World}{base g:Nat}{bits:List Bool}(h:Wr w base g bits)(hl:bits.length<=2^40):Calls P 109 #[.pointer (some ⟨g,0,none⟩)] w fun ev w'=>∃(A':Option Addr)(n' c':Nat),ev=.returned (.slice A' n' c')/\am w' w.heap.size 5 1 A' n' c' (u8s (fz bits))/\w.grownBy w' none:=by
 obtain⟨A,n,c,h⟩:=h
 apply vc109;dsimp only[VC109,Wt,Br,Bb,Rd,Rc,Rs,Ix,rI_,rB_,rS_]
 refine⟨_,rfl,_,_,_,aa h.blk 0,?_⟩
 refine(jt h.row.row (by have:=h.row.cases.1;rw[List.length_map]at this;omega) (by rw[bo];omega)).mono fun ev w' hh=>?_
 obtain⟨A',n',c',e,h1,h2⟩:=hh
 exact⟨_,_,_,e,_,_,_,rfl,h1,h2⟩
def uh(bs:List Bool):Int:=bs.foldl (fun v b=>2*v+b2i b) 0
theorem qbk(bs:List Bool)(b:Bool):uh (bs++[b])=2*uh bs+b2i b:=by simp[uh]
theorem qcv(bs:List Bool):0<=uh bs/\uh bs<2^bs.length:=by
 refine qhp (P:=fun bs=>0<=uh bs/\uh bs<2^bs.length) (by simp[uh]) ?_ bs
 intro l b ih
 have:=jn b
 rw[qbk,List.length_append,List.length_singleton,pow_succ']
 omega
theorem bit_u8{v:Int}(h0:0<=v)(h:v<=255){i:Nat}(hi:i<=7):bop .and .u8 (v / 2^(min i 8)) 1=b2i (rh v i):=by
 have e:min i 8=i:=by omega
 have hp:=fg i
 have hd:0<=v / 2^i:=Int.ediv_nonneg h0 (Int.le_of_lt hp)
 have hd2:v / 2^i<=v:=Int.ediv_le_self (2^i) h0
 rw[e,qqw hd (by omega)]
 unfold rh b2i
 have:=Int.emod_nonneg (v / 2^i) (show(2:Int)≠0 by omega)
 have:=Int.emod_lt_of_pos (v / 2^i) (show(0:Int)<2 by omega)
 by_cases h1:v / 2^i % 2=1
 ·simp[h1]
 ·have h2:v / 2^i % 2=0:=by omega
  simp[h2]
structure yg(w:World)(g:Nat)(A:Option Addr)(n c:Nat)(l:List Int)(at_:Nat):Prop where
 blk:w.heap[g]?=some (.cells #[.slice A n c,.int .i64 (at_:Int)] 240 (0,0))
 row:Row w A (u8s l)
 len:n=l.length
 le:at_<=8*l.length
 ne:∀ a,A=some a->l=[]∨a.block≠g
theorem yg.kp{w w':World}{S:Nat->Prop}{g:Nat}{A:Option Addr}{n c:Nat}{l:List Int}{at_:Nat}(h:yg w g A n c l at_)(hk:Kp w w' S)(h1:¬ S g)(h2:∀ a,A=some a->l=[]∨¬ S a.block):yg w' g A n c l at_ :=
 ⟨by rw[hk.block g (Array.getElem?_eq_some_iff.1 h.blk).1 h1];exact h.blk,h.row.kpE hk (fun a ha=>(h2 a ha).imp (fun e=>by rw[e];rfl) id),h.len,h.le,h.ne⟩
theorem yg.kept{w w':World}{g:Nat}{A:Option Addr}{n c:Nat}{l:List Int}{at_:Nat}(h:yg w g A n c l at_)(hg:w.grownBy w' none):yg w' g A n c l at_ :=
 h.kp (S:=fun _=>False) (Kp.of_none hg) (fun h=>h) (fun _ _=>.inr (fun h=>h))
theorem qjt{w:World}{g:Nat}{A:Option Addr}{n c:Nat}{l:List Int}{at_:Nat}(h:yg w g A n c l at_)(hl:l.length<=2^40):
    Calls P 185 #[.pointer (some ⟨g,0,none⟩)] w fun ev w'=>ev=.returned (.int .i64 ((8*l.length-at_:Nat):Int))/\w.grownBy w' none:=by
  apply vc185;dsimp only[VC185,Wt,Br,Bb,Rd,Rc,Rs,Ix,rI_,rB_,rS_]
  try simp only[InK]
  have hb:w.drew.heap[g]?=some (.cells #[.slice A n c,.int .i64 (at_:Int)] 240 (0,0)):=h.blk
  have h1:=h.len
  have h2:=h.le
  refine⟨_,rfl,_,_,_,aa hb 0,by omega,_,rfl,_,by rw[au];exact aa hb 1,by omega,?_,aj (af _ _)⟩
  congr 2;omega
theorem qo {w:World} {g:Nat} {A:Option Addr} {n c:Nat} {l:List Int} {at_:Nat} {k:Nat} (h:yg w g A n c l at_) (hl:l.length<=2^40) (hb:∀ x∈l,0<=x/\x<=255) (hk:k<=64) :
    Calls P 166 #[.pointer (some ⟨g,0,none⟩),.int .i64 (k:Int)] w fun ev w'=>Kp w w' (fun q=>q=g) ∧
      ((at_+k<=8*l.length/\ev=.returned (.tuple #[.int .u64 (uh (((bg l).drop at_).take k)),.bool true])/\yg w' g A n c l (at_+k)) ∨
       (8*l.length<at_+k/\ev=.returned (.tuple #[.int .u64 0,.bool false])/\yg w' g A n c l at_)):=by
  apply vc166;dsimp only[VC166,Wt,Br,Bb,Rd,Rc,Rs,Ix,rI_,rB_,rS_]
  refine qa1 ⟨_,rfl,?_⟩
  rw[qiv hk]
  refine(qjt h hl).mono fun ev w0 hh=>?_
  obtain⟨rfl,hg0⟩:=hh
  simp only[InK]
  refine⟨_,rfl,?_⟩
  have h1:=h.len
  have h2:=h.le
  refine⟨fun hlt=>⟨Kp.of_none hg0,.inr ⟨by omega,by first | trivial | rfl,h.kept hg0⟩⟩,fun hge=>?_⟩
  have hfit:at_+k<=8*l.length:=by omega
  refine⟨fun m v x w1=>∃ j:Nat,x=(j:Int)/\j<=k/\m=k-j/\v=uh (((bg l).drop at_).take j)/\yg w1 g A n c l (at_+j)/\Kp w w1 (fun q=>q=g),⟨_,0,rfl,by omega,rfl,rfl,h.kept hg0,Kp.of_none hg0⟩,?_⟩
  rintro m v x w1 ⟨j,rfl,hj,rfl,rfl,hr,hk1⟩
  have hul:(bg l).length=8*l.length:=dw l
  refine⟨fun hlt=>?_,fun hge=>?_⟩
  · have ljk:j<k:=by omega
    have hbd:w1.drew.heap[g]?=some (.cells #[.slice A n c,.int .i64 ((at_+j:Nat):Int)] 240 (0,0)):=hr.blk
    have c1:w1.drew.cell? ((⟨g,0,none⟩:Addr).add 1)=some (.int .i64 ((at_+j:Nat):Int)):=by rw[au];exact aa hbd 1
    have e8:((at_+j:Nat):Int) / 8=(((at_+j) / 8:Nat):Int):=by omega
    have m8:((at_+j:Nat):Int) % 8=(((at_+j) % 8:Nat):Int):=by omega
    have t8:(((at_+j) / 8:Nat):Int).toNat=(at_+j) / 8:=by omega
    have tm8:(((at_+j) % 8:Nat):Int).toNat=(at_+j) % 8:=by omega
    have lb:(at_+j) / 8<l.length:=by omega
    obtain⟨a,ha1,ha2⟩:=hr.row ((at_+j) / 8) (.int .u8 l[(at_+j) / 8]) (by simp[lb])
    have hxb:=hb _ (List.getElem_mem lb)
    have hbit:=bit_u8 hxb.1 hxb.2 (show(at_+j) % 8<=7 by omega)
    have hbat:rh l[(at_+j) / 8] ((at_+j) % 8)=jd l (at_+j):=by simp[jd,List.getD_eq_getElem?_getD,lb]
    rw[hbat]at hbit
    have hv:=qcv (((bg l).drop at_).take j)
    have hlj:(((bg l).drop at_).take j).length=j:=by simp;omega
    rw[hlj]at hv
    have hp63:(2:Int)^j<=2^63:=by
      have e1:((2^j:Nat):Int)=2^j:=by simp
      have e2:((2^63:Nat):Int)=2^63:=by simp
      have:=Nat.pow_le_pow_right (n:=2) (by omega) (show j<=63 by omega)
      omega
    have hb01:=jn (jd l (at_+j))
    have hor:=or_u64 hv.1 hb01 (by omega)
    have hnext:(((bg l).drop at_).take (j+1))=(((bg l).drop at_).take j)++[jd l (at_+j)]:=by
      have lt:j<((bg l).drop at_).length:=by simp;omega
      rw[List.take_succ_eq_append_getElem lt]
      congr 1
      simp[bg]
    refine⟨by omega,_,rfl,_,_,_,aa hbd 0,_,rfl,_,c1,by omega,?_⟩
    rw[e8,t8]
    refine⟨a,ha1,by omega,by omega,_,ha2,_,rfl,_,c1,by omega,?_⟩
    rw[m8,tm8,hbit,hor]
    refine⟨by omega,by omega,_,rfl,_,c1,by omega,_,rfl,⟨_,c1⟩,by rw[au];exact ae hbd 1,by omega,k-(j+1),by omega,j+1,by omega,by omega,rfl,?_,?_,hk1.drew.set (.inr (aq _ _)) _⟩
    · rw[hnext,qbk]
    · have hne:∀ a,A=some a->l=[]∨¬ (a.block=g):=hr.ne
      refine⟨?_,?_,hr.len,by omega,hr.ne⟩
      · have:=ah hbd 1 (.int .i64 (((at_+j:Nat):Int)+1))
        rw[au,show((at_+(j+1):Nat):Int)=((at_+j:Nat):Int)+1 by omega]
        simpa using this
      · refine hr.row.kpE (S:=fun q=>q=g) ((Kp.refl w1 (fun q=>q=g)).drew.set (.inr (aq _ _)) _) fun a ha=>(hne a ha).imp (fun e=>by rw[e];rfl) id
  · have:j=k:=by omega
    subst this
    exact⟨hk1,.inl ⟨hfit,by first | trivial | rfl,hr⟩⟩
def qa8(l:List Int):ByteArray:=l.foldl (fun r n=>r.push (UInt8.ofNat n.toNat)) ByteArray.empty
theorem du{w:World}{A:Option Addr}{n c:Nat}{l:List Int}(hr:Row w A (u8s l))(hn:n=l.length):Sem.run P (Go.convert 26 9 (.slice A n c)) w=.ok (.string (qa8 l)) w:=by
 rw[run_convert_bytes_string w 26 9 5 A n c (by kernel_rfl) (by kernel_rfl) (by kernel_rfl)]
 cases A with
 | none =>
  have:l=[]:=by
   cases l with
   | nil=>rfl
   | cons x l=>obtain⟨a,e,_⟩:=hr 0 _ rfl;cases e
  subst this
  rfl
 | some a =>
  have hl:=run_loadCells_list (P:=P) w a (u8s l) (fun j v hj=>by obtain⟨b,e1,e2⟩:=hr j v hj;cases e1;exact e2)
  rw[List.length_map,← hn]at hl
  exact run_bytesToString w a n c l hl
theorem qi8(l:List Int):∀ r:ByteArray,(l.foldl (fun r n=>r.push (UInt8.ofNat n.toNat)) r).data.toList=r.data.toList++l.map fun n=>UInt8.ofNat n.toNat:=by
 induction l with
 | nil=>simp
 | cons x l ih=>intro r;rw[List.foldl_cons,ih];simp[ByteArray.push]
theorem qbq(l:List Int):(qa8 l).data.toList=l.map fun n=>UInt8.ofNat n.toNat:=by
 rw[qa8,qi8];rfl
theorem qec{l m:List Int}(hl:∀ x∈l,0<=x/\x<=255)(hm:∀ x∈m,0<=x/\x<=255)(h:qa8 l=qa8 m):l=m:=by
 have h1:=qbq l
 rw[h,qbq]at h1
 have key:∀ x:Int,0<=x/\x<=255->((UInt8.ofNat x.toNat).toNat:Int)=x:=by
  intro x hx
  rw[UInt8.toNat_ofNat']
  omega
 have h2:=congrArg (List.map fun b:UInt8=>(b.toNat:Int)) h1
 rw[List.map_map,List.map_map]at h2
 have e:∀ q:List Int,(∀ x∈q,0<=x/\x<=255)->q.map ((fun b:UInt8=>(b.toNat:Int)) ∘ fun n:Int=>UInt8.ofNat n.toNat)=q:=by
  intro q hq
  conv=>rhs;rw[← List.map_id q]
  apply List.map_congr_left
  intro x hx
  exact key x (hq x hx)
 rw[e l hl,e m hm]at h2
 exact h2.symm
theorem qiu(a b:ByteArray):(a.toList ==b.toList)=decide (a=b):=by
 rw[ByteArray.toList_eq,ByteArray.toList_eq,Bool.eq_iff_iff,beq_iff_eq,decide_eq_true_iff]
 constructor
 ·intro h
  cases a;cases b
  simp at h
  rw[h]
 ·intro h;rw[h]
theorem qhr(s t:Operand)(x y:ByteArray)(w:World):Sem.run P (do eqGuard .neq 9 s t (.string x) (.string y);Go.binOp .neq 9 (.string x) (.string y):Sem Value) w=.ok (.bool (!decide (x=y))) w:=by
 rw[← qiu]
 simp[eqGuard_at_string,binOp_string_neq]
theorem qc1(s t:Operand)(x y:ByteArray)(w:World):Sem.run P (do eqGuard .eql 9 s t (.string x) (.string y);Go.binOp .eql 9 (.string x) (.string y):Sem Value) w=.ok (.bool (decide (x=y))) w:=by
 rw[← qiu]
 simp[eqGuard_at_string,binOp_string_eql]
end Go.Proofs.YtlieaecnllkefaaGreat
