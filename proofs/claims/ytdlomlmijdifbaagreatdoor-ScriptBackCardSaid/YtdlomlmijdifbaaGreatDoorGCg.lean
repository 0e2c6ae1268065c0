/- Own texts, packed: M1, M2, M3, KM, MV, MW, M4, M5. -/
import Derived.Test.YtdlomlmijdifbaaGreatDoorGAg
import Derived.Below
import Derived.Laws.AppendOwn
import Derived.Laws.OwnMore
import Derived.Maps.AppendAt
import Derived.Test.YtdlomlmijdifbaaGreatDoorGBg
import Derived.DeepKeys5
import Derived.WideKeyPair
import Derived.MapFrom
import Derived.Maps.Keyed
import Derived.Maps.RangeRun
import Derived.Laws.CopyRow
/-! Rows in memory that a call owns, read and written cell by cell; what a world keeps. No program. -/
set_option linter.unusedVariables false
set_option linter.unusedSimpArgs false
set_option linter.unusedSectionVars false
namespace Go.V
open Go Go.RowKit
def Own(w:World)(g:Nat)(e:TypeId)(cap:Nat)(xs:List Value):Prop :=
 ∃ cur:Array Value,w.heap[g]?=some (.cells cur e (0,0))/\cur.size=cap/\∃ t,cur.toList=xs++t
def bF(w:World)(A:OA)(xs:List Value):Prop:=∀ j u,xs[j]?=some u->∃ a,A=some a/\w.cell? (a.add j)=some u
theorem rV(a:Addr)(n:Nat):(a.add n).block=a.block:=by unfold Addr.add;split <;>rfl
theorem aS(g j:Nat):(⟨g,0,none⟩:Addr).add j=⟨g,j,none⟩:=by unfold Addr.add;split <;>simp_all
theorem aF(w:World)(r:Option Nat):w.grownBy w r:=⟨rfl,rfl,rfl,Nat.le_refl _,fun _ _ _=>rfl⟩
theorem aB{a b c:World}{r:Option Nat}(h:a.grownBy b r)(k:b.grownBy c r):a.grownBy c r :=
 ⟨k.os.trans h.os,k.tape.trans h.tape,k.output.trans h.output,Nat.le_trans h.size k.size,fun i hi hr=>(k.block i (Nat.lt_of_lt_of_le hi h.size) hr).trans (h.block i hi hr)⟩
theorem yA{a b:World}{r:Option Nat}(h:a.grownBy b none):a.grownBy b r:=⟨h.os,h.tape,h.output,h.size,fun i hi _=>h.block i hi (by simp)⟩
theorem aG{a b:World}{r:Option Nat}(h:a.grownBy b r):a.grownBy b.drew r:=⟨h.os,h.tape,h.output,h.size,h.block⟩
theorem eH{a b:World}{r:Option Nat}(h:a.grownBy b r)(o:Obj):a.grownBy (b.alloc o) r:=aB h (World.grownBy_alloc b o r)
theorem wL{B:Nat}{a b:World}{r:Option Nat}(h:a.grownBy b r)(hB:B<=a.heap.size)(hr:∀ k,r=some k->B<=k):Below B a b :=
 (Below.refl B a).grown h hB hr
section
variable {w w' : World} {g : Nat} {e : TypeId} {cap : Nat} {xs : List Value}
theorem Own.of_ownsRow{base n:Nat}(h:w.ownsRow base e 1 (.slice (some ⟨g,0,none⟩) n cap) n xs):Own w g e cap xs/\base<=g/\cap<=maxLen/\n=xs.length:=by
 obtain⟨h1,h2⟩:=h;rcases h2 with⟨h2,_⟩ | ⟨g',cap',cur,h2,hb,hh,hn,hc,hs,ht⟩
 ·cases h2
 ·cases h2;refine⟨⟨cur,hh,by simpa using hs,cur.toList.drop (n*1),?_⟩,hb,hc,by omega⟩;rw[← ht,List.take_append_drop]
def pL(w:World)(base:Nat)(e:TypeId)(A:OA)(n c:Nat)(xs:List Value):Prop:=w.ownsRow base e 1 (.slice A n c) n xs
theorem bF.nil(w:World)(A:OA):bF w A []:=fun j u hj=>by simp at hj
theorem bF.kept{A:OA}{r:Option Nat}(h:bF w A xs)(hg:w.grownBy w' r)(hr:∀ a,A=some a->some a.block≠r):bF w' A xs:=fun j u hj=>by
 obtain⟨a,h1,h2⟩:=h j u hj;refine⟨a,h1,hg.cell h2 ?_⟩;rw[rV];exact hr a h1
theorem bF.kept_none{A:OA}(h:bF w A xs)(hg:w.grownBy w' none):bF w' A xs:=h.kept hg (by simp)
theorem dD(a:Addr)(i j:Nat):(a.add i).add j=a.add (i+j):=by
 unfold Addr.add;by_cases hi:i=0
 ·simp[hi]
 ·by_cases hj:j=0
  ·simp[hi,hj]
  ·simp[hi,hj,Nat.add_assoc]
theorem bF.drop{A:OA}(h:bF w A xs)(k:Nat):bF w (A.map (·.add k)) (xs.drop k):=fun j u hj=>by
 rw[List.getElem?_drop]at hj;obtain⟨a,h1,h2⟩:=h _ _ hj;refine⟨a.add k,by rw[h1];rfl,?_⟩;rw[dD];exact h2
end
end Go.V
/-! Rows that a call builds: one member more; a row made. No program. -/
namespace Go.V
open Go Go.RowKit
structure CS(P:Program)(t e:TypeId)(z:Value)(bytes:Nat):Prop where
 ex:∃ i:TypeInfo,P.underlying t=some (.slice e)/\P.info? e=some i/\i.zero=some z/\i.size=1/\i.bytes=bytes/\z.cells=#[z]
section
variable {P : Program} {w0 w : World} {base : Nat} {e t ty : TypeId} {A : OA} {n c : Nat} {xs : List Value} {z : Value} {bytes : Nat}
theorem bI{r:Option Nat}{w1 w2:World}(h:w0.grownBy w1 none)(hg:w1.grownBy w2 r)(hr:∀ k,r=some k->w0.heap.size<=k):w0.grownBy w2 none :=
 ⟨hg.os.trans h.os,hg.tape.trans h.tape,hg.output.trans h.output,Nat.le_trans h.size hg.size,fun k hk _ =>
  (hg.block k (Nat.lt_of_lt_of_le hk h.size) (fun e=>by have:=hr k e.symm;omega)).trans (h.block k hk (by simp))⟩
theorem pL.block_ge(h:pL w base e A n c xs):∀ k,(Value.slice A n c).ownBlock=some k->base<=k:=fun k hk=>(World.ownsRow.lt h k hk).1
theorem pL.appends(hE:CS P t e z bytes)(hb:bytes<=64)(h:pL w base e A n c xs){a:Addr}{m cc:Nat}{us:List Value}(hm:us.length=m)(ha:∀ j u,us[j]?=some u->w.cell? (a.add j)=some u)(hu:∀ u∈us,u.oneCell'=true)(hn:n+m<=2^40)(EA:base<=w.heap.size):
    ∃(A':OA)(n' c':Nat)(w':World),Sem.run P (Builtin.append_ #[t,t] ty #[.slice A n c,.slice (some a) m cc]) w=.ok (.slice A' n' c') w'/\pL w' base e A' n' c' (xs++us)/\w.grownBy w' (Value.slice A n c).ownBlock:=by
  obtain⟨i,h1,h2,h3,h4,h5,h6⟩:=hE.ex;have FV:(n+m)*bytes<=2^40*64:=Nat.mul_le_mul hn hb;obtain⟨v',w',hr,ho,hg,_⟩:=run_append_own (P:=P) w base t ty e i z 1 bytes h1 h2 h3 h4 h5 (by rw[h6];rfl) (by omega) _ n xs h a m cc us (by omega) ha hu (by simp only[maxLen];omega) (by omega) EA;rcases ho.2 with⟨rfl,hz⟩ | ⟨g,cap,cur,rfl,r⟩
  · have Fe:=ho;rw[hz]at Fe;exact⟨_,_,_,w',hr,Fe,hg⟩
  · exact⟨_,_,_,w',hr,ho,hg⟩
theorem Bw(hE:CS P t e z bytes)(hb:bytes<=64){m:Nat}(hm:m<=2^40):
    ∃ w',Sem.run P (Instr.makeSlice t (.int .i64 (m:Int)) (.int .i64 (m:Int))) w=.ok (.slice (some ⟨w.heap.size,0,none⟩) m m) w'/\Own w' w.heap.size e m (List.replicate m z)/\w.grownBy w' none:=by
  obtain⟨i,h1,h2,h3,h4,h5,h6⟩:=hE.ex;have FV:bytes*m<=64*2^40:=Nat.mul_le_mul hb hm;obtain⟨w',hr,ho,hg⟩:=run_make_full (P:=P) w w.heap.size t e i z 1 h1 h2 h3 h4 .i64 .i64 m (by rw[h5];omega) (by simp only[maxLen];omega) (Nat.le_refl _);rw[h6,toList_madeCells_one,Nat.mul_one]at ho;exact⟨w',hr,(Own.of_ownsRow ho).1,hg⟩
end
end Go.V
/-! Rows of elements of several cells: read, appended to. No program. -/
namespace Go.V
open Go Go.RowKit
def aE(w:World)(base:Nat)(e:TypeId)(size:Nat)(A:OA)(n c:Nat)(xs:List Value):Prop:=w.ownsRow base e size (.slice A n c) n xs
structure lS(P:Program)(t e:TypeId)(size bytes:Nat):Prop where
 ex:∃(i:TypeInfo)(z:Value),P.underlying t=some (.slice e)/\P.info? e=some i/\i.zero=some z/\i.size=size/\i.bytes=bytes/\z.cells.size=size/\0<size
section
variable {P : Program} {w0 w w' : World} {base size : Nat} {e t ty : TypeId} {A : OA} {n c : Nat} {xs : List Value} {bytes : Nat}
theorem aE.nil(w:World)(base:Nat)(e:TypeId)(size:Nat):aE w base e size none 0 0 []:=World.ownsRow_nil _ _ _ _
theorem aE.cases(h:aE w base e size A n c xs):xs.length=n*size/\((A=none/\n=0/\c=0/\xs=[])∨∃(g:Nat)(cur:Array Value),A=some ⟨g,0,none⟩/\base<=g/\c<=maxLen/\n<=c/\w.heap[g]?=some (.cells cur e (0,0))/\cur.size=c*size/\cur.toList.take (n*size)=xs):=by
 obtain⟨h1,h2⟩:=h;refine⟨h1,?_⟩;rcases h2 with⟨h2,h3⟩ | ⟨g',cap',cur,h2,hb,hh,hn,hc,hs,ht⟩
 ·cases h2;exact .inl ⟨rfl,rfl,rfl,List.eq_nil_of_length_eq_zero (by simpa using h1)⟩
 ·cases h2;exact .inr ⟨g',cur,rfl,hb,hc,hn,hh,hs,ht⟩
theorem aE.row(h:aE w base e size A n c xs):bF w A xs:=by
 intro j u hj;obtain⟨h1,h2 | ⟨g,cur,rfl,_⟩⟩:=h.cases
 ·obtain⟨_,_,_,rfl⟩:=h2;simp at hj
 ·exact⟨_,rfl,World.ownsRow.cells h (g:=g) rfl j u hj⟩
theorem aE.kept(h:aE w base e size A n c xs)(hg:w.grownBy w' none):aE w' base e size A n c xs:=World.ownsRow.kept h hg (by cases h:(Value.slice A n c).ownBlock <;>simp)
theorem aE.apart{r:Option Nat}(h:aE w base e size A n c xs)(hg:w.grownBy w' r)(hr:(Value.slice A n c).ownBlock=none∨(Value.slice A n c).ownBlock≠r):aE w' base e size A n c xs:=World.ownsRow.kept h hg hr
theorem aE.mono{base':Nat}(h:aE w base e size A n c xs)(hb:base'<=base):aE w base' e size A n c xs:=by
 obtain⟨h1,h2⟩:=h;refine⟨h1,h2.imp id ?_⟩;rintro⟨g',cap',cur,h2,Fo,r⟩;exact⟨g',cap',cur,h2,by omega,r⟩
theorem aE.block_ge(h:aE w base e size A n c xs):∀ k,(Value.slice A n c).ownBlock=some k->base<=k:=fun k hk=>(World.ownsRow.lt h k hk).1
theorem aE.block_lt(h:aE w base e size A n c xs):∀ k,(Value.slice A n c).ownBlock=some k->k<w.heap.size:=fun k hk=>(World.ownsRow.lt h k hk).2
theorem aE.block_type(h:aE w base e size A n c xs):∀ k,(Value.slice A n c).ownBlock=some k->∃ cur,w.heap[k]?=some (.cells cur e (0,0)):=by
 intro k hk;obtain⟨_,h2 | ⟨g,cur,rfl,_,_,_,hh,_⟩⟩:=h.cases
 ·obtain⟨rfl,_⟩:=h2;simp[Value.ownBlock]at hk
 ·simp[Value.ownBlock]at hk;subst hk;exact⟨cur,hh⟩
theorem aE.appends(hE:lS P t e size bytes)(hb:bytes<=64)(h:aE w base e size A n c xs){a:Addr}{m cc:Nat}{us:List Value}(hm:us.length=m*size)(ha:∀ j u,us[j]?=some u->w.cell? (a.add j)=some u)(hu:∀ u∈us,u.oneCell'=true)(hn:n+m<=2^40)(EA:base<=w.heap.size):
    ∃ (A':OA) (n' c':Nat) (w':World),Sem.run P (Builtin.append_ #[t,t] ty #[.slice A n c,.slice (some a) m cc]) w=.ok (.slice A' n' c') w'/\aE w' base e size A' n' c' (xs++us)/\n'=n+m/\w.grownBy w' (Value.slice A n c).ownBlock ∧
      ((Value.slice A' n' c').ownBlock=(Value.slice A n c).ownBlock∨(Value.slice A' n' c').ownBlock=some w.heap.size):=by
  obtain⟨i,z,h1,h2,h3,h4,h5,h6,h7⟩:=hE.ex;have FV:(n+m)*bytes<=2^40*64:=Nat.mul_le_mul hn hb;obtain⟨v',w',hr,ho,hg,_,IL⟩:=run_append_own_at (P:=P) w base t ty e i z size bytes h1 h2 h3 h4 h5 h6 h7 _ n xs h a m cc us hm ha hu (by simp only[maxLen];omega) (by omega) EA;rcases ho.2 with⟨rfl,hz⟩ | ⟨g,cap,cur,rfl,r⟩
  · have Fe:=ho;rw[hz]at Fe;exact⟨_,_,_,w',hr,Fe,hz.symm,hg,IL⟩
  · exact⟨_,_,_,w',hr,ho,rfl,hg,IL⟩
theorem aE.appends_nil(hE:lS P t e size bytes)(h:aE w base e size A n c xs):Sem.run P (Builtin.append_ #[t,t] ty #[.slice A n c,.slice none 0 0]) w=.ok (.slice A n c) w:=by
 obtain⟨i,z,h1,h2,h3,h4,h5,h6,h7⟩:=hE.ex;exact run_append_owned_none (P:=P) w base t ty e i size h1 h2 _ _ _ h
end
end Go.V
/-! What a world keeps beside some blocks; blocks of a few cells; bits by and, or. No program. -/
namespace Go.V
open Go Go.RowKit
structure Kp(w w':World)(S:Nat->Prop):Prop where
 os:w'.os=w.os
 tape:w'.tape=w.tape
 output:w'.output=w.output
 size:w.heap.size<=w'.heap.size
 block:∀ k,k<w.heap.size->¬ S k->w'.heap[k]?=w.heap[k]?
section
variable {w w' w'' : World} {S S' : Nat → Prop}
theorem Kp.refl(w:World)(S:Nat->Prop):Kp w w S:=⟨rfl,rfl,rfl,Nat.le_refl _,fun _ _ _=>rfl⟩
theorem Kp.trans(h:Kp w w' S)(h':Kp w' w'' S):Kp w w'' S :=
 ⟨h'.os.trans h.os,h'.tape.trans h.tape,h'.output.trans h.output,Nat.le_trans h.size h'.size,fun k hk hS=>(h'.block k (Nat.lt_of_lt_of_le hk h.size) hS).trans (h.block k hk hS)⟩
theorem Kp.mono(h:Kp w w' S)(hS:∀ k,k<w.heap.size->S k->S' k):Kp w w' S':=⟨h.os,h.tape,h.output,h.size,fun k hk hn=>h.block k hk (fun e=>hn (hS k hk e))⟩
theorem Kp.of_grown{r:Option Nat}(h:w.grownBy w' r):Kp w w' (fun k=>some k=r):=⟨h.os,h.tape,h.output,h.size,fun k hk hn=>h.block k hk hn⟩
theorem Kp.of_none(h:w.grownBy w' none):Kp w w' S:=⟨h.os,h.tape,h.output,h.size,fun k hk hn=>h.block k hk (by simp)⟩
theorem Kp.grown(h:Kp w w' S)(hS:∀ k,k<w.heap.size->¬ S k):w.grownBy w' none:=⟨h.os,h.tape,h.output,h.size,fun k hk _=>h.block k hk (hS k hk)⟩
theorem Kp.set(h:Kp w w' S){p:Addr}(hp:w.heap.size<=p.block∨S p.block)(u:Value):Kp w (w'.setCell p u) S:=by
 refine⟨h.os,h.tape,h.output,by simpa using h.size,fun k hk hn=>?_⟩;rw[Below.heap_setCell _ _ _ _ (fun e=>by subst e;exact hp.elim (fun h=>by omega) hn)];exact h.block k hk hn
theorem Kp.alloc(h:Kp w w' S)(o:Obj):Kp w (w'.alloc o) S:=h.trans (Kp.of_none (World.grownBy_alloc w' o none))
theorem Kp.step{r:Option Nat}(h:Kp w w' S)(hg:w'.grownBy w'' r)(hr:∀ k,r=some k->w.heap.size<=k∨S k):Kp w w'' S:=by
 refine⟨hg.os.trans h.os,hg.tape.trans h.tape,hg.output.trans h.output,Nat.le_trans h.size hg.size,fun k hk hn=>?_⟩;refine(hg.block k (Nat.lt_of_lt_of_le hk h.size) (fun e=>?_)).trans (h.block k hk hn);rcases hr k e.symm with h1 | h1
 ·omega
 ·exact hn h1
theorem Kp.then(h:Kp w w' S)(h':Kp w' w'' S')(hS:∀ k,k<w.heap.size->S' k->S k):Kp w w'' S :=
 ⟨h'.os.trans h.os,h'.tape.trans h.tape,h'.output.trans h.output,Nat.le_trans h.size h'.size,fun k hk hn=>(h'.block k (Nat.lt_of_lt_of_le hk h.size) (fun e=>hn (hS k hk e))).trans (h.block k hk hn)⟩
theorem bF.kp{A:OA}{xs:List Value}(h:bF w A xs)(hk:Kp w w' S)(hS:∀ a,A=some a->a.block<w.heap.size->¬ S a.block):bF w' A xs:=by
 intro j u hj;obtain⟨a,h1,h2⟩:=h j u hj;refine⟨a,h1,?_⟩;have hb:(a.add j).block=a.block:=rV a j;have Dp:a.block<w.heap.size:=by
  unfold World.cell? at h2;rw[hb]at h2;cases e:w.heap[a.block]? with
  | none=>rw[e]at h2;simp at h2
  | some o=>exact(Array.getElem?_eq_some_iff.1 e).1
 rw[← h2];unfold World.cell?;rw[hb,hk.block _ Dp (hS a h1 Dp)]
end
section
variable {w : World} {g : Nat} {cur : Array Value} {t : TypeId} {fr : Nat × Nat}
theorem aA(h:w.heap[g]?=some (.cells cur t fr))(j:Nat):w.cell? ⟨g,j,none⟩=cur[j]?:=by simp[World.cell?,h]
theorem aH(h:w.heap[g]?=some (.cells cur t fr))(j:Nat)(u:Value):(w.setCell ⟨g,j,none⟩ u).heap[g]?=some (.cells (cur.setIfInBounds j u) t fr):=by
 simp[World.setCell,Array.getElem?_modify,h]
theorem aC(h:w.heap[g]?=some (.cells cur t (0,0)))(j:Nat):w.frozen? ⟨g,j,none⟩=false:=by simp[World.frozen?,h]
end
theorem aE.kp{w w':World}{S:Nat->Prop}{base size n c:Nat}{e:TypeId}{A:OA}{xs:List Value}(h:aE w base e size A n c xs)(hk:Kp w w' S)(h2:∀ k,(Value.slice A n c).ownBlock=some k->¬ S k):aE w' base e size A n c xs:=by
 obtain⟨e1,e2⟩:=h;refine⟨e1,e2.imp id ?_⟩;rintro⟨q,cap,cur,e3,e4,e5,r⟩;have hq:(Value.slice A n c).ownBlock=some q:=by rw[e3];simp[Value.ownBlock]
 exact⟨q,cap,cur,e3,e4,by rw[hk.block q (Array.getElem?_eq_some_iff.1 e5).1 (h2 q hq)];exact e5,r⟩
theorem qT{b x:Nat}(h:x<2^b):(BitVec.ofInt b (x:Int)).toNat=x:=by
 rw[BitVec.toNat_ofInt];have:((x:Int) % (2^b:Nat))=((x % 2^b:Nat):Int):=by omega
 rw[this,Nat.mod_eq_of_lt h];omega
theorem C7{x c j:Nat}(h:x<2^j):x ||| c*2^j=x+c*2^j:=by
 rw[Nat.or_comm,Nat.mul_comm,← Nat.two_pow_add_eq_or_of_lt h];omega
end Go.V
/-! Maps in memory as lists of keys and values: looked up, written, struck. No program. -/
namespace Go.V
open Go Go.RowKit Go.MapKept
section
variable {κ υ : Type} [DecidableEq κ]
def fR(L:List (κ×υ))(k:κ):Option υ:=match L with
 | []=>none
 | p ::L=>if p.1=k then some p.2 else fR L k
def lZ(L:List (κ×υ))(k:κ)(v:υ):List (κ×υ):=match L with
 | []=>[(k,v)]
 | p ::L=>if p.1=k then(k,v) ::L else p ::lZ L k v
theorem mG{L:List (κ×υ)}{k:κ}:fR L k=none↔∀ p∈L,p.1≠k:=by
 induction L with
 | nil=>simp[fR]
 | cons p L ih =>
  unfold fR;by_cases h:p.1=k
  ·simp[h]
  ·simp[h,ih]
theorem vN{L:List (κ×υ)}(hn:(L.map Prod.fst).Nodup){k:κ}{v:υ}:fR L k=some v↔(k,v)∈L:=by
 induction L with
 | nil=>simp[fR]
 | cons p L ih =>
  have Ec:=List.nodup_cons.1 hn;unfold fR;by_cases h:p.1=k
  ·rw[if_pos h];constructor
   ·intro e;have:p=(k,v):=by rw[← h];cases p;simp at e ⊢;exact e
    rw[this];simp
   ·intro e;rcases List.mem_cons.1 e with e | e
    ·rw[← e]
    ·exact absurd (List.mem_map_of_mem (f:=Prod.fst) e) (by rw[h]at Ec;exact Ec.1)
  ·rw[if_neg h,ih Ec.2];constructor
   ·exact fun e=>List.mem_cons_of_mem _ e
   ·intro e;rcases List.mem_cons.1 e with e | e
    ·exact absurd (by rw[← e]) h
    ·exact e
theorem Am{L:List (κ×υ)}{k:κ}{v:υ}(h:fR L k=none):lZ L k v=L++[(k,v)]:=by
 induction L with
 | nil=>rfl
 | cons p L ih =>
  have h2:=mG.1 h;have hp:=h2 p (by simp);unfold fR at h;rw[if_neg hp]at h;simp[lZ,hp,ih h]
theorem qE(L:List (κ×υ))(k:κ)(v:υ):(lZ L k v).map Prod.fst=if fR L k=none then L.map Prod.fst++[k] else L.map Prod.fst:=by
 induction L with
 | nil=>simp[lZ,fR]
 | cons p L ih =>
  unfold lZ fR;by_cases h:p.1=k
  ·simp[h]
  ·rw[if_neg h,if_neg h,List.map_cons,ih];split <;>simp
theorem nT{L:List (κ×υ)}(hn:(L.map Prod.fst).Nodup)(k:κ)(v:υ):((lZ L k v).map Prod.fst).Nodup:=by
 rw[qE];split
 ·rename_i h;rw[List.nodup_append];refine⟨hn,by simp,?_⟩;intro a ha b hb e;obtain⟨p,hp,rfl⟩:=List.mem_map.1 ha;have:b=k:=by simpa using hb
  exact mG.1 h p hp (e.trans this)
 ·exact hn
theorem Cg{L:List (κ×υ)}(hn:(L.map Prod.fst).Nodup){j:Nat}{k:κ}{v u:υ}(h:L[j]?=some (k,u)):lZ L k v=L.set j (k,v):=by
 induction L generalizing j with
 | nil=>simp at h
 | cons p L ih =>
  have Ec:=List.nodup_cons.1 hn;cases j with
  | zero =>
   have:p=(k,u):=by simpa using h
   subst this;simp[lZ]
  | succ j =>
   have h':L[j]?=some (k,u):=by simpa using h
   have Dq:¬ p.1=k:=by
    intro e;exact Ec.1 (by rw[e];exact List.mem_map_of_mem (f:=Prod.fst) (List.mem_of_getElem? h'))
   simp[lZ,Dq,ih Ec.2 h']
structure CQ(P:Program)(kt:TypeId)(enc:κ->Value)(ok:κ->Prop):Prop where
 law:Maps.Keyed P kt
 key:∀ x,ok x->∃ l,keyOf P kt (enc x)=some l
 inj:∀ x y,enc x=enc y->x=y
def jO(es:Array MapEntry)(clock:Nat):Prop:=(∀ e∈es.toList,e.born<clock)/\(es.toList.map (·.born)).Nodup
theorem jO.push{es:Array MapEntry}{clock:Nat}(h:jO es clock)(k v:Value):jO (es.push ⟨k,v,clock⟩) (clock+1):=by
 refine⟨fun e he=>?_,?_⟩
 ·rw[Array.toList_push]at he;rcases List.mem_append.1 he with he | he
  ·have:=h.1 e he;omega
  ·have:e=⟨k,v,clock⟩:=by simpa using he
   rw[this];exact Nat.lt_succ_self _
 ·rw[Array.toList_push,List.map_append,List.nodup_append];refine⟨h.2,by simp,fun a ha b hb e=>?_⟩;obtain⟨x,hx,rfl⟩:=List.mem_map.1 ha;have:=h.1 x hx;have:b=clock:=by simpa using hb
  omega
theorem jO.of_born{es es':Array MapEntry}{clock:Nat}(h:jO es clock)(he:es'.toList.map (·.born)=es.toList.map (·.born)):jO es' clock:=by
 refine⟨fun e hx=>?_,by rw[he];exact h.2⟩;have:e.born∈es'.toList.map (·.born):=List.mem_map_of_mem (f:=fun e:MapEntry=>e.born) hx;rw[he]at this;obtain⟨x,hx,Gx⟩:=List.mem_map.1 this;rw[← Gx];exact h.1 x hx
def eD(enc:κ->Value)(ok:κ->Prop)(encv:υ->Value)(w:World)(b:Nat)(L:List (κ×υ)):Prop :=
 ∃(es:Array MapEntry)(clock:Nat),w.heap[b]?=some (.map es clock)/\es.toList.map (fun e=>(e.key,e.val))=L.map (fun p=>(enc p.1,encv p.2))/\(∀ p∈L,ok p.1)/\(L.map Prod.fst).Nodup/\jO es clock
variable {P : Program} {w w' : World} {mt kt et : TypeId} {enc : κ → Value} {ok : κ → Prop} {encv : υ → Value} {b : Nat} {L : List (κ × υ)}
theorem eD.made(w:World):eD enc ok encv (w.alloc (.map #[] 0)) w.heap.size ([]:List (κ×υ)):=⟨#[],0,(heap_alloc w _).1,by simp,by simp,by simp,by simp[jO]⟩
theorem eD.find(K:CQ P kt enc ok)(h:eD enc ok encv w b L){es:Array MapEntry}{clock:Nat}(hb:w.heap[b]?=some (.map es clock)){k:κ}(hk:ok k):
    ((Instr.findKey kt (enc k) es.toList).run P w=.ok none w/\fR L k=none)∨∃ j v,(Instr.findKey kt (enc k) es.toList).run P w=.ok (some (j,encv v)) w/\L[j]?=some (k,v)/\fR L k=some v/\∃ e,es[j]?=some e/\e.key=enc k:=by
  obtain⟨es',clock',h1,h2,h3,h4,_⟩:=h;rw[hb]at h1;cases h1;obtain⟨l,hl⟩:=K.key k hk;have all:∀ e∈es.toList,∃ l,keyOf P kt e.key=some l:=by
    intro e he;have:(e.key,e.val)∈L.map (fun p=>(enc p.1,encv p.2)):=by rw[← h2];exact List.mem_map_of_mem (f:=fun e:MapEntry=>(e.key,e.val)) he
    obtain⟨p,hp,EV⟩:=List.mem_map.1 this;simp only[Prod.mk.injEq]at EV;rw[← EV.1];exact K.key _ (h3 p hp)
  rcases K.law.find w hl es.toList all with⟨e1,e2⟩ | ⟨j,e,e1,e2,e3⟩
  · refine .inl ⟨e1,mG.2 fun p hp e=>?_⟩;have:(enc p.1,encv p.2)∈es.toList.map (fun e=>(e.key,e.val)):=by rw[h2];exact List.mem_map_of_mem (f:=fun p:κ×υ=>(enc p.1,encv p.2)) hp
    obtain⟨x,hx,Gx⟩:=List.mem_map.1 this;simp only[Prod.mk.injEq]at Gx;exact e2 x hx (by rw[Gx.1,e])
  · have hj:(L.map (fun p=>(enc p.1,encv p.2)))[j]?=some (e.key,e.val):=by rw[← h2,List.getElem?_map,e2];rfl
    rw[List.getElem?_map,Option.map_eq_some_iff]at hj;obtain⟨⟨k',v⟩,hL,hp⟩:=hj;simp only[Prod.mk.injEq]at hp;have:k'=k:=K.inj _ _ (hp.1.trans e3);subst this;exact .inr ⟨j,v,by rw[e1,hp.2],hL,(vN h4).2 (List.mem_of_getElem? hL),e,by simpa using e2,e3⟩
theorem eD.look(K:CQ P kt enc ok)(hm:P.underlying mt=some (.map kt et)){z:Value}(hz:(zeroValue et).run P w=.ok z w)(h:eD enc ok encv w b L){k:κ}(hk:ok k)(c:Bool):
    Sem.run P (Instr.lookup mt (.map (some b)) (enc k) c) w=.ok (if c then .tuple #[((fR L k).map encv).getD z,.bool (fR L k).isSome] else((fR L k).map encv).getD z) w:=by
  obtain⟨es,clock,hb,r⟩:=id h;obtain⟨l,hl⟩:=K.key k hk;have DK:=fun em=>K.law.check w em hl;rcases h.find K hb hk with⟨h1,h2⟩ | ⟨j,v,h1,h2,h3,_⟩
  · rw[h2];cases c <;>simp[Instr.lookup,run_underlying hm,MapKept.run_getObj_map hb,DK,h1,hz,Result.andThen]
  · rw[h3];cases c <;>simp[Instr.lookup,run_underlying hm,MapKept.run_getObj_map hb,DK,h1,Result.andThen]
theorem eD.update (K:CQ P kt enc ok) (hm:P.underlying mt=some (.map kt et)) (h:eD enc ok encv w b L) {k:κ} (hk:ok k) (v:υ) :
    ∃ w',Sem.run P (Instr.mapUpdate mt (.map (some b)) (enc k) (encv v)) w=.ok () w'/\eD enc ok encv w' b (lZ L k v)/\w.grownBy w' (some b):=by
  obtain⟨es,clock,hb,hL,DL,DZ,Gl⟩:=id h;obtain⟨l,hl⟩:=K.key k hk;have DK:=fun em=>K.law.check w em hl;have gr:∀ o,w.grownBy { w with heap:=w.heap.setIfInBounds b o } (some b):=fun o =>
    ⟨rfl,rfl,rfl,by simp,fun i hi hr=>by simp[Array.getElem?_setIfInBounds,show ¬ b=i from fun e=>hr (by rw[e])]⟩
  have ok':∀ p∈lZ L k v,ok p.1:=by
    intro p hp;have:p.1∈(lZ L k v).map Prod.fst:=List.mem_map_of_mem hp;rw[qE]at this;split at this
    · rcases List.mem_append.1 this with e | e
      · obtain⟨q,hq,e⟩:=List.mem_map.1 e;rw[← e];exact DL q hq
      · have:p.1=k:=by simpa using e
        rw[this];exact hk
    · obtain⟨q,hq,e⟩:=List.mem_map.1 this;rw[← e];exact DL q hq
  rcases h.find K hb hk with⟨h1,h2⟩ | ⟨j,u,h1,h2,h3,e,he,J4⟩
  · refine⟨_,by simp only[Instr.mapUpdate,Sem.run_bind,run_underlying hm,MapKept.run_getObj_map hb,DK,h1,Result.andThen];exact MapKept.run_setObj_map _ hb,⟨_,_,(heap_set hb).1,?_,ok',nT DZ k v,Gl.push _ _⟩,gr _⟩;rw[Am h2];simp[hL]
  · have Ih:=K.law.stays w hl;have Hu:((es[j]?).map (·.key)).getD (enc k)=enc k:=by rw[he];exact J4
    refine⟨_,by simp only[Instr.mapUpdate,Sem.run_bind,run_underlying hm,MapKept.run_getObj_map hb,DK,h1,Result.andThen,Hu,Ih];exact MapKept.run_setObj_map _ hb,⟨_,_,(heap_set hb).1,?_,ok',nT DZ k v,Gl.of_born (by
      apply List.ext_getElem?;intro i;simp only[List.getElem?_map,Array.getElem?_toList,Array.getElem?_modify];split
      · cases es[i]? <;>rfl
      · rfl)⟩,gr _⟩
    rw[Cg DZ h2];apply List.ext_getElem?;intro i;have IT:(es.toList.map (fun e=>(e.key,e.val)))[i]?=(L.map (fun p=>(enc p.1,encv p.2)))[i]?:=by rw[hL]
    simp only[List.getElem?_map,Array.getElem?_toList]at IT;rw[List.getElem?_map,Array.getElem?_toList,Array.getElem?_modify,List.getElem?_map,List.getElem?_set];by_cases DH:j=i
    · subst DH;have Dp:=(List.getElem?_eq_some_iff.1 h2).1;rw[if_pos rfl,if_pos rfl,if_pos Dp,he];rfl
    · rw[if_neg DH,if_neg DH];exact IT
end
end Go.V
/-! A map ranged over: each key once, in whatever order. No program. -/
namespace Go.V
open Go Go.RowKit Go.ChangeMaps
section
variable {κ υ : Type} {P : Program} {w w' : World} {mt kt et : TypeId} {enc : κ → Value} {ok : κ → Prop} {encv : υ → Value} {b r : Nat} {L : List (κ × υ)} {done : List κ} {last : Option (κ × υ)}
def kN(enc:κ->Value)(encv:υ->Value)(w:World)(r b:Nat)(L:List (κ×υ))(done:List κ)(last:Option (κ×υ)):Prop :=
 ∃(es:Array MapEntry)(clock since:Nat)(seen:Array Nat)(c0:Nat),w.heap[b]?=some (.map es clock)/\es.toList.map (fun e=>(e.key,e.val))=L.map (fun p=>(enc p.1,encv p.2)) ∧
  (∀ e∈es.toList,e.born<since)/\(es.toList.map (·.born)).Nodup/\w.heap[r]?=some (.mapIter (some b) since seen c0)/\(since<=c0/\since<=clock)/\(L.map Prod.fst).Nodup ∧
  (∀(j:Nat)(e:MapEntry)(p:κ×υ),es.toList[j]?=some e->L[j]?=some p->(seen.contains e.born=true↔p.1∈done)) ∧
  (∀ p,last=some p->∃ e∈es.toList,∃ seen':Array Nat,e.key=enc p.1/\e.val=encv p.2/\seen=seen'.push e.born/\c0=clock)
theorem eD.range(hm:P.underlying mt=some (.map kt et))(h:eD enc ok encv w b L):
    ∃ o:Obj,Sem.run P (Instr.range mt (.map (some b))) w=.ok (.pointer (some ⟨w.heap.size,0,none⟩)) (w.alloc o)/\kN enc encv (w.alloc o) w.heap.size b L ([]:List κ) none:=by
  obtain⟨es,clock,hb,hL,DL,DZ,Gl⟩:=h;have Dp:=(Array.getElem?_eq_some_iff.1 hb).1;exact⟨.mapIter (some b) clock #[] clock,run_range_map w mt kt et b es clock hm hb,es,clock,clock,#[],clock,by rw[(MapKept.heap_alloc w _).2 b Dp];exact hb,hL,Gl.1,Gl.2,(MapKept.heap_alloc w _).1,⟨Nat.le_refl _,Nat.le_refl _⟩,DZ,fun j e p _ _=>by simp,fun p hp=>by cases hp⟩
theorem kN.next (hE:∀ x y,enc x=enc y->x=y) (h:kN enc encv w r b L done last) (ty:TypeId) :
    ((∀ p∈L,p.1∈done)/\Sem.run P (Instr.next (.pointer (some ⟨r,0,none⟩)) false ty) w=.ok (.tuple #[.bool false]) w) ∨
    ∃ p∈L,p.1 ∉ done/\∃ w':World,Sem.run P (Instr.next (.pointer (some ⟨r,0,none⟩)) false ty) w=.ok (.tuple #[.bool true,enc p.1,encv p.2]) w'/\kN enc encv w' r b L (p.1 ::done) (some p)/\Kp w w' (fun k=>k=r):=by
  obtain⟨es,clock,since,seen,c0,h1,h2,h3,h4,h5,h6,DZ,h7,h8⟩:=h;have Dx:es.toList.length=L.length:=by have:=congrArg List.length h2;simpa using this
  have J7:b≠r:=by
    intro e;subst e;rw[h1]at h5;cases h5
  have pair:∀(j:Nat)(e:MapEntry),es.toList[j]?=some e->∃ p,L[j]?=some p/\e.key=enc p.1/\e.val=encv p.2:=by
    intro j e he;have hj:j<L.length:=by have:=(List.getElem?_eq_some_iff.1 he).1;omega
    refine⟨L[j],by simp[hj],?_⟩;have:=congrArg (fun l=>l[j]?) h2;simp only[List.getElem?_map,he,List.getElem?_eq_getElem hj,Option.map_some,Option.some.injEq,Prod.mk.injEq]at this;exact this
  rcases run_next_at (P:=P) w ty r b since c0 seen es clock h5 h1 h3 h6.1 with⟨q1,q2⟩ | ⟨e,he,w1,Dv,q2⟩
  · refine .inl ⟨fun p hp=>?_,q2⟩;obtain⟨j,hj,rfl⟩:=List.mem_iff_getElem.1 hp;have Ed:j<es.toList.length:=by omega
    refine(h7 j es.toList[j] L[j] (by simp[Ed]) (by simp[hj])).1 ?_;cases hc:seen.contains es.toList[j].born with
    | true=>rfl
    | false =>
      exfalso;have:es.toList[j]∈(leftOf es seen).toList:=by
        unfold leftOf;rw[Array.toList_filter,List.mem_filter];exact⟨List.getElem_mem Ed,by rw[hc];rfl⟩
      have h0:(leftOf es seen).toList.length=0:=by simpa using q1
      rw[List.length_eq_zero_iff.1 h0]at this;simp at this
  · unfold leftOf at he;rw[Array.toList_filter,List.mem_filter]at he;obtain⟨j,hj,JT⟩:=List.mem_iff_getElem.1 he.1;have GG:es.toList[j]?=some e:=by rw[List.getElem?_eq_getElem hj,JT]
    obtain⟨p,hp,hk,hv⟩:=pair j e GG;have He:p.1 ∉ done:=by
      intro hd;have:=(h7 j e p GG hp).2 hd;have h9:=he.2;simp only[this]at h9;cases h9
    have hw:w1.heap=w.heap/\w1.os=w.os/\w1.tape=w.tape/\w1.output=w.output:=by rcases Dv with rfl | rfl <;>exact⟨rfl,rfl,rfl,rfl⟩
    have GD:=(Array.getElem?_eq_some_iff.1 h5).1;refine .inr ⟨p,List.mem_of_getElem? hp,He,setBlock w1 r (.mapIter (some b) since (seen.push e.born) clock),by rw[q2,hk,hv],⟨es,clock,since,seen.push e.born,clock,?_,h2,h3,h4,?_,?_,DZ,?_,?_⟩,⟨hw.2.1,hw.2.2.1,hw.2.2.2,by simp[setBlock,hw.1],fun k F7 hS=>?_⟩⟩
    · simp only[setBlock,hw.1];rw[Array.getElem?_setIfInBounds_ne (fun e=>J7 e.symm)];exact h1
    · simp only[setBlock,hw.1];rw[Array.getElem?_setIfInBounds_self_of_lt GD]
    · exact⟨h6.2,h6.2⟩
    · intro j' e' p' Ed Eu;rw[Array.contains_push,Bool.or_eq_true,h7 j' e' p' Ed Eu,List.mem_cons];have key:(e'.born ==e.born)=true↔p'.1=p.1:=by
        rw[beq_iff_eq];constructor
        · intro hb;have Ek:=(List.getElem?_eq_some_iff.1 Ed).1;have:j'=j:=by
            have EC:(es.toList.map (·.born))[j']?=(es.toList.map (·.born))[j]?:=by simp only[List.getElem?_map,Ed,GG,Option.map_some,hb]
            exact(List.getElem?_inj (by simpa using Ek) h4).1 EC
          subst this;rw[hp]at Eu;cases Eu;rfl
        · intro JH;have Ek:=(List.getElem?_eq_some_iff.1 Eu).1;have:j'=j:=by
            have EC:(L.map Prod.fst)[j']?=(L.map Prod.fst)[j]?:=by simp only[List.getElem?_map,Eu,hp,Option.map_some,JH]
            exact(List.getElem?_inj (by simpa using Ek) DZ).1 EC
          subst this;rw[GG]at Ed;cases Ed;rfl
      constructor
      · rintro(h | h)
        · exact .inr h
        · exact .inl (key.1 h)
      · rintro(h | h)
        · exact .inr (key.2 h)
        · exact .inl h
    · intro p' Eu;cases Eu;exact⟨e,he.1,seen,hk,hv,rfl,rfl⟩
    · simp only[setBlock,hw.1];rw[Array.getElem?_setIfInBounds_ne (fun e=>hS e.symm)]
theorem kN.entry{p:κ×υ}(h:kN enc encv w r b L done (some p)):Sem.run P (Instr.entry (.pointer (some ⟨r,0,none⟩))) w=.ok (.tuple #[enc p.1,encv p.2]) w:=by
 obtain⟨es,clock,since,seen,c0,h1,h2,h3,h4,h5,h6,DZ,h7,h8⟩:=h;obtain⟨e,he,seen',hk,hv,rfl,rfl⟩:=h8 p rfl;rw[run_entry_at (P:=P) w r b since seen' es c0 e h5 h1 he h4,hk,hv]
end
end Go.V
/-! Rows of elements of several cells: copied into, cleared, lengthened by noughts. No program. -/
namespace Go.V
open Go Go.RowKit
section
variable {P : Program} {w w' : World}
theorem aE.of_block{base size g n c:Nat}{e:TypeId}{cur:Array Value}{xs:List Value}(hb:base<=g)(hg:w.heap[g]?=some (.cells cur e (0,0)))(hn:n<=c)(hc:c<=maxLen)(hs:cur.size=c*size)(hx:xs.length=n*size)(ht:cur.toList.take (n*size)=xs):
    aE w base e size (some ⟨g,0,none⟩) n c xs:=⟨hx,.inr ⟨g,c,cur,rfl,hb,hg,hn,hc,hs,ht⟩⟩
end
end Go.V
/-! Blocks that are kept; a cell of an owned row set. No program. -/
namespace Go.V
open Go Go.RowKit
theorem aD{w w':World}{g:Nat}{o:Obj}(h:w.heap[g]?=some o)(hg:w.grownBy w' none):w'.heap[g]?=some o:=by rw[hg.block _ (Array.getElem?_eq_some_iff.1 h).1 (by simp)];exact h
theorem dY{w w':World}{S:Nat->Prop}{g j:Nat}{u:Value}(h:Kp w w' S)(hS:S g):Kp w (w'.setCell ⟨g,j,none⟩ u) S:=h.set (p:=⟨g,j,none⟩) (.inr hS) u
theorem bS(b q:Nat):Addr.add ⟨b,0,none⟩ q=⟨b,q,none⟩:=by
 unfold Addr.add;split <;>simp_all
theorem dR(b k j:Nat):Addr.add ⟨b,k,none⟩ j=⟨b,k+j,none⟩:=by
 unfold Addr.add;split <;>simp_all
theorem kY(w:World)(cs:Array Value)(t:TypeId):bF (w.alloc (.cells cs t)) (some ⟨w.heap.size,0,none⟩) cs.toList:=by
 intro j u hj;refine⟨_,rfl,?_⟩;rw[aS,World.cell?_alloc_new];simpa using hj
theorem pI(a:Addr):a.add 0=a:=by cases a;unfold Addr.add;split <;>simp_all
theorem aN{w a b:World}{r:Option Nat}(g:w.grownBy a none)(g':a.grownBy b r)(h:∀ k,r=some k->w.heap.size<=k):w.grownBy b none:=(Kp.step (S:=fun k=>w.heap.size<=k) (Kp.of_none g) g' (fun k hk=>.inl (h k hk))).grown (fun k hk e=>by omega)
theorem qR{w:World}{b s n c:Nat}{e:TypeId}{A:OA}{xs:List Value}(h:aE w b e s A n c xs):n<=c:=by
 obtain⟨_,h2 | ⟨_,_,_,_,_,h5,_⟩⟩:=h.cases
 ·obtain⟨_,rfl,rfl,_⟩:=h2;omega
 ·exact h5
theorem cC(w:World)(cs:Array Value)(t:TypeId):∃ v,v=w.alloc (.cells cs t)/\w.grownBy v none/\v.heap[w.heap.size]?=some (.cells cs t (0,0)):=⟨_,rfl,World.grownBy_alloc _ _ _,heap_alloc_new _ _⟩
theorem BI(w:World)(t:TypeId)(a0 a1 b0 b1:Value):∃ v,v=(((w.alloc (.cells #[a0,a1] t)).setCell ⟨w.heap.size,0,none⟩ b0).setCell ⟨w.heap.size,1,none⟩ b1)/\(∃ u,(w.alloc (.cells #[a0,a1] t)).cell? ⟨w.heap.size,0,none⟩=some u)/\(w.alloc (.cells #[a0,a1] t)).frozen? ⟨w.heap.size,0,none⟩=false/\(∃ u,((w.alloc (.cells #[a0,a1] t)).setCell ⟨w.heap.size,0,none⟩ b0).cell? ⟨w.heap.size,1,none⟩=some u)/\((w.alloc (.cells #[a0,a1] t)).setCell ⟨w.heap.size,0,none⟩ b0).frozen? ⟨w.heap.size,1,none⟩=false/\v.heap[w.heap.size]?=some (.cells #[b0,b1] t (0,0))/\w.grownBy v none:=by
 have s0:=heap_alloc_new w (.cells #[a0,a1] t);have s1:=aH s0 0 b0;have s2:=aH s1 1 b1;exact⟨_,rfl,⟨_,aA s0 0⟩,aC s0 0,⟨_,aA s1 1⟩,aC s1 1,by simpa using s2,Kp.grown (dY (dY (Kp.of_none (S:=fun k=>w.heap.size<=k) (World.grownBy_alloc w _ none)) (Nat.le_refl _)) (Nat.le_refl _)) (fun k hk e=>by omega)⟩
theorem CX(w:World)(t:TypeId)(a0 a1 a2 b0 b1 b2:Value):∃ v,v=((((w.alloc (.cells #[a0,a1,a2] t)).setCell ⟨w.heap.size,0,none⟩ b0).setCell ⟨w.heap.size,1,none⟩ b1).setCell ⟨w.heap.size,2,none⟩ b2)/\(∃ u,(w.alloc (.cells #[a0,a1,a2] t)).cell? ⟨w.heap.size,0,none⟩=some u)/\(w.alloc (.cells #[a0,a1,a2] t)).frozen? ⟨w.heap.size,0,none⟩=false/\(∃ u,((w.alloc (.cells #[a0,a1,a2] t)).setCell ⟨w.heap.size,0,none⟩ b0).cell? ⟨w.heap.size,1,none⟩=some u)/\((w.alloc (.cells #[a0,a1,a2] t)).setCell ⟨w.heap.size,0,none⟩ b0).frozen? ⟨w.heap.size,1,none⟩=false/\(∃ u,(((w.alloc (.cells #[a0,a1,a2] t)).setCell ⟨w.heap.size,0,none⟩ b0).setCell ⟨w.heap.size,1,none⟩ b1).cell? ⟨w.heap.size,2,none⟩=some u)/\(((w.alloc (.cells #[a0,a1,a2] t)).setCell ⟨w.heap.size,0,none⟩ b0).setCell ⟨w.heap.size,1,none⟩ b1).frozen? ⟨w.heap.size,2,none⟩=false/\v.heap[w.heap.size]?=some (.cells #[b0,b1,b2] t (0,0))/\w.grownBy v none:=by
 have s0:=heap_alloc_new w (.cells #[a0,a1,a2] t);have s1:=aH s0 0 b0;have s2:=aH s1 1 b1;have s3:=aH s2 2 b2;exact⟨_,rfl,⟨_,aA s0 0⟩,aC s0 0,⟨_,aA s1 1⟩,aC s1 1,⟨_,aA s2 2⟩,aC s2 2,by simpa using s3,Kp.grown (dY (dY (dY (Kp.of_none (S:=fun k=>w.heap.size<=k) (World.grownBy_alloc w _ none)) (Nat.le_refl _)) (Nat.le_refl _)) (Nat.le_refl _)) (fun k hk e=>by omega)⟩
theorem CW(w:World)(t:TypeId)(a0 a1 a2 a3 b0 b1 b2 b3:Value):∃ v,v=(((((w.alloc (.cells #[a0,a1,a2,a3] t)).setCell ⟨w.heap.size,0,none⟩ b0).setCell ⟨w.heap.size,1,none⟩ b1).setCell ⟨w.heap.size,2,none⟩ b2).setCell ⟨w.heap.size,3,none⟩ b3)/\(∃ u,(w.alloc (.cells #[a0,a1,a2,a3] t)).cell? ⟨w.heap.size,0,none⟩=some u)/\(w.alloc (.cells #[a0,a1,a2,a3] t)).frozen? ⟨w.heap.size,0,none⟩=false/\(∃ u,((w.alloc (.cells #[a0,a1,a2,a3] t)).setCell ⟨w.heap.size,0,none⟩ b0).cell? ⟨w.heap.size,1,none⟩=some u)/\((w.alloc (.cells #[a0,a1,a2,a3] t)).setCell ⟨w.heap.size,0,none⟩ b0).frozen? ⟨w.heap.size,1,none⟩=false/\(∃ u,(((w.alloc (.cells #[a0,a1,a2,a3] t)).setCell ⟨w.heap.size,0,none⟩ b0).setCell ⟨w.heap.size,1,none⟩ b1).cell? ⟨w.heap.size,2,none⟩=some u)/\(((w.alloc (.cells #[a0,a1,a2,a3] t)).setCell ⟨w.heap.size,0,none⟩ b0).setCell ⟨w.heap.size,1,none⟩ b1).frozen? ⟨w.heap.size,2,none⟩=false/\(∃ u,((((w.alloc (.cells #[a0,a1,a2,a3] t)).setCell ⟨w.heap.size,0,none⟩ b0).setCell ⟨w.heap.size,1,none⟩ b1).setCell ⟨w.heap.size,2,none⟩ b2).cell? ⟨w.heap.size,3,none⟩=some u)/\((((w.alloc (.cells #[a0,a1,a2,a3] t)).setCell ⟨w.heap.size,0,none⟩ b0).setCell ⟨w.heap.size,1,none⟩ b1).setCell ⟨w.heap.size,2,none⟩ b2).frozen? ⟨w.heap.size,3,none⟩=false/\v.heap[w.heap.size]?=some (.cells #[b0,b1,b2,b3] t (0,0))/\w.grownBy v none:=by
 have s0:=heap_alloc_new w (.cells #[a0,a1,a2,a3] t);have s1:=aH s0 0 b0;have s2:=aH s1 1 b1;have s3:=aH s2 2 b2;have s4:=aH s3 3 b3;exact⟨_,rfl,⟨_,aA s0 0⟩,aC s0 0,⟨_,aA s1 1⟩,aC s1 1,⟨_,aA s2 2⟩,aC s2 2,⟨_,aA s3 3⟩,aC s3 3,by simpa using s4,Kp.grown (dY (dY (dY (dY (Kp.of_none (S:=fun k=>w.heap.size<=k) (World.grownBy_alloc w _ none)) (Nat.le_refl _)) (Nat.le_refl _)) (Nat.le_refl _)) (Nat.le_refl _)) (fun k hk e=>by omega)⟩
theorem zE{W:World}{base s n c g:Nat}{e t:TypeId}{fr:Nat×Nat}{A:OA}{xs:List Value}{cur:Array Value}(h:aE W base e s A n c xs)(hb:W.heap[g]?=some (.cells cur t fr))(ne:e≠t):(Value.slice A n c).ownBlock≠some g:=by
 intro hg;obtain⟨cur',h'⟩:=h.block_type g hg;rw[hb]at h';cases h';exact ne rfl
end Go.V
