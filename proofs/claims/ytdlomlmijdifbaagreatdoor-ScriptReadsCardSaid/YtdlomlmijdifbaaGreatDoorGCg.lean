/- Own texts, packed: M1, M2, M3, KM, MV, MW, M4, M5. -/
import Derived.Test.YtdlomlmijdifbaaGreatDoorGAg
import Derived.Below
import Derived.Laws.AppendOwn
import Derived.Laws.OwnMore
import Derived.Maps.AppendAt
import Derived.Test.YtdlomlmijdifbaaGreatDoorGBg
import Derived.DeepKeys5
import Derived.WideKeyPair
import Derived.MapFrom
import Derived.Maps.Keyed
import Derived.Maps.RangeRun
import Derived.Laws.CopyRow
/-! Rows in memory that a call owns, read and written cell by cell; what a world keeps. No program. -/
set_option linter.unusedVariables false
set_option linter.unusedSimpArgs false
set_option linter.unusedSectionVars false
namespace Go.V
open Go Go.RowKit
def Own(w:World)(g:Nat)(e:TypeId)(cap:Nat)(xs:List Value):Prop :=
 ∃ cur:Array Value,w.heap[g]?=some (.cells cur e (0,0))/\cur.size=cap/\∃ t,cur.toList=xs++t
def bC(w:World)(A:OA)(xs:List Value):Prop:=∀ j u,xs[j]?=some u->∃ a,A=some a/\w.cell? (a.add j)=some u
theorem sX(a:Addr)(n:Nat):(a.add n).block=a.block:=by unfold Addr.add;split <;>rfl
theorem aJ(g j:Nat):(⟨g,0,none⟩:Addr).add j=⟨g,j,none⟩:=by unfold Addr.add;split <;>simp_all
theorem aF(w:World)(r:Option Nat):w.grownBy w r:=⟨rfl,rfl,rfl,Nat.le_refl _,fun _ _ _=>rfl⟩
theorem aB{a b c:World}{r:Option Nat}(h:a.grownBy b r)(k:b.grownBy c r):a.grownBy c r :=
 ⟨k.os.trans h.os,k.tape.trans h.tape,k.output.trans h.output,Nat.le_trans h.size k.size,fun i hi hr=>(k.block i (Nat.lt_of_lt_of_le hi h.size) hr).trans (h.block i hi hr)⟩
theorem zJ{a b:World}{r:Option Nat}(h:a.grownBy b none):a.grownBy b r:=⟨h.os,h.tape,h.output,h.size,fun i hi _=>h.block i hi (by simp)⟩
theorem aG{a b:World}{r:Option Nat}(h:a.grownBy b r):a.grownBy b.drew r:=⟨h.os,h.tape,h.output,h.size,h.block⟩
theorem eL{a b:World}{r:Option Nat}(h:a.grownBy b r)(o:Obj):a.grownBy (b.alloc o) r:=aB h (World.grownBy_alloc b o r)
theorem xN{B:Nat}{a b:World}{r:Option Nat}(h:a.grownBy b r)(hB:B<=a.heap.size)(hr:∀ k,r=some k->B<=k):Below B a b :=
 (Below.refl B a).grown h hB hr
section
variable {w w' : World} {g : Nat} {e : TypeId} {cap : Nat} {xs : List Value}
theorem Own.of_ownsRow{base n:Nat}(h:w.ownsRow base e 1 (.slice (some ⟨g,0,none⟩) n cap) n xs):Own w g e cap xs/\base<=g/\cap<=maxLen/\n=xs.length:=by
 obtain⟨h1,h2⟩:=h;rcases h2 with⟨h2,_⟩ | ⟨g',cap',cur,h2,hb,hh,hn,hc,hs,ht⟩
 ·cases h2
 ·cases h2;refine⟨⟨cur,hh,by simpa using hs,cur.toList.drop (n*1),?_⟩,hb,hc,by omega⟩;rw[← ht,List.take_append_drop]
def qI(w:World)(base:Nat)(e:TypeId)(A:OA)(n c:Nat)(xs:List Value):Prop:=w.ownsRow base e 1 (.slice A n c) n xs
theorem bC.nil(w:World)(A:OA):bC w A []:=fun j u hj=>by simp at hj
theorem bC.kept{A:OA}{r:Option Nat}(h:bC w A xs)(hg:w.grownBy w' r)(hr:∀ a,A=some a->some a.block≠r):bC w' A xs:=fun j u hj=>by
 obtain⟨a,h1,h2⟩:=h j u hj;refine⟨a,h1,hg.cell h2 ?_⟩;rw[sX];exact hr a h1
theorem bC.kept_none{A:OA}(h:bC w A xs)(hg:w.grownBy w' none):bC w' A xs:=h.kept hg (by simp)
theorem eV(a:Addr)(i j:Nat):(a.add i).add j=a.add (i+j):=by
 unfold Addr.add;by_cases hi:i=0
 ·simp[hi]
 ·by_cases hj:j=0
  ·simp[hi,hj]
  ·simp[hi,hj,Nat.add_assoc]
theorem bC.drop{A:OA}(h:bC w A xs)(k:Nat):bC w (A.map (·.add k)) (xs.drop k):=fun j u hj=>by
 rw[List.getElem?_drop]at hj;obtain⟨a,h1,h2⟩:=h _ _ hj;refine⟨a.add k,by rw[h1];rfl,?_⟩;rw[eV];exact h2
theorem bC.take{A:OA}(h:bC w A xs)(k:Nat):bC w A (xs.take k):=fun j u hj=>by
 rw[List.getElem?_take]at hj;split at hj
 ·exact h j u hj
 ·cases hj
end
end Go.V
/-! Rows that a call builds: one member more; a row made. No program. -/
namespace Go.V
open Go Go.RowKit
structure De(P:Program)(t e:TypeId)(z:Value)(bytes:Nat):Prop where
 ex:∃ i:TypeInfo,P.underlying t=some (.slice e)/\P.info? e=some i/\i.zero=some z/\i.size=1/\i.bytes=bytes/\z.cells=#[z]
section
variable {P : Program} {w0 w : World} {base : Nat} {e t ty : TypeId} {A : OA} {n c : Nat} {xs : List Value} {z : Value} {bytes : Nat}
theorem bO{r:Option Nat}{w1 w2:World}(h:w0.grownBy w1 none)(hg:w1.grownBy w2 r)(hr:∀ k,r=some k->w0.heap.size<=k):w0.grownBy w2 none :=
 ⟨hg.os.trans h.os,hg.tape.trans h.tape,hg.output.trans h.output,Nat.le_trans h.size hg.size,fun k hk _ =>
  (hg.block k (Nat.lt_of_lt_of_le hk h.size) (fun e=>by have:=hr k e.symm;omega)).trans (h.block k hk (by simp))⟩
theorem qI.block_ge(h:qI w base e A n c xs):∀ k,(Value.slice A n c).ownBlock=some k->base<=k:=fun k hk=>(World.ownsRow.lt h k hk).1
theorem qI.appends(hE:De P t e z bytes)(hb:bytes<=64)(h:qI w base e A n c xs){a:Addr}{m cc:Nat}{us:List Value}(hm:us.length=m)(ha:∀ j u,us[j]?=some u->w.cell? (a.add j)=some u)(hu:∀ u∈us,u.oneCell'=true)(hn:n+m<=2^40)(Fd:base<=w.heap.size):
    ∃(A':OA)(n' c':Nat)(w':World),Sem.run P (Builtin.append_ #[t,t] ty #[.slice A n c,.slice (some a) m cc]) w=.ok (.slice A' n' c') w'/\qI w' base e A' n' c' (xs++us)/\w.grownBy w' (Value.slice A n c).ownBlock:=by
  obtain⟨i,h1,h2,h3,h4,h5,h6⟩:=hE.ex;have GB:(n+m)*bytes<=2^40*64:=Nat.mul_le_mul hn hb;obtain⟨v',w',hr,ho,hg,_⟩:=run_append_own (P:=P) w base t ty e i z 1 bytes h1 h2 h3 h4 h5 (by rw[h6];rfl) (by omega) _ n xs h a m cc us (by omega) ha hu (by simp only[maxLen];omega) (by omega) Fd;rcases ho.2 with⟨rfl,hz⟩ | ⟨g,cap,cur,rfl,r⟩
  · have FH:=ho;rw[hz]at FH;exact⟨_,_,_,w',hr,FH,hg⟩
  · exact⟨_,_,_,w',hr,ho,hg⟩
theorem BT(hE:De P t e z bytes)(hb:bytes<=64){m:Nat}(hm:m<=2^40):
    ∃ w',Sem.run P (Instr.makeSlice t (.int .i64 (m:Int)) (.int .i64 (m:Int))) w=.ok (.slice (some ⟨w.heap.size,0,none⟩) m m) w'/\Own w' w.heap.size e m (List.replicate m z)/\w.grownBy w' none:=by
  obtain⟨i,h1,h2,h3,h4,h5,h6⟩:=hE.ex;have GB:bytes*m<=64*2^40:=Nat.mul_le_mul hb hm;obtain⟨w',hr,ho,hg⟩:=run_make_full (P:=P) w w.heap.size t e i z 1 h1 h2 h3 h4 .i64 .i64 m (by rw[h5];omega) (by simp only[maxLen];omega) (Nat.le_refl _);rw[h6,toList_madeCells_one,Nat.mul_one]at ho;exact⟨w',hr,(Own.of_ownsRow ho).1,hg⟩
end
end Go.V
/-! Rows of elements of several cells: read, appended to. No program. -/
namespace Go.V
open Go Go.RowKit
def aD(w:World)(base:Nat)(e:TypeId)(size:Nat)(A:OA)(n c:Nat)(xs:List Value):Prop:=w.ownsRow base e size (.slice A n c) n xs
structure kL(P:Program)(t e:TypeId)(size bytes:Nat):Prop where
 ex:∃(i:TypeInfo)(z:Value),P.underlying t=some (.slice e)/\P.info? e=some i/\i.zero=some z/\i.size=size/\i.bytes=bytes/\z.cells.size=size/\0<size
section
variable {P : Program} {w0 w w' : World} {base size : Nat} {e t ty : TypeId} {A : OA} {n c : Nat} {xs : List Value} {bytes : Nat}
theorem aD.nil(w:World)(base:Nat)(e:TypeId)(size:Nat):aD w base e size none 0 0 []:=World.ownsRow_nil _ _ _ _
theorem aD.cases(h:aD w base e size A n c xs):xs.length=n*size/\((A=none/\n=0/\c=0/\xs=[])∨∃(g:Nat)(cur:Array Value),A=some ⟨g,0,none⟩/\base<=g/\c<=maxLen/\n<=c/\w.heap[g]?=some (.cells cur e (0,0))/\cur.size=c*size/\cur.toList.take (n*size)=xs):=by
 obtain⟨h1,h2⟩:=h;refine⟨h1,?_⟩;rcases h2 with⟨h2,h3⟩ | ⟨g',cap',cur,h2,hb,hh,hn,hc,hs,ht⟩
 ·cases h2;exact .inl ⟨rfl,rfl,rfl,List.eq_nil_of_length_eq_zero (by simpa using h1)⟩
 ·cases h2;exact .inr ⟨g',cur,rfl,hb,hc,hn,hh,hs,ht⟩
theorem aD.row(h:aD w base e size A n c xs):bC w A xs:=by
 intro j u hj;obtain⟨h1,h2 | ⟨g,cur,rfl,_⟩⟩:=h.cases
 ·obtain⟨_,_,_,rfl⟩:=h2;simp at hj
 ·exact⟨_,rfl,World.ownsRow.cells h (g:=g) rfl j u hj⟩
theorem aD.kept(h:aD w base e size A n c xs)(hg:w.grownBy w' none):aD w' base e size A n c xs:=World.ownsRow.kept h hg (by cases h:(Value.slice A n c).ownBlock <;>simp)
theorem aD.apart{r:Option Nat}(h:aD w base e size A n c xs)(hg:w.grownBy w' r)(hr:(Value.slice A n c).ownBlock=none∨(Value.slice A n c).ownBlock≠r):aD w' base e size A n c xs:=World.ownsRow.kept h hg hr
theorem aD.mono{base':Nat}(h:aD w base e size A n c xs)(hb:base'<=base):aD w base' e size A n c xs:=by
 obtain⟨h1,h2⟩:=h;refine⟨h1,h2.imp id ?_⟩;rintro⟨g',cap',cur,h2,FQ,r⟩;exact⟨g',cap',cur,h2,by omega,r⟩
theorem aD.block_ge(h:aD w base e size A n c xs):∀ k,(Value.slice A n c).ownBlock=some k->base<=k:=fun k hk=>(World.ownsRow.lt h k hk).1
theorem aD.block_lt(h:aD w base e size A n c xs):∀ k,(Value.slice A n c).ownBlock=some k->k<w.heap.size:=fun k hk=>(World.ownsRow.lt h k hk).2
theorem aD.block_type(h:aD w base e size A n c xs):∀ k,(Value.slice A n c).ownBlock=some k->∃ cur,w.heap[k]?=some (.cells cur e (0,0)):=by
 intro k hk;obtain⟨_,h2 | ⟨g,cur,rfl,_,_,_,hh,_⟩⟩:=h.cases
 ·obtain⟨rfl,_⟩:=h2;simp[Value.ownBlock]at hk
 ·simp[Value.ownBlock]at hk;subst hk;exact⟨cur,hh⟩
theorem aD.appends(hE:kL P t e size bytes)(hb:bytes<=64)(h:aD w base e size A n c xs){a:Addr}{m cc:Nat}{us:List Value}(hm:us.length=m*size)(ha:∀ j u,us[j]?=some u->w.cell? (a.add j)=some u)(hu:∀ u∈us,u.oneCell'=true)(hn:n+m<=2^40)(Fd:base<=w.heap.size):
    ∃ (A':OA) (n' c':Nat) (w':World),Sem.run P (Builtin.append_ #[t,t] ty #[.slice A n c,.slice (some a) m cc]) w=.ok (.slice A' n' c') w'/\aD w' base e size A' n' c' (xs++us)/\n'=n+m/\w.grownBy w' (Value.slice A n c).ownBlock ∧
      ((Value.slice A' n' c').ownBlock=(Value.slice A n c).ownBlock∨(Value.slice A' n' c').ownBlock=some w.heap.size):=by
  obtain⟨i,z,h1,h2,h3,h4,h5,h6,h7⟩:=hE.ex;have GB:(n+m)*bytes<=2^40*64:=Nat.mul_le_mul hn hb;obtain⟨v',w',hr,ho,hg,_,JK⟩:=run_append_own_at (P:=P) w base t ty e i z size bytes h1 h2 h3 h4 h5 h6 h7 _ n xs h a m cc us hm ha hu (by simp only[maxLen];omega) (by omega) Fd;rcases ho.2 with⟨rfl,hz⟩ | ⟨g,cap,cur,rfl,r⟩
  · have FH:=ho;rw[hz]at FH;exact⟨_,_,_,w',hr,FH,hz.symm,hg,JK⟩
  · exact⟨_,_,_,w',hr,ho,rfl,hg,JK⟩
theorem aD.appends_nil(hE:kL P t e size bytes)(h:aD w base e size A n c xs):Sem.run P (Builtin.append_ #[t,t] ty #[.slice A n c,.slice none 0 0]) w=.ok (.slice A n c) w:=by
 obtain⟨i,z,h1,h2,h3,h4,h5,h6,h7⟩:=hE.ex;exact run_append_owned_none (P:=P) w base t ty e i size h1 h2 _ _ _ h
end
end Go.V
/-! What a world keeps beside some blocks; blocks of a few cells; bits by and, or. No program. -/
namespace Go.V
open Go Go.RowKit
structure Kp(w w':World)(S:Nat->Prop):Prop where
 os:w'.os=w.os
 tape:w'.tape=w.tape
 output:w'.output=w.output
 size:w.heap.size<=w'.heap.size
 block:∀ k,k<w.heap.size->¬ S k->w'.heap[k]?=w.heap[k]?
section
variable {w w' w'' : World} {S S' : Nat → Prop}
theorem Kp.refl(w:World)(S:Nat->Prop):Kp w w S:=⟨rfl,rfl,rfl,Nat.le_refl _,fun _ _ _=>rfl⟩
theorem Kp.trans(h:Kp w w' S)(h':Kp w' w'' S):Kp w w'' S :=
 ⟨h'.os.trans h.os,h'.tape.trans h.tape,h'.output.trans h.output,Nat.le_trans h.size h'.size,fun k hk hS=>(h'.block k (Nat.lt_of_lt_of_le hk h.size) hS).trans (h.block k hk hS)⟩
theorem Kp.mono(h:Kp w w' S)(hS:∀ k,k<w.heap.size->S k->S' k):Kp w w' S':=⟨h.os,h.tape,h.output,h.size,fun k hk hn=>h.block k hk (fun e=>hn (hS k hk e))⟩
theorem Kp.of_grown{r:Option Nat}(h:w.grownBy w' r):Kp w w' (fun k=>some k=r):=⟨h.os,h.tape,h.output,h.size,fun k hk hn=>h.block k hk hn⟩
theorem Kp.of_none(h:w.grownBy w' none):Kp w w' S:=⟨h.os,h.tape,h.output,h.size,fun k hk hn=>h.block k hk (by simp)⟩
theorem Kp.grown(h:Kp w w' S)(hS:∀ k,k<w.heap.size->¬ S k):w.grownBy w' none:=⟨h.os,h.tape,h.output,h.size,fun k hk _=>h.block k hk (hS k hk)⟩
theorem Kp.drew(h:Kp w w' S):Kp w w'.drew S:=⟨h.os,h.tape,h.output,h.size,h.block⟩
theorem Kp.set(h:Kp w w' S){p:Addr}(hp:w.heap.size<=p.block∨S p.block)(u:Value):Kp w (w'.setCell p u) S:=by
 refine⟨h.os,h.tape,h.output,by simpa using h.size,fun k hk hn=>?_⟩;rw[Below.heap_setCell _ _ _ _ (fun e=>by subst e;exact hp.elim (fun h=>by omega) hn)];exact h.block k hk hn
theorem Kp.alloc(h:Kp w w' S)(o:Obj):Kp w (w'.alloc o) S:=h.trans (Kp.of_none (World.grownBy_alloc w' o none))
theorem Kp.step{r:Option Nat}(h:Kp w w' S)(hg:w'.grownBy w'' r)(hr:∀ k,r=some k->w.heap.size<=k∨S k):Kp w w'' S:=by
 refine⟨hg.os.trans h.os,hg.tape.trans h.tape,hg.output.trans h.output,Nat.le_trans h.size hg.size,fun k hk hn=>?_⟩;refine(hg.block k (Nat.lt_of_lt_of_le hk h.size) (fun e=>?_)).trans (h.block k hk hn);rcases hr k e.symm with h1 | h1
 ·omega
 ·exact hn h1
theorem Kp.then(h:Kp w w' S)(h':Kp w' w'' S')(hS:∀ k,k<w.heap.size->S' k->S k):Kp w w'' S :=
 ⟨h'.os.trans h.os,h'.tape.trans h.tape,h'.output.trans h.output,Nat.le_trans h.size h'.size,fun k hk hn=>(h'.block k (Nat.lt_of_lt_of_le hk h.size) (fun e=>hn (hS k hk e))).trans (h.block k hk hn)⟩
theorem bC.kp{A:OA}{xs:List Value}(h:bC w A xs)(hk:Kp w w' S)(hS:∀ a,A=some a->a.block<w.heap.size->¬ S a.block):bC w' A xs:=by
 intro j u hj;obtain⟨a,h1,h2⟩:=h j u hj;refine⟨a,h1,?_⟩;have hb:(a.add j).block=a.block:=sX a j;have DL:a.block<w.heap.size:=by
  unfold World.cell? at h2;rw[hb]at h2;cases e:w.heap[a.block]? with
  | none=>rw[e]at h2;simp at h2
  | some o=>exact(Array.getElem?_eq_some_iff.1 e).1
 rw[← h2];unfold World.cell?;rw[hb,hk.block _ DL (hS a h1 DL)]
end
section
variable {w : World} {g : Nat} {cur : Array Value} {t : TypeId} {fr : Nat × Nat}
theorem aA(h:w.heap[g]?=some (.cells cur t fr))(j:Nat):w.cell? ⟨g,j,none⟩=cur[j]?:=by simp[World.cell?,h]
theorem aH(h:w.heap[g]?=some (.cells cur t fr))(j:Nat)(u:Value):(w.setCell ⟨g,j,none⟩ u).heap[g]?=some (.cells (cur.setIfInBounds j u) t fr):=by
 simp[World.setCell,Array.getElem?_modify,h]
theorem aC(h:w.heap[g]?=some (.cells cur t (0,0)))(j:Nat):w.frozen? ⟨g,j,none⟩=false:=by simp[World.frozen?,h]
end
theorem aD.kp{w w':World}{S:Nat->Prop}{base size n c:Nat}{e:TypeId}{A:OA}{xs:List Value}(h:aD w base e size A n c xs)(hk:Kp w w' S)(h2:∀ k,(Value.slice A n c).ownBlock=some k->¬ S k):aD w' base e size A n c xs:=by
 obtain⟨e1,e2⟩:=h;refine⟨e1,e2.imp id ?_⟩;rintro⟨q,cap,cur,e3,e4,e5,r⟩;have hq:(Value.slice A n c).ownBlock=some q:=by rw[e3];simp[Value.ownBlock]
 exact⟨q,cap,cur,e3,e4,by rw[hk.block q (Array.getElem?_eq_some_iff.1 e5).1 (h2 q hq)];exact e5,r⟩
theorem sC{b x:Nat}(h:x<2^b):(BitVec.ofInt b (x:Int)).toNat=x:=by
 rw[BitVec.toNat_ofInt];have:((x:Int) % (2^b:Nat))=((x % 2^b:Nat):Int):=by omega
 rw[this,Nat.mod_eq_of_lt h];omega
theorem Dv{x c j:Nat}(h:x<2^j):x ||| c*2^j=x+c*2^j:=by
 rw[Nat.or_comm,Nat.mul_comm,← Nat.two_pow_add_eq_or_of_lt h];omega
end Go.V
/-! Maps in memory as lists of keys and values: looked up, written, struck. No program. -/
namespace Go.V
open Go Go.RowKit Go.MapKept
section
variable {κ υ : Type} [DecidableEq κ]
def fX(L:List (κ×υ))(k:κ):Option υ:=match L with
 | []=>none
 | p ::L=>if p.1=k then some p.2 else fX L k
def mN(L:List (κ×υ))(k:κ)(v:υ):List (κ×υ):=match L with
 | []=>[(k,v)]
 | p ::L=>if p.1=k then(k,v) ::L else p ::mN L k v
theorem mX{L:List (κ×υ)}{k:κ}:fX L k=none↔∀ p∈L,p.1≠k:=by
 induction L with
 | nil=>simp[fX]
 | cons p L ih =>
  unfold fX;by_cases h:p.1=k
  ·simp[h]
  ·simp[h,ih]
theorem wR{L:List (κ×υ)}(hn:(L.map Prod.fst).Nodup){k:κ}{v:υ}:fX L k=some v↔(k,v)∈L:=by
 induction L with
 | nil=>simp[fX]
 | cons p L ih =>
  have EE:=List.nodup_cons.1 hn;unfold fX;by_cases h:p.1=k
  ·rw[if_pos h];constructor
   ·intro e;have:p=(k,v):=by rw[← h];cases p;simp at e ⊢;exact e
    rw[this];simp
   ·intro e;rcases List.mem_cons.1 e with e | e
    ·rw[← e]
    ·exact absurd (List.mem_map_of_mem (f:=Prod.fst) e) (by rw[h]at EE;exact EE.1)
  ·rw[if_neg h,ih EE.2];constructor
   ·exact fun e=>List.mem_cons_of_mem _ e
   ·intro e;rcases List.mem_cons.1 e with e | e
    ·exact absurd (by rw[← e]) h
    ·exact e
theorem AX{L:List (κ×υ)}{k:κ}{v:υ}(h:fX L k=none):mN L k v=L++[(k,v)]:=by
 induction L with
 | nil=>rfl
 | cons p L ih =>
  have h2:=mX.1 h;have hp:=h2 p (by simp);unfold fX at h;rw[if_neg hp]at h;simp[mN,hp,ih h]
theorem rH(L:List (κ×υ))(k:κ)(v:υ):(mN L k v).map Prod.fst=if fX L k=none then L.map Prod.fst++[k] else L.map Prod.fst:=by
 induction L with
 | nil=>simp[mN,fX]
 | cons p L ih =>
  unfold mN fX;by_cases h:p.1=k
  ·simp[h]
  ·rw[if_neg h,if_neg h,List.map_cons,ih];split <;>simp
theorem oP{L:List (κ×υ)}(hn:(L.map Prod.fst).Nodup)(k:κ)(v:υ):((mN L k v).map Prod.fst).Nodup:=by
 rw[rH];split
 ·rename_i h;rw[List.nodup_append];refine⟨hn,by simp,?_⟩;intro a ha b hb e;obtain⟨p,hp,rfl⟩:=List.mem_map.1 ha;have:b=k:=by simpa using hb
  exact mX.1 h p hp (e.trans this)
 ·exact hn
theorem CD{L:List (κ×υ)}(hn:(L.map Prod.fst).Nodup){j:Nat}{k:κ}{v u:υ}(h:L[j]?=some (k,u)):mN L k v=L.set j (k,v):=by
 induction L generalizing j with
 | nil=>simp at h
 | cons p L ih =>
  have EE:=List.nodup_cons.1 hn;cases j with
  | zero =>
   have:p=(k,u):=by simpa using h
   subst this;simp[mN]
  | succ j =>
   have h':L[j]?=some (k,u):=by simpa using h
   have DN:¬ p.1=k:=by
    intro e;exact EE.1 (by rw[e];exact List.mem_map_of_mem (f:=Prod.fst) (List.mem_of_getElem? h'))
   simp[mN,DN,ih EE.2 h']
structure Db(P:Program)(kt:TypeId)(enc:κ->Value)(ok:κ->Prop):Prop where
 law:Maps.Keyed P kt
 key:∀ x,ok x->∃ l,keyOf P kt (enc x)=some l
 inj:∀ x y,enc x=enc y->x=y
def jY(es:Array MapEntry)(clock:Nat):Prop:=(∀ e∈es.toList,e.born<clock)/\(es.toList.map (·.born)).Nodup
theorem jY.push{es:Array MapEntry}{clock:Nat}(h:jY es clock)(k v:Value):jY (es.push ⟨k,v,clock⟩) (clock+1):=by
 refine⟨fun e he=>?_,?_⟩
 ·rw[Array.toList_push]at he;rcases List.mem_append.1 he with he | he
  ·have:=h.1 e he;omega
  ·have:e=⟨k,v,clock⟩:=by simpa using he
   rw[this];exact Nat.lt_succ_self _
 ·rw[Array.toList_push,List.map_append,List.nodup_append];refine⟨h.2,by simp,fun a ha b hb e=>?_⟩;obtain⟨x,hx,rfl⟩:=List.mem_map.1 ha;have:=h.1 x hx;have:b=clock:=by simpa using hb
  omega
theorem jY.of_born{es es':Array MapEntry}{clock:Nat}(h:jY es clock)(he:es'.toList.map (·.born)=es.toList.map (·.born)):jY es' clock:=by
 refine⟨fun e hx=>?_,by rw[he];exact h.2⟩;have:e.born∈es'.toList.map (·.born):=List.mem_map_of_mem (f:=fun e:MapEntry=>e.born) hx;rw[he]at this;obtain⟨x,hx,Hh⟩:=List.mem_map.1 this;rw[← Hh];exact h.1 x hx
def eE(enc:κ->Value)(ok:κ->Prop)(encv:υ->Value)(w:World)(b:Nat)(L:List (κ×υ)):Prop :=
 ∃(es:Array MapEntry)(clock:Nat),w.heap[b]?=some (.map es clock)/\es.toList.map (fun e=>(e.key,e.val))=L.map (fun p=>(enc p.1,encv p.2))/\(∀ p∈L,ok p.1)/\(L.map Prod.fst).Nodup/\jY es clock
variable {P : Program} {w w' : World} {mt kt et : TypeId} {enc : κ → Value} {ok : κ → Prop} {encv : υ → Value} {b : Nat} {L : List (κ × υ)}
theorem eE.made(w:World):eE enc ok encv (w.alloc (.map #[] 0)) w.heap.size ([]:List (κ×υ)):=⟨#[],0,(heap_alloc w _).1,by simp,by simp,by simp,by simp[jY]⟩
theorem eE.find(K:Db P kt enc ok)(h:eE enc ok encv w b L){es:Array MapEntry}{clock:Nat}(hb:w.heap[b]?=some (.map es clock)){k:κ}(hk:ok k):
    ((Instr.findKey kt (enc k) es.toList).run P w=.ok none w/\fX L k=none)∨∃ j v,(Instr.findKey kt (enc k) es.toList).run P w=.ok (some (j,encv v)) w/\L[j]?=some (k,v)/\fX L k=some v/\∃ e,es[j]?=some e/\e.key=enc k:=by
  obtain⟨es',clock',h1,h2,h3,h4,_⟩:=h;rw[hb]at h1;cases h1;obtain⟨l,hl⟩:=K.key k hk;have all:∀ e∈es.toList,∃ l,keyOf P kt e.key=some l:=by
    intro e he;have:(e.key,e.val)∈L.map (fun p=>(enc p.1,encv p.2)):=by rw[← h2];exact List.mem_map_of_mem (f:=fun e:MapEntry=>(e.key,e.val)) he
    obtain⟨p,hp,Fv⟩:=List.mem_map.1 this;simp only[Prod.mk.injEq]at Fv;rw[← Fv.1];exact K.key _ (h3 p hp)
  rcases K.law.find w hl es.toList all with⟨e1,e2⟩ | ⟨j,e,e1,e2,e3⟩
  · refine .inl ⟨e1,mX.2 fun p hp e=>?_⟩;have:(enc p.1,encv p.2)∈es.toList.map (fun e=>(e.key,e.val)):=by rw[h2];exact List.mem_map_of_mem (f:=fun p:κ×υ=>(enc p.1,encv p.2)) hp
    obtain⟨x,hx,Hh⟩:=List.mem_map.1 this;simp only[Prod.mk.injEq]at Hh;exact e2 x hx (by rw[Hh.1,e])
  · have hj:(L.map (fun p=>(enc p.1,encv p.2)))[j]?=some (e.key,e.val):=by rw[← h2,List.getElem?_map,e2];rfl
    rw[List.getElem?_map,Option.map_eq_some_iff]at hj;obtain⟨⟨k',v⟩,hL,hp⟩:=hj;simp only[Prod.mk.injEq]at hp;have:k'=k:=K.inj _ _ (hp.1.trans e3);subst this;exact .inr ⟨j,v,by rw[e1,hp.2],hL,(wR h4).2 (List.mem_of_getElem? hL),e,by simpa using e2,e3⟩
theorem eE.look(K:Db P kt enc ok)(hm:P.underlying mt=some (.map kt et)){z:Value}(hz:(zeroValue et).run P w=.ok z w)(h:eE enc ok encv w b L){k:κ}(hk:ok k)(c:Bool):
    Sem.run P (Instr.lookup mt (.map (some b)) (enc k) c) w=.ok (if c then .tuple #[((fX L k).map encv).getD z,.bool (fX L k).isSome] else((fX L k).map encv).getD z) w:=by
  obtain⟨es,clock,hb,r⟩:=id h;obtain⟨l,hl⟩:=K.key k hk;have Eh:=fun em=>K.law.check w em hl;rcases h.find K hb hk with⟨h1,h2⟩ | ⟨j,v,h1,h2,h3,_⟩
  · rw[h2];cases c <;>simp[Instr.lookup,run_underlying hm,MapKept.run_getObj_map hb,Eh,h1,hz,Result.andThen]
  · rw[h3];cases c <;>simp[Instr.lookup,run_underlying hm,MapKept.run_getObj_map hb,Eh,h1,Result.andThen]
theorem eE.update (K:Db P kt enc ok) (hm:P.underlying mt=some (.map kt et)) (h:eE enc ok encv w b L) {k:κ} (hk:ok k) (v:υ) :
    ∃ w',Sem.run P (Instr.mapUpdate mt (.map (some b)) (enc k) (encv v)) w=.ok () w'/\eE enc ok encv w' b (mN L k v)/\w.grownBy w' (some b):=by
  obtain⟨es,clock,hb,hL,Er,EA,G0⟩:=id h;obtain⟨l,hl⟩:=K.key k hk;have Eh:=fun em=>K.law.check w em hl;have gr:∀ o,w.grownBy { w with heap:=w.heap.setIfInBounds b o } (some b):=fun o =>
    ⟨rfl,rfl,rfl,by simp,fun i hi hr=>by simp[Array.getElem?_setIfInBounds,show ¬ b=i from fun e=>hr (by rw[e])]⟩
  have ok':∀ p∈mN L k v,ok p.1:=by
    intro p hp;have:p.1∈(mN L k v).map Prod.fst:=List.mem_map_of_mem hp;rw[rH]at this;split at this
    · rcases List.mem_append.1 this with e | e
      · obtain⟨q,hq,e⟩:=List.mem_map.1 e;rw[← e];exact Er q hq
      · have:p.1=k:=by simpa using e
        rw[this];exact hk
    · obtain⟨q,hq,e⟩:=List.mem_map.1 this;rw[← e];exact Er q hq
  rcases h.find K hb hk with⟨h1,h2⟩ | ⟨j,u,h1,h2,h3,e,he,KU⟩
  · refine⟨_,by simp only[Instr.mapUpdate,Sem.run_bind,run_underlying hm,MapKept.run_getObj_map hb,Eh,h1,Result.andThen];exact MapKept.run_setObj_map _ hb,⟨_,_,(heap_set hb).1,?_,ok',oP EA k v,G0.push _ _⟩,gr _⟩;rw[AX h2];simp[hL]
  · have Jj:=K.law.stays w hl;have D7:((es[j]?).map (·.key)).getD (enc k)=enc k:=by rw[he];exact KU
    refine⟨_,by simp only[Instr.mapUpdate,Sem.run_bind,run_underlying hm,MapKept.run_getObj_map hb,Eh,h1,Result.andThen,D7,Jj];exact MapKept.run_setObj_map _ hb,⟨_,_,(heap_set hb).1,?_,ok',oP EA k v,G0.of_born (by
      apply List.ext_getElem?;intro i;simp only[List.getElem?_map,Array.getElem?_toList,Array.getElem?_modify];split
      · cases es[i]? <;>rfl
      · rfl)⟩,gr _⟩
    rw[CD EA h2];apply List.ext_getElem?;intro i;have JS:(es.toList.map (fun e=>(e.key,e.val)))[i]?=(L.map (fun p=>(enc p.1,encv p.2)))[i]?:=by rw[hL]
    simp only[List.getElem?_map,Array.getElem?_toList]at JS;rw[List.getElem?_map,Array.getElem?_toList,Array.getElem?_modify,List.getElem?_map,List.getElem?_set];by_cases Eb:j=i
    · subst Eb;have DL:=(List.getElem?_eq_some_iff.1 h2).1;rw[if_pos rfl,if_pos rfl,if_pos DL,he];rfl
    · rw[if_neg Eb,if_neg Eb];exact JS
end
end Go.V
/-! A map ranged over: each key once, in whatever order. No program. -/
namespace Go.V
open Go Go.RowKit Go.ChangeMaps
section
variable {κ υ : Type} {P : Program} {w w' : World} {mt kt et : TypeId} {enc : κ → Value} {ok : κ → Prop} {encv : υ → Value} {b r : Nat} {L : List (κ × υ)} {done : List κ} {last : Option (κ × υ)}
def lC(enc:κ->Value)(encv:υ->Value)(w:World)(r b:Nat)(L:List (κ×υ))(done:List κ)(last:Option (κ×υ)):Prop :=
 ∃(es:Array MapEntry)(clock since:Nat)(seen:Array Nat)(c0:Nat),w.heap[b]?=some (.map es clock)/\es.toList.map (fun e=>(e.key,e.val))=L.map (fun p=>(enc p.1,encv p.2)) ∧
  (∀ e∈es.toList,e.born<since)/\(es.toList.map (·.born)).Nodup/\w.heap[r]?=some (.mapIter (some b) since seen c0)/\(since<=c0/\since<=clock)/\(L.map Prod.fst).Nodup ∧
  (∀(j:Nat)(e:MapEntry)(p:κ×υ),es.toList[j]?=some e->L[j]?=some p->(seen.contains e.born=true↔p.1∈done)) ∧
  (∀ p,last=some p->∃ e∈es.toList,∃ seen':Array Nat,e.key=enc p.1/\e.val=encv p.2/\seen=seen'.push e.born/\c0=clock)
theorem eE.range(hm:P.underlying mt=some (.map kt et))(h:eE enc ok encv w b L):
    ∃ o:Obj,Sem.run P (Instr.range mt (.map (some b))) w=.ok (.pointer (some ⟨w.heap.size,0,none⟩)) (w.alloc o)/\lC enc encv (w.alloc o) w.heap.size b L ([]:List κ) none:=by
  obtain⟨es,clock,hb,hL,Er,EA,G0⟩:=h;have DL:=(Array.getElem?_eq_some_iff.1 hb).1;exact⟨.mapIter (some b) clock #[] clock,run_range_map w mt kt et b es clock hm hb,es,clock,clock,#[],clock,by rw[(MapKept.heap_alloc w _).2 b DL];exact hb,hL,G0.1,G0.2,(MapKept.heap_alloc w _).1,⟨Nat.le_refl _,Nat.le_refl _⟩,EA,fun j e p _ _=>by simp,fun p hp=>by cases hp⟩
theorem lC.next (hE:∀ x y,enc x=enc y->x=y) (h:lC enc encv w r b L done last) (ty:TypeId) :
    ((∀ p∈L,p.1∈done)/\Sem.run P (Instr.next (.pointer (some ⟨r,0,none⟩)) false ty) w=.ok (.tuple #[.bool false]) w) ∨
    ∃ p∈L,p.1 ∉ done/\∃ w':World,Sem.run P (Instr.next (.pointer (some ⟨r,0,none⟩)) false ty) w=.ok (.tuple #[.bool true,enc p.1,encv p.2]) w'/\lC enc encv w' r b L (p.1 ::done) (some p)/\Kp w w' (fun k=>k=r):=by
  obtain⟨es,clock,since,seen,c0,h1,h2,h3,h4,h5,h6,EA,h7,h8⟩:=h;have DO:es.toList.length=L.length:=by have:=congrArg List.length h2;simpa using this
  have K6:b≠r:=by
    intro e;subst e;rw[h1]at h5;cases h5
  have pair:∀(j:Nat)(e:MapEntry),es.toList[j]?=some e->∃ p,L[j]?=some p/\e.key=enc p.1/\e.val=encv p.2:=by
    intro j e he;have hj:j<L.length:=by have:=(List.getElem?_eq_some_iff.1 he).1;omega
    refine⟨L[j],by simp[hj],?_⟩;have:=congrArg (fun l=>l[j]?) h2;simp only[List.getElem?_map,he,List.getElem?_eq_getElem hj,Option.map_some,Option.some.injEq,Prod.mk.injEq]at this;exact this
  rcases run_next_at (P:=P) w ty r b since c0 seen es clock h5 h1 h3 h6.1 with⟨q1,q2⟩ | ⟨e,he,w1,DU,q2⟩
  · refine .inl ⟨fun p hp=>?_,q2⟩;obtain⟨j,hj,rfl⟩:=List.mem_iff_getElem.1 hp;have EL:j<es.toList.length:=by omega
    refine(h7 j es.toList[j] L[j] (by simp[EL]) (by simp[hj])).1 ?_;cases hc:seen.contains es.toList[j].born with
    | true=>rfl
    | false =>
      exfalso;have:es.toList[j]∈(leftOf es seen).toList:=by
        unfold leftOf;rw[Array.toList_filter,List.mem_filter];exact⟨List.getElem_mem EL,by rw[hc];rfl⟩
      have h0:(leftOf es seen).toList.length=0:=by simpa using q1
      rw[List.length_eq_zero_iff.1 h0]at this;simp at this
  · unfold leftOf at he;rw[Array.toList_filter,List.mem_filter]at he;obtain⟨j,hj,KG⟩:=List.mem_iff_getElem.1 he.1;have Hs:es.toList[j]?=some e:=by rw[List.getElem?_eq_getElem hj,KG]
    obtain⟨p,hp,hk,hv⟩:=pair j e Hs;have Ib:p.1 ∉ done:=by
      intro hd;have:=(h7 j e p Hs hp).2 hd;have h9:=he.2;simp only[this]at h9;cases h9
    have hw:w1.heap=w.heap/\w1.os=w.os/\w1.tape=w.tape/\w1.output=w.output:=by rcases DU with rfl | rfl <;>exact⟨rfl,rfl,rfl,rfl⟩
    have Hm:=(Array.getElem?_eq_some_iff.1 h5).1;refine .inr ⟨p,List.mem_of_getElem? hp,Ib,setBlock w1 r (.mapIter (some b) since (seen.push e.born) clock),by rw[q2,hk,hv],⟨es,clock,since,seen.push e.born,clock,?_,h2,h3,h4,?_,?_,EA,?_,?_⟩,⟨hw.2.1,hw.2.2.1,hw.2.2.2,by simp[setBlock,hw.1],fun k Gc hS=>?_⟩⟩
    · simp only[setBlock,hw.1];rw[Array.getElem?_setIfInBounds_ne (fun e=>K6 e.symm)];exact h1
    · simp only[setBlock,hw.1];rw[Array.getElem?_setIfInBounds_self_of_lt Hm]
    · exact⟨h6.2,h6.2⟩
    · intro j' e' p' EL E7;rw[Array.contains_push,Bool.or_eq_true,h7 j' e' p' EL E7,List.mem_cons];have key:(e'.born ==e.born)=true↔p'.1=p.1:=by
        rw[beq_iff_eq];constructor
        · intro hb;have EU:=(List.getElem?_eq_some_iff.1 EL).1;have:j'=j:=by
            have Ey:(es.toList.map (·.born))[j']?=(es.toList.map (·.born))[j]?:=by simp only[List.getElem?_map,EL,Hs,Option.map_some,hb]
            exact(List.getElem?_inj (by simpa using EU) h4).1 Ey
          subst this;rw[hp]at E7;cases E7;rfl
        · intro Kv;have EU:=(List.getElem?_eq_some_iff.1 E7).1;have:j'=j:=by
            have Ey:(L.map Prod.fst)[j']?=(L.map Prod.fst)[j]?:=by simp only[List.getElem?_map,E7,hp,Option.map_some,Kv]
            exact(List.getElem?_inj (by simpa using EU) EA).1 Ey
          subst this;rw[Hs]at EL;cases EL;rfl
      constructor
      · rintro(h | h)
        · exact .inr h
        · exact .inl (key.1 h)
      · rintro(h | h)
        · exact .inr (key.2 h)
        · exact .inl h
    · intro p' E7;cases E7;exact⟨e,he.1,seen,hk,hv,rfl,rfl⟩
    · simp only[setBlock,hw.1];rw[Array.getElem?_setIfInBounds_ne (fun e=>hS e.symm)]
theorem lC.entry{p:κ×υ}(h:lC enc encv w r b L done (some p)):Sem.run P (Instr.entry (.pointer (some ⟨r,0,none⟩))) w=.ok (.tuple #[enc p.1,encv p.2]) w:=by
 obtain⟨es,clock,since,seen,c0,h1,h2,h3,h4,h5,h6,EA,h7,h8⟩:=h;obtain⟨e,he,seen',hk,hv,rfl,rfl⟩:=h8 p rfl;rw[run_entry_at (P:=P) w r b since seen' es c0 e h5 h1 he h4,hk,hv]
end
end Go.V
/-! Rows of elements of several cells: copied into, cleared, lengthened by noughts. No program. -/
namespace Go.V
open Go Go.RowKit
section
variable {P : Program} {w w' : World}
theorem aD.of_block{base size g n c:Nat}{e:TypeId}{cur:Array Value}{xs:List Value}(hb:base<=g)(hg:w.heap[g]?=some (.cells cur e (0,0)))(hn:n<=c)(hc:c<=maxLen)(hs:cur.size=c*size)(hx:xs.length=n*size)(ht:cur.toList.take (n*size)=xs):
    aD w base e size (some ⟨g,0,none⟩) n c xs:=⟨hx,.inr ⟨g,c,cur,rfl,hb,hg,hn,hc,hs,ht⟩⟩
end
end Go.V
/-! Blocks that are kept; a cell of an owned row set. No program. -/
namespace Go.V
open Go Go.RowKit
theorem aE{w w':World}{g:Nat}{o:Obj}(h:w.heap[g]?=some o)(hg:w.grownBy w' none):w'.heap[g]?=some o:=by rw[hg.block _ (Array.getElem?_eq_some_iff.1 h).1 (by simp)];exact h
theorem dW{w w':World}{S:Nat->Prop}{g j:Nat}{u:Value}(h:Kp w w' S)(hS:S g):Kp w (w'.setCell ⟨g,j,none⟩ u) S:=h.set (p:=⟨g,j,none⟩) (.inr hS) u
theorem bB(b q:Nat):Addr.add ⟨b,0,none⟩ q=⟨b,q,none⟩:=by
 unfold Addr.add;split <;>simp_all
theorem cV(b k j:Nat):Addr.add ⟨b,k,none⟩ j=⟨b,k+j,none⟩:=by
 unfold Addr.add;split <;>simp_all
theorem lO(w:World)(cs:Array Value)(t:TypeId):bC (w.alloc (.cells cs t)) (some ⟨w.heap.size,0,none⟩) cs.toList:=by
 intro j u hj;refine⟨_,rfl,?_⟩;rw[aJ,World.cell?_alloc_new];simpa using hj
theorem qF(a:Addr):a.add 0=a:=by cases a;unfold Addr.add;split <;>simp_all
theorem aP{w a b:World}{r:Option Nat}(g:w.grownBy a none)(g':a.grownBy b r)(h:∀ k,r=some k->w.heap.size<=k):w.grownBy b none:=(Kp.step (S:=fun k=>w.heap.size<=k) (Kp.of_none g) g' (fun k hk=>.inl (h k hk))).grown (fun k hk e=>by omega)
theorem mQ{w:World}{b s n c:Nat}{e:TypeId}{A:OA}{xs:List Value}(h:aD w b e s A n c xs):n<=c:=by
 obtain⟨_,h2 | ⟨_,_,_,_,_,h5,_⟩⟩:=h.cases
 ·obtain⟨_,rfl,rfl,_⟩:=h2;omega
 ·exact h5
theorem bZ(w:World)(cs:Array Value)(t:TypeId):∃ v,v=w.alloc (.cells cs t)/\w.grownBy v none/\v.heap[w.heap.size]?=some (.cells cs t (0,0)):=⟨_,rfl,World.grownBy_alloc _ _ _,heap_alloc_new _ _⟩
theorem AI(w:World)(t:TypeId)(a0 a1 b0 b1:Value):∃ v,v=(((w.alloc (.cells #[a0,a1] t)).setCell ⟨w.heap.size,0,none⟩ b0).setCell ⟨w.heap.size,1,none⟩ b1)/\(∃ u,(w.alloc (.cells #[a0,a1] t)).cell? ⟨w.heap.size,0,none⟩=some u)/\(w.alloc (.cells #[a0,a1] t)).frozen? ⟨w.heap.size,0,none⟩=false/\(∃ u,((w.alloc (.cells #[a0,a1] t)).setCell ⟨w.heap.size,0,none⟩ b0).cell? ⟨w.heap.size,1,none⟩=some u)/\((w.alloc (.cells #[a0,a1] t)).setCell ⟨w.heap.size,0,none⟩ b0).frozen? ⟨w.heap.size,1,none⟩=false/\v.heap[w.heap.size]?=some (.cells #[b0,b1] t (0,0))/\w.grownBy v none:=by
 have s0:=heap_alloc_new w (.cells #[a0,a1] t);have s1:=aH s0 0 b0;have s2:=aH s1 1 b1;exact⟨_,rfl,⟨_,aA s0 0⟩,aC s0 0,⟨_,aA s1 1⟩,aC s1 1,by simpa using s2,Kp.grown (dW (dW (Kp.of_none (S:=fun k=>w.heap.size<=k) (World.grownBy_alloc w _ none)) (Nat.le_refl _)) (Nat.le_refl _)) (fun k hk e=>by omega)⟩
theorem Dj(w:World)(t:TypeId)(a0 a1 a2 b0 b1 b2:Value):∃ v,v=((((w.alloc (.cells #[a0,a1,a2] t)).setCell ⟨w.heap.size,0,none⟩ b0).setCell ⟨w.heap.size,1,none⟩ b1).setCell ⟨w.heap.size,2,none⟩ b2)/\(∃ u,(w.alloc (.cells #[a0,a1,a2] t)).cell? ⟨w.heap.size,0,none⟩=some u)/\(w.alloc (.cells #[a0,a1,a2] t)).frozen? ⟨w.heap.size,0,none⟩=false/\(∃ u,((w.alloc (.cells #[a0,a1,a2] t)).setCell ⟨w.heap.size,0,none⟩ b0).cell? ⟨w.heap.size,1,none⟩=some u)/\((w.alloc (.cells #[a0,a1,a2] t)).setCell ⟨w.heap.size,0,none⟩ b0).frozen? ⟨w.heap.size,1,none⟩=false/\(∃ u,(((w.alloc (.cells #[a0,a1,a2] t)).setCell ⟨w.heap.size,0,none⟩ b0).setCell ⟨w.heap.size,1,none⟩ b1).cell? ⟨w.heap.size,2,none⟩=some u)/\(((w.alloc (.cells #[a0,a1,a2] t)).setCell ⟨w.heap.size,0,none⟩ b0).setCell ⟨w.heap.size,1,none⟩ b1).frozen? ⟨w.heap.size,2,none⟩=false/\v.heap[w.heap.size]?=some (.cells #[b0,b1,b2] t (0,0))/\w.grownBy v none:=by
 have s0:=heap_alloc_new w (.cells #[a0,a1,a2] t);have s1:=aH s0 0 b0;have s2:=aH s1 1 b1;have s3:=aH s2 2 b2;exact⟨_,rfl,⟨_,aA s0 0⟩,aC s0 0,⟨_,aA s1 1⟩,aC s1 1,⟨_,aA s2 2⟩,aC s2 2,by simpa using s3,Kp.grown (dW (dW (dW (Kp.of_none (S:=fun k=>w.heap.size<=k) (World.grownBy_alloc w _ none)) (Nat.le_refl _)) (Nat.le_refl _)) (Nat.le_refl _)) (fun k hk e=>by omega)⟩
theorem Di(w:World)(t:TypeId)(a0 a1 a2 a3 b0 b1 b2 b3:Value):∃ v,v=(((((w.alloc (.cells #[a0,a1,a2,a3] t)).setCell ⟨w.heap.size,0,none⟩ b0).setCell ⟨w.heap.size,1,none⟩ b1).setCell ⟨w.heap.size,2,none⟩ b2).setCell ⟨w.heap.size,3,none⟩ b3)/\(∃ u,(w.alloc (.cells #[a0,a1,a2,a3] t)).cell? ⟨w.heap.size,0,none⟩=some u)/\(w.alloc (.cells #[a0,a1,a2,a3] t)).frozen? ⟨w.heap.size,0,none⟩=false/\(∃ u,((w.alloc (.cells #[a0,a1,a2,a3] t)).setCell ⟨w.heap.size,0,none⟩ b0).cell? ⟨w.heap.size,1,none⟩=some u)/\((w.alloc (.cells #[a0,a1,a2,a3] t)).setCell ⟨w.heap.size,0,none⟩ b0).frozen? ⟨w.heap.size,1,none⟩=false/\(∃ u,(((w.alloc (.cells #[a0,a1,a2,a3] t)).setCell ⟨w.heap.size,0,none⟩ b0).setCell ⟨w.heap.size,1,none⟩ b1).cell? ⟨w.heap.size,2,none⟩=some u)/\(((w.alloc (.cells #[a0,a1,a2,a3] t)).setCell ⟨w.heap.size,0,none⟩ b0).setCell ⟨w.heap.size,1,none⟩ b1).frozen? ⟨w.heap.size,2,none⟩=false/\(∃ u,((((w.alloc (.cells #[a0,a1,a2,a3] t)).setCell ⟨w.heap.size,0,none⟩ b0).setCell ⟨w.heap.size,1,none⟩ b1).setCell ⟨w.heap.size,2,none⟩ b2).cell? ⟨w.heap.size,3,none⟩=some u)/\((((w.alloc (.cells #[a0,a1,a2,a3] t)).setCell ⟨w.heap.size,0,none⟩ b0).setCell ⟨w.heap.size,1,none⟩ b1).setCell ⟨w.heap.size,2,none⟩ b2).frozen? ⟨w.heap.size,3,none⟩=false/\v.heap[w.heap.size]?=some (.cells #[b0,b1,b2,b3] t (0,0))/\w.grownBy v none:=by
 have s0:=heap_alloc_new w (.cells #[a0,a1,a2,a3] t);have s1:=aH s0 0 b0;have s2:=aH s1 1 b1;have s3:=aH s2 2 b2;have s4:=aH s3 3 b3;exact⟨_,rfl,⟨_,aA s0 0⟩,aC s0 0,⟨_,aA s1 1⟩,aC s1 1,⟨_,aA s2 2⟩,aC s2 2,⟨_,aA s3 3⟩,aC s3 3,by simpa using s4,Kp.grown (dW (dW (dW (dW (Kp.of_none (S:=fun k=>w.heap.size<=k) (World.grownBy_alloc w _ none)) (Nat.le_refl _)) (Nat.le_refl _)) (Nat.le_refl _)) (Nat.le_refl _)) (fun k hk e=>by omega)⟩
theorem Az{W:World}{base s n c g:Nat}{e t:TypeId}{fr:Nat×Nat}{A:OA}{xs:List Value}{cur:Array Value}(h:aD W base e s A n c xs)(hb:W.heap[g]?=some (.cells cur t fr))(ne:e≠t):(Value.slice A n c).ownBlock≠some g:=by
 intro hg;obtain⟨cur',h'⟩:=h.block_type g hg;rw[hb]at h';cases h';exact ne rfl
theorem CM{W:World}{base:Nat}{A:OA}{n c:Nat}{ty:TypeId}{s:Nat}{xs:List Value}(ho:aD W base ty s A n c xs){k:Nat}(hk:k<xs.length)(u:Value):
    ∃(b:Nat),A=some ⟨b,0,none⟩/\base<=b/\(∃ cur,W.heap[b]?=some (.cells cur ty (0,0)))/\(∃ uv_:Value,W.cell? ⟨b,k,none⟩=some uv_)/\W.frozen? ⟨b,k,none⟩=false/\aD (W.setCell ⟨b,k,none⟩ u) base ty s A n c (xs.set k u)/\Kp W (W.setCell ⟨b,k,none⟩ u) (fun q=>q=b):=by
  obtain⟨h1,h2 | ⟨b,cur,rfl,h3,h4,h5,h6,h7,h8⟩⟩:=ho.cases
  · obtain⟨_,_,_,rfl⟩:=h2;simp at hk
  · have KE:k<cur.size:=by rw[h7];have:=Nat.mul_le_mul_right s h5;omega
    refine⟨b,rfl,h3,⟨cur,h6⟩,⟨cur[k],by rw[aA h6,Array.getElem?_eq_getElem KE]⟩,aC h6 k,?_,dW (Kp.refl W _) rfl⟩;refine aD.of_block h3 (aH h6 k u) h5 h4 (by simp[h7]) (by simp[h1]) ?_;rw[← h8,← List.take_set];simp
end Go.V
