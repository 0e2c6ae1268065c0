/- Own texts, packed: M1, M2, M3, KM, MV, MW, M4, M5. -/
import Derived.Test.YtlieaecnllkefaaGreatGAg
import Derived.Below
import Derived.Laws.AppendOwn
import Derived.Laws.OwnMore
import Derived.Maps.AppendAt
import Derived.Test.YtlieaecnllkefaaGreatGBg
import Derived.DeepKeys5
import Derived.WideKeyPair
import Derived.MapFrom
import Derived.Maps.Keyed
import Derived.Maps.RangeRun
import Derived.Laws.CopyRow
/-! Rows in memory that a call owns, read and written cell by cell; what a world keeps. No program. -/
set_option linter.unusedVariables false
set_option linter.unusedSimpArgs false
set_option linter.unusedSectionVars false
namespace Go.V
open Go Go.RowKit
def cC(w:World)(g:Nat)(e:TypeId)(cap:Nat)(xs:List Value):Prop :=
 ∃ cur:Array Value,w.heap[g]?=some (.cells cur e (0,0))/\cur.size=cap/\∃ t,cur.toList=xs++t
def bB(w:World)(A:OA)(xs:List Value):Prop:=∀ j u,xs[j]?=some u->∃ a,A=some a/\w.cell? (a.add j)=some u
theorem aL(a:Addr)(n:Nat):(a.add n).block=a.block:=by unfold Addr.add;split <;>rfl
theorem aN(g j:Nat):(⟨g,0,none⟩:Addr).add j=⟨g,j,none⟩:=by unfold Addr.add;split <;>simp_all
theorem aD(w:World)(r:Option Nat):w.grownBy w r:=⟨rfl,rfl,rfl,Nat.le_refl _,fun _ _ _=>rfl⟩
theorem aB{a b c:World}{r:Option Nat}(h:a.grownBy b r)(k:b.grownBy c r):a.grownBy c r :=
 ⟨k.os.trans h.os,k.tape.trans h.tape,k.output.trans h.output,Nat.le_trans h.size k.size,fun i hi hr=>(k.block i (Nat.lt_of_lt_of_le hi h.size) hr).trans (h.block i hi hr)⟩
theorem bM{a b:World}{r:Option Nat}(h:a.grownBy b none):a.grownBy b r:=⟨h.os,h.tape,h.output,h.size,fun i hi _=>h.block i hi (by simp)⟩
theorem aI{a b:World}{r:Option Nat}(h:a.grownBy b r):a.grownBy b.drew r:=⟨h.os,h.tape,h.output,h.size,h.block⟩
theorem bZ{a b:World}{g:Nat}(h:a.grownBy b (some g)){p:Addr}(hp:p.block=g)(u:Value):a.grownBy (b.setCell p u) (some g) :=
 aB h ⟨rfl,rfl,rfl,by simp,fun k hk hr=>Below.heap_setCell _ _ _ _ (by rw[hp];intro e;exact hr (by rw[e]))⟩
theorem pR{a b:World}{r:Option Nat}(h:a.grownBy b r)(o:Obj):a.grownBy (b.alloc o) r:=aB h (World.grownBy_alloc b o r)
theorem xl{B:Nat}{a b:World}{r:Option Nat}(h:a.grownBy b r)(hB:B<=a.heap.size)(hr:∀ k,r=some k->B<=k):Below B a b :=
 (Below.refl B a).grown h hB hr
section
variable {w w' : World} {g : Nat} {e : TypeId} {cap : Nat} {xs : List Value}
theorem cC.lt(h:cC w g e cap xs):g<w.heap.size:=by
 obtain⟨cur,h1,_⟩:=h;exact(Array.getElem?_eq_some_iff.1 h1).1
theorem cC.length(h:cC w g e cap xs):xs.length<=cap:=by
 obtain⟨cur,_,h1,t,h2⟩:=h;have:=congrArg List.length h2;simp at this;omega
theorem cC.cell(h:cC w g e cap xs){j:Nat}{u:Value}(hj:xs[j]?=some u):w.cell? ((⟨g,0,none⟩:Addr).add j)=some u:=by
 obtain⟨cur,h1,h2,t,h3⟩:=h;rw[aN,World.cell?,h1];simp only[Option.isSome_none,Bool.false_eq_true,if_false];have:cur[j]?=cur.toList[j]?:=by simp
 rw[this,h3,List.getElem?_append_left (List.getElem?_eq_some_iff.1 hj).1,hj]
theorem cC.row(h:cC w g e cap xs):bB w (some ⟨g,0,none⟩) xs:=fun j u hj=>⟨_,rfl,h.cell hj⟩
theorem cC.notFrozen(h:cC w g e cap xs){p:Addr}(hp:p.block=g):w.frozen? p=false:=by
 obtain⟨cur,h1,_⟩:=h;rw[World.frozen?,hp,h1];simp
theorem cC.of_heap(h:cC w g e cap xs)(hh:w'.heap[g]?=w.heap[g]?):cC w' g e cap xs:=by
 obtain⟨cur,h1,h2⟩:=h;exact⟨cur,hh.trans h1,h2⟩
theorem cC.drew(h:cC w g e cap xs):cC w.drew g e cap xs:=h.of_heap rfl
theorem cC.kept{r:Option Nat}(h:cC w g e cap xs)(hg:w.grownBy w' r)(hr:some g≠r):cC w' g e cap xs:=h.of_heap (hg.block g h.lt hr)
theorem cC.kept_none(h:cC w g e cap xs)(hg:w.grownBy w' none):cC w' g e cap xs:=h.kept hg (by simp)
theorem cC.set(h:cC w g e cap xs){j:Nat}(hj:j<xs.length)(u:Value):cC (w.setCell ((⟨g,0,none⟩:Addr).add j) u) g e cap (xs.set j u):=by
 obtain⟨cur,h1,h2,t,h3⟩:=h;refine⟨cur.setIfInBounds j u,?_,by simpa using h2,t,?_⟩
 ·rw[aN];simp[World.setCell,Array.getElem?_modify,h1]
 ·rw[Array.toList_setIfInBounds,h3,List.set_append_left _ _ hj]
theorem cC.ownsRow{base:Nat}(h:cC w g e cap xs)(hb:base<=g)(hc:cap<=maxLen):w.ownsRow base e 1 (.slice (some ⟨g,0,none⟩) xs.length cap) xs.length xs:=by
 have hl:=h.length;obtain⟨cur,h1,h2,t,h3⟩:=h;refine⟨by simp,.inr ⟨g,cap,cur,rfl,hb,h1,hl,hc,by simpa using h2,?_⟩⟩;rw[h3];simp
theorem cC.of_ownsRow{base n:Nat}(h:w.ownsRow base e 1 (.slice (some ⟨g,0,none⟩) n cap) n xs):cC w g e cap xs/\base<=g/\cap<=maxLen/\n=xs.length:=by
 obtain⟨h1,h2⟩:=h;rcases h2 with⟨h2,_⟩ | ⟨g',cap',cur,h2,hb,hh,hn,hc,hs,ht⟩
 ·cases h2
 ·cases h2;refine⟨⟨cur,hh,by simpa using hs,cur.toList.drop (n*1),?_⟩,hb,hc,by omega⟩;rw[← ht,List.take_append_drop]
theorem cC.cell_mid(h:cC w g e cap xs){C D:List Value}{u:Value}{j:Nat}(he:xs=C++u ::D)(hj:j=C.length):w.cell? ((⟨g,0,none⟩:Addr).add j)=some u :=
 h.cell (by subst he;subst hj;simp)
theorem cC.set_mid(h:cC w g e cap xs){C D ys:List Value}{u v:Value}{j:Nat}(he:xs=C++u ::D)(hj:j=C.length)(hy:ys=C++v ::D):cC (w.setCell ((⟨g,0,none⟩:Addr).add j) v) g e cap ys:=by
 subst he;subst hj;subst hy;have:=h.set (j:=C.length) (by simp) v;simpa using this
def cY(w:World)(base:Nat)(e:TypeId)(A:OA)(n c:Nat)(xs:List Value):Prop:=w.ownsRow base e 1 (.slice A n c) n xs
theorem cY.cases{base n c:Nat}{A:OA}(h:cY w base e A n c xs):n=xs.length/\((A=none/\n=0/\c=0/\xs=[])∨∃ g,A=some ⟨g,0,none⟩/\base<=g/\c<=maxLen/\n<=c/\cC w g e c xs):=by
 have h0:=h;obtain⟨h1,h2⟩:=h;refine⟨by omega,?_⟩;rcases h2 with⟨h2,h3⟩ | ⟨g',cap',cur,h2,hb,hh,hn,hc,hs,ht⟩
 ·cases h2;exact .inl ⟨rfl,rfl,rfl,List.eq_nil_of_length_eq_zero (by omega)⟩
 ·cases h2;exact .inr ⟨g',rfl,hb,hc,hn,(cC.of_ownsRow h0).1⟩
theorem cY.row{base n c:Nat}{A:OA}(h:cY w base e A n c xs):bB w A xs:=by
 obtain⟨h1,h2⟩:=h.cases;rcases h2 with⟨rfl,_,_,rfl⟩ | ⟨g,rfl,_,_,_,h3⟩
 ·intro j u hj;simp at hj
 ·exact h3.row
theorem cY.kept{base n c:Nat}{A:OA}(h:cY w base e A n c xs)(hg:w.grownBy w' none):cY w' base e A n c xs:=World.ownsRow.kept h hg (by cases h:(Value.slice A n c).ownBlock <;>simp)
theorem cY.mono{base base' n c:Nat}{A:OA}(h:cY w base e A n c xs)(hb:base'<=base):cY w base' e A n c xs:=by
 obtain⟨h1,h2⟩:=h;refine⟨h1,h2.imp id ?_⟩;rintro⟨g',cap',cur,h2,E6,r⟩;exact⟨g',cap',cur,h2,by omega,r⟩
theorem bB.nil(w:World)(A:OA):bB w A []:=fun j u hj=>by simp at hj
theorem bB.kept{A:OA}{r:Option Nat}(h:bB w A xs)(hg:w.grownBy w' r)(hr:∀ a,A=some a->some a.block≠r):bB w' A xs:=fun j u hj=>by
 obtain⟨a,h1,h2⟩:=h j u hj;refine⟨a,h1,hg.cell h2 ?_⟩;rw[aL];exact hr a h1
theorem bB.kept_none{A:OA}(h:bB w A xs)(hg:w.grownBy w' none):bB w' A xs:=h.kept hg (by simp)
theorem eL(a:Addr)(i j:Nat):(a.add i).add j=a.add (i+j):=by
 unfold Addr.add;by_cases hi:i=0
 ·simp[hi]
 ·by_cases hj:j=0
  ·simp[hi,hj]
  ·simp[hi,hj,Nat.add_assoc]
theorem bB.drop{A:OA}(h:bB w A xs)(k:Nat):bB w (A.map (·.add k)) (xs.drop k):=fun j u hj=>by
 rw[List.getElem?_drop]at hj;obtain⟨a,h1,h2⟩:=h _ _ hj;refine⟨a.add k,by rw[h1];rfl,?_⟩;rw[eL];exact h2
end
end Go.V
/-! Rows that a call builds: one member more; a row made. No program. -/
namespace Go.V
open Go Go.RowKit
structure AR(P:Program)(t e:TypeId)(z:Value)(bytes:Nat):Prop where
 ex:∃ i:TypeInfo,P.underlying t=some (.slice e)/\P.info? e=some i/\i.zero=some z/\i.size=1/\i.bytes=bytes/\z.cells=#[z]
section
variable {P : Program} {w0 w : World} {base : Nat} {e t ty : TypeId} {A : OA} {n c : Nat} {xs : List Value} {z : Value} {bytes : Nat}
theorem aP{r:Option Nat}{w1 w2:World}(h:w0.grownBy w1 none)(hg:w1.grownBy w2 r)(hr:∀ k,r=some k->w0.heap.size<=k):w0.grownBy w2 none :=
 ⟨hg.os.trans h.os,hg.tape.trans h.tape,hg.output.trans h.output,Nat.le_trans h.size hg.size,fun k hk _ =>
  (hg.block k (Nat.lt_of_lt_of_le hk h.size) (fun e=>by have:=hr k e.symm;omega)).trans (h.block k hk (by simp))⟩
theorem cY.block_ge(h:cY w base e A n c xs):∀ k,(Value.slice A n c).ownBlock=some k->base<=k:=fun k hk=>(World.ownsRow.lt h k hk).1
theorem cY.appends(hE:AR P t e z bytes)(hb:bytes<=64)(h:cY w base e A n c xs){a:Addr}{m cc:Nat}{us:List Value}(hm:us.length=m)(ha:∀ j u,us[j]?=some u->w.cell? (a.add j)=some u)(hu:∀ u∈us,u.oneCell'=true)(hn:n+m<=2^40)(DM:base<=w.heap.size):
    ∃(A':OA)(n' c':Nat)(w':World),Sem.run P (Builtin.append_ #[t,t] ty #[.slice A n c,.slice (some a) m cc]) w=.ok (.slice A' n' c') w'/\cY w' base e A' n' c' (xs++us)/\w.grownBy w' (Value.slice A n c).ownBlock:=by
  obtain⟨i,h1,h2,h3,h4,h5,h6⟩:=hE.ex;have KG:(n+m)*bytes<=2^40*64:=Nat.mul_le_mul hn hb;obtain⟨v',w',hr,ho,hg,_⟩:=run_append_own (P:=P) w base t ty e i z 1 bytes h1 h2 h3 h4 h5 (by rw[h6];rfl) (by omega) _ n xs h a m cc us (by omega) ha hu (by simp only[maxLen];omega) (by omega) DM;rcases ho.2 with⟨rfl,hz⟩ | ⟨g,cap,cur,rfl,r⟩
  · have FE:=ho;rw[hz]at FE;exact⟨_,_,_,w',hr,FE,hg⟩
  · exact⟨_,_,_,w',hr,ho,hg⟩
theorem cY.append1(hE:AR P t e z bytes)(hb:bytes<=64)(h:cY w base e A n c xs){a:Addr}{cc:Nat}{u:Value}(ha:w.cell? a=some u)(hu:u.oneCell'=true)(hn:n+1<=2^40)(DM:base<=w.heap.size):
    ∃(A':OA)(n' c':Nat)(w':World),Sem.run P (Builtin.append_ #[t,t] ty #[.slice A n c,.slice (some a) 1 cc]) w=.ok (.slice A' n' c') w'/\cY w' base e A' n' c' (xs++[u])/\w.grownBy w' (Value.slice A n c).ownBlock:=by
  refine h.appends hE hb rfl ?_ (by simpa using hu) hn DM;intro j v hj;cases j with
  | zero =>
    have:a.add 0=a:=by simp[Addr.add]
    rw[this];simpa using hj▸ha
  | succ j=>simp at hj
theorem nH(hE:AR P t e z bytes)(hb:bytes<=64){m:Nat}(hm:m<=2^40):
    ∃ w',Sem.run P (Instr.makeSlice t (.int .i64 (m:Int)) (.int .i64 (m:Int))) w=.ok (.slice (some ⟨w.heap.size,0,none⟩) m m) w'/\cC w' w.heap.size e m (List.replicate m z)/\w.grownBy w' none:=by
  obtain⟨i,h1,h2,h3,h4,h5,h6⟩:=hE.ex;have KG:bytes*m<=64*2^40:=Nat.mul_le_mul hb hm;obtain⟨w',hr,ho,hg⟩:=run_make_full (P:=P) w w.heap.size t e i z 1 h1 h2 h3 h4 .i64 .i64 m (by rw[h5];omega) (by simp only[maxLen];omega) (Nat.le_refl _);rw[h6,toList_madeCells_one,Nat.mul_one]at ho;exact⟨w',hr,(cC.of_ownsRow ho).1,hg⟩
end
end Go.V
/-! Rows of elements of several cells: read, appended to. No program. -/
namespace Go.V
open Go Go.RowKit
def aH(w:World)(base:Nat)(e:TypeId)(size:Nat)(A:OA)(n c:Nat)(xs:List Value):Prop:=w.ownsRow base e size (.slice A n c) n xs
structure uw(P:Program)(t e:TypeId)(size bytes:Nat):Prop where
 ex:∃(i:TypeInfo)(z:Value),P.underlying t=some (.slice e)/\P.info? e=some i/\i.zero=some z/\i.size=size/\i.bytes=bytes/\z.cells.size=size/\0<size
section
variable {P : Program} {w0 w w' : World} {base size : Nat} {e t ty : TypeId} {A : OA} {n c : Nat} {xs : List Value} {bytes : Nat}
theorem aH.nil(w:World)(base:Nat)(e:TypeId)(size:Nat):aH w base e size none 0 0 []:=World.ownsRow_nil _ _ _ _
theorem aH.cases(h:aH w base e size A n c xs):xs.length=n*size/\((A=none/\n=0/\c=0/\xs=[])∨∃(g:Nat)(cur:Array Value),A=some ⟨g,0,none⟩/\base<=g/\c<=maxLen/\n<=c/\w.heap[g]?=some (.cells cur e (0,0))/\cur.size=c*size/\cur.toList.take (n*size)=xs):=by
 obtain⟨h1,h2⟩:=h;refine⟨h1,?_⟩;rcases h2 with⟨h2,h3⟩ | ⟨g',cap',cur,h2,hb,hh,hn,hc,hs,ht⟩
 ·cases h2;exact .inl ⟨rfl,rfl,rfl,List.eq_nil_of_length_eq_zero (by simpa using h1)⟩
 ·cases h2;exact .inr ⟨g',cur,rfl,hb,hc,hn,hh,hs,ht⟩
theorem aH.row(h:aH w base e size A n c xs):bB w A xs:=by
 intro j u hj;obtain⟨h1,h2 | ⟨g,cur,rfl,_⟩⟩:=h.cases
 ·obtain⟨_,_,_,rfl⟩:=h2;simp at hj
 ·exact⟨_,rfl,World.ownsRow.cells h (g:=g) rfl j u hj⟩
theorem aH.kept(h:aH w base e size A n c xs)(hg:w.grownBy w' none):aH w' base e size A n c xs:=World.ownsRow.kept h hg (by cases h:(Value.slice A n c).ownBlock <;>simp)
theorem aH.apart{r:Option Nat}(h:aH w base e size A n c xs)(hg:w.grownBy w' r)(hr:(Value.slice A n c).ownBlock=none∨(Value.slice A n c).ownBlock≠r):aH w' base e size A n c xs:=World.ownsRow.kept h hg hr
theorem aH.mono{base':Nat}(h:aH w base e size A n c xs)(hb:base'<=base):aH w base' e size A n c xs:=by
 obtain⟨h1,h2⟩:=h;refine⟨h1,h2.imp id ?_⟩;rintro⟨g',cap',cur,h2,E6,r⟩;exact⟨g',cap',cur,h2,by omega,r⟩
theorem aH.block_ge(h:aH w base e size A n c xs):∀ k,(Value.slice A n c).ownBlock=some k->base<=k:=fun k hk=>(World.ownsRow.lt h k hk).1
theorem aH.block_lt(h:aH w base e size A n c xs):∀ k,(Value.slice A n c).ownBlock=some k->k<w.heap.size:=fun k hk=>(World.ownsRow.lt h k hk).2
theorem aH.block_type(h:aH w base e size A n c xs):∀ k,(Value.slice A n c).ownBlock=some k->∃ cur,w.heap[k]?=some (.cells cur e (0,0)):=by
 intro k hk;obtain⟨_,h2 | ⟨g,cur,rfl,_,_,_,hh,_⟩⟩:=h.cases
 ·obtain⟨rfl,_⟩:=h2;simp[Value.ownBlock]at hk
 ·simp[Value.ownBlock]at hk;subst hk;exact⟨cur,hh⟩
theorem aH.appends(hE:uw P t e size bytes)(hb:bytes<=64)(h:aH w base e size A n c xs){a:Addr}{m cc:Nat}{us:List Value}(hm:us.length=m*size)(ha:∀ j u,us[j]?=some u->w.cell? (a.add j)=some u)(hu:∀ u∈us,u.oneCell'=true)(hn:n+m<=2^40)(DM:base<=w.heap.size):
    ∃ (A':OA) (n' c':Nat) (w':World),Sem.run P (Builtin.append_ #[t,t] ty #[.slice A n c,.slice (some a) m cc]) w=.ok (.slice A' n' c') w'/\aH w' base e size A' n' c' (xs++us)/\n'=n+m/\w.grownBy w' (Value.slice A n c).ownBlock ∧
      ((Value.slice A' n' c').ownBlock=(Value.slice A n c).ownBlock∨(Value.slice A' n' c').ownBlock=some w.heap.size):=by
  obtain⟨i,z,h1,h2,h3,h4,h5,h6,h7⟩:=hE.ex;have KG:(n+m)*bytes<=2^40*64:=Nat.mul_le_mul hn hb;obtain⟨v',w',hr,ho,hg,_,GM⟩:=run_append_own_at (P:=P) w base t ty e i z size bytes h1 h2 h3 h4 h5 h6 h7 _ n xs h a m cc us hm ha hu (by simp only[maxLen];omega) (by omega) DM;rcases ho.2 with⟨rfl,hz⟩ | ⟨g,cap,cur,rfl,r⟩
  · have FE:=ho;rw[hz]at FE;exact⟨_,_,_,w',hr,FE,hz.symm,hg,GM⟩
  · exact⟨_,_,_,w',hr,ho,rfl,hg,GM⟩
theorem aH.appends_nil(hE:uw P t e size bytes)(h:aH w base e size A n c xs):Sem.run P (Builtin.append_ #[t,t] ty #[.slice A n c,.slice none 0 0]) w=.ok (.slice A n c) w:=by
 obtain⟨i,z,h1,h2,h3,h4,h5,h6,h7⟩:=hE.ex;exact run_append_owned_none (P:=P) w base t ty e i size h1 h2 _ _ _ h
end
end Go.V
/-! What a world keeps beside some blocks; blocks of a few cells; bits by and, or. No program. -/
namespace Go.V
open Go Go.RowKit
def IsTy(w:World)(k:Nat)(t:TypeId):Prop:=∃(cur:Array Value)(fr:Nat×Nat),w.heap[k]?=some (.cells cur t fr)
structure Kp(w w':World)(S:Nat->Prop):Prop where
 os:w'.os=w.os
 tape:w'.tape=w.tape
 output:w'.output=w.output
 size:w.heap.size<=w'.heap.size
 block:∀ k,k<w.heap.size->¬ S k->w'.heap[k]?=w.heap[k]?
section
variable {w w' w'' : World} {S S' : Nat → Prop}
theorem Kp.refl(w:World)(S:Nat->Prop):Kp w w S:=⟨rfl,rfl,rfl,Nat.le_refl _,fun _ _ _=>rfl⟩
theorem Kp.trans(h:Kp w w' S)(h':Kp w' w'' S):Kp w w'' S :=
 ⟨h'.os.trans h.os,h'.tape.trans h.tape,h'.output.trans h.output,Nat.le_trans h.size h'.size,fun k hk hS=>(h'.block k (Nat.lt_of_lt_of_le hk h.size) hS).trans (h.block k hk hS)⟩
theorem Kp.mono(h:Kp w w' S)(hS:∀ k,k<w.heap.size->S k->S' k):Kp w w' S':=⟨h.os,h.tape,h.output,h.size,fun k hk hn=>h.block k hk (fun e=>hn (hS k hk e))⟩
theorem Kp.of_grown{r:Option Nat}(h:w.grownBy w' r):Kp w w' (fun k=>some k=r):=⟨h.os,h.tape,h.output,h.size,fun k hk hn=>h.block k hk hn⟩
theorem Kp.of_none(h:w.grownBy w' none):Kp w w' S:=⟨h.os,h.tape,h.output,h.size,fun k hk hn=>h.block k hk (by simp)⟩
theorem Kp.grown(h:Kp w w' S)(hS:∀ k,k<w.heap.size->¬ S k):w.grownBy w' none:=⟨h.os,h.tape,h.output,h.size,fun k hk _=>h.block k hk (hS k hk)⟩
theorem Kp.drew(h:Kp w w' S):Kp w w'.drew S:=⟨h.os,h.tape,h.output,h.size,h.block⟩
theorem Kp.set(h:Kp w w' S){p:Addr}(hp:w.heap.size<=p.block∨S p.block)(u:Value):Kp w (w'.setCell p u) S:=by
 refine⟨h.os,h.tape,h.output,by simpa using h.size,fun k hk hn=>?_⟩;rw[Below.heap_setCell _ _ _ _ (fun e=>by subst e;exact hp.elim (fun h=>by omega) hn)];exact h.block k hk hn
theorem Kp.alloc(h:Kp w w' S)(o:Obj):Kp w (w'.alloc o) S:=h.trans (Kp.of_none (World.grownBy_alloc w' o none))
theorem Kp.step{r:Option Nat}(h:Kp w w' S)(hg:w'.grownBy w'' r)(hr:∀ k,r=some k->w.heap.size<=k∨S k):Kp w w'' S:=by
 refine⟨hg.os.trans h.os,hg.tape.trans h.tape,hg.output.trans h.output,Nat.le_trans h.size hg.size,fun k hk hn=>?_⟩;refine(hg.block k (Nat.lt_of_lt_of_le hk h.size) (fun e=>?_)).trans (h.block k hk hn);rcases hr k e.symm with h1 | h1
 ·omega
 ·exact hn h1
theorem Kp.then(h:Kp w w' S)(h':Kp w' w'' S')(hS:∀ k,k<w.heap.size->S' k->S k):Kp w w'' S :=
 ⟨h'.os.trans h.os,h'.tape.trans h.tape,h'.output.trans h.output,Nat.le_trans h.size h'.size,fun k hk hn=>(h'.block k (Nat.lt_of_lt_of_le hk h.size) (fun e=>hn (hS k hk e))).trans (h.block k hk hn)⟩
theorem bB.kp{A:OA}{xs:List Value}(h:bB w A xs)(hk:Kp w w' S)(hS:∀ a,A=some a->a.block<w.heap.size->¬ S a.block):bB w' A xs:=by
 intro j u hj;obtain⟨a,h1,h2⟩:=h j u hj;refine⟨a,h1,?_⟩;have hb:(a.add j).block=a.block:=aL a j;have DF:a.block<w.heap.size:=by
  unfold World.cell? at h2;rw[hb]at h2;cases e:w.heap[a.block]? with
  | none=>rw[e]at h2;simp at h2
  | some o=>exact(Array.getElem?_eq_some_iff.1 e).1
 rw[← h2];unfold World.cell?;rw[hb,hk.block _ DF (hS a h1 DF)]
theorem bB.kpE{A:OA}{xs:List Value}(h:bB w A xs)(hk:Kp w w' S)(hS:∀ a,A=some a->xs=[]∨¬ S a.block):bB w' A xs:=by
 by_cases e:xs=[]
 ·rw[e];exact bB.nil _ _
 ·exact h.kp hk fun a ha _=>(hS a ha).resolve_left e
theorem bB.blk{A:OA}{xs:List Value}(h:bB w A xs)(hx:xs≠[]):∃ a,A=some a/\a.block<w.heap.size:=by
 cases xs with
 | nil=>exact absurd rfl hx
 | cons x xs =>
  obtain⟨a,h1,h2⟩:=h 0 x rfl;refine⟨a,h1,?_⟩;have hb:(a.add 0).block=a.block:=aL a 0;unfold World.cell? at h2;rw[hb]at h2;cases e:w.heap[a.block]? with
  | none=>rw[e]at h2;simp at h2
  | some o=>exact(Array.getElem?_eq_some_iff.1 e).1
end
section
variable {w : World} {g : Nat} {cur : Array Value} {t : TypeId} {fr : Nat × Nat}
theorem aA(h:w.heap[g]?=some (.cells cur t fr))(j:Nat):w.cell? ⟨g,j,none⟩=cur[j]?:=by simp[World.cell?,h]
theorem aF(h:w.heap[g]?=some (.cells cur t fr))(j:Nat)(u:Value):(w.setCell ⟨g,j,none⟩ u).heap[g]?=some (.cells (cur.setIfInBounds j u) t fr):=by
 simp[World.setCell,Array.getElem?_modify,h]
theorem js(h:w.heap[g]?=some (.cells cur t fr)){p:Addr}(hp:p.block≠g)(u:Value):(w.setCell p u).heap[g]?=some (.cells cur t fr):=by
 rw[Below.heap_setCell _ _ _ _ (fun e=>hp e.symm)];exact h
theorem aC(h:w.heap[g]?=some (.cells cur t (0,0)))(j:Nat):w.frozen? ⟨g,j,none⟩=false:=by simp[World.frozen?,h]
end
theorem aH.kp{w w':World}{S:Nat->Prop}{base size n c:Nat}{e:TypeId}{A:OA}{xs:List Value}(h:aH w base e size A n c xs)(hk:Kp w w' S)(h2:∀ k,(Value.slice A n c).ownBlock=some k->¬ S k):aH w' base e size A n c xs:=by
 obtain⟨e1,e2⟩:=h;refine⟨e1,e2.imp id ?_⟩;rintro⟨q,cap,cur,e3,e4,e5,r⟩;have hq:(Value.slice A n c).ownBlock=some q:=by rw[e3];simp[Value.ownBlock]
 exact⟨q,cap,cur,e3,e4,by rw[hk.block q (Array.getElem?_eq_some_iff.1 e5).1 (h2 q hq)];exact e5,r⟩
theorem j5{k:IntKind}{z:Int}(h:aG k z):k.wrap z=z:=er h
theorem cP{b x:Nat}(h:x<2^b):(BitVec.ofInt b (x:Int)).toNat=x:=by
 rw[BitVec.toNat_ofInt];have:((x:Int) % (2^b:Nat))=((x % 2^b:Nat):Int):=by omega
 rw[this,Nat.mod_eq_of_lt h];omega
theorem B7{v:Int}(h0:0<=v)(h:v<18446744073709551616):dC .and .u64 v 1=v % 2:=by
 obtain⟨n,rfl⟩:∃ n:Nat,v=n:=⟨v.toNat,by omega⟩;have e1:(BitVec.ofInt 64 (n:Int)).toNat=n:=cP (by omega);have e2:(BitVec.ofInt 64 ((1:Nat):Int)).toNat=1:=cP (by omega);show IntKind.u64.wrap (((BitVec.ofInt 64 (n:Int) &&& BitVec.ofInt 64 ((1:Nat):Int)).toNat:Nat):Int)=_;rw[BitVec.toNat_and,e1,e2,Nat.and_one_is_mod];rw[j5]
 ·omega
 ·constructor
  ·show(0:Int)<=_;omega
  ·show _<=(18446744073709551615:Int);omega
theorem CY{v:Int}(h0:0<=v)(h:v<256):dC .and .u8 v 1=v % 2:=by
 obtain⟨n,rfl⟩:∃ n:Nat,v=n:=⟨v.toNat,by omega⟩;have e1:(BitVec.ofInt 8 (n:Int)).toNat=n:=cP (by omega);have e2:(BitVec.ofInt 8 ((1:Nat):Int)).toNat=1:=cP (by omega);show IntKind.u8.wrap (((BitVec.ofInt 8 (n:Int) &&& BitVec.ofInt 8 ((1:Nat):Int)).toNat:Nat):Int)=_;rw[BitVec.toNat_and,e1,e2,Nat.and_one_is_mod];rw[j5]
 ·omega
 ·constructor
  ·show(0:Int)<=_;omega
  ·show _<=(255:Int);omega
theorem uS{x c j:Nat}(h:x<2^j):x ||| c*2^j=x+c*2^j:=by
 rw[Nat.or_comm,Nat.mul_comm,← Nat.two_pow_add_eq_or_of_lt h];omega
theorem or_u8{x c:Int}{j:Nat}(h0:0<=x)(hx:x<2^j)(hc:0<=c)(h:x+c*2^j<256):dC .or .u8 x (c*2^j)=x+c*2^j:=by
 obtain⟨n,rfl⟩:∃ n:Nat,x=n:=⟨x.toNat,by omega⟩;obtain⟨m,rfl⟩:∃ n:Nat,c=n:=⟨c.toNat,by omega⟩;have ep:((2^j:Nat):Int)=2^j:=by simp
 have em:((m*2^j:Nat):Int)=(m:Int)*2^j:=by rw[Int.natCast_mul,ep]
 rw[← em]at h ⊢;have e1:(BitVec.ofInt 8 (n:Int)).toNat=n:=cP (by omega);have e2:(BitVec.ofInt 8 ((m*2^j:Nat):Int)).toNat=m*2^j:=cP (by omega);show IntKind.u8.wrap (((BitVec.ofInt 8 (n:Int) ||| BitVec.ofInt 8 ((m*2^j:Nat):Int)).toNat:Nat):Int)=_;rw[BitVec.toNat_or,e1,e2,uS (by omega)];rw[j5]
 ·omega
 ·constructor
  ·show(0:Int)<=_;omega
  ·show _<=(255:Int);omega
theorem Dq{v b:Int}(h0:0<=v)(hb:0<=b/\b<=1)(h:2*v+b<18446744073709551616):dC .or .u64 (v*2^1) b=2*v+b:=by
 obtain⟨n,rfl⟩:∃ n:Nat,v=n:=⟨v.toNat,by omega⟩;obtain⟨m,rfl⟩:∃ n:Nat,b=n:=⟨b.toNat,by omega⟩;have em:(n:Int)*2^1=((n*2^1:Nat):Int):=by simp
 rw[em];have e1:(BitVec.ofInt 64 ((n*2^1:Nat):Int)).toNat=n*2^1:=cP (by omega);have e2:(BitVec.ofInt 64 (m:Int)).toNat=m:=cP (by omega);show IntKind.u64.wrap (((BitVec.ofInt 64 ((n*2^1:Nat):Int) ||| BitVec.ofInt 64 (m:Int)).toNat:Nat):Int)=_;rw[BitVec.toNat_or,e1,e2,Nat.or_comm,uS (by omega)];rw[j5]
 ·omega
 ·constructor
  ·show(0:Int)<=_;omega
  ·show _<=(18446744073709551615:Int);omega
theorem AK(bs:List Bool):dB bs (bs.length / 8)<2^(bs.length % 8):=by
 have hb:∀ k,bs.length % 8<=k->bs.getD (8*(bs.length / 8)+k) false=false:=fun k hk=>du bs (by omega);have hm:bs.length % 8<8:=Nat.mod_lt _ (by decide);have hv:=fun i=>fL (bs.getD i false);have h0:=hv (8*(bs.length / 8));have h1:=hv (8*(bs.length / 8)+1);have h2:=hv (8*(bs.length / 8)+2);have h3:=hv (8*(bs.length / 8)+3);have h4:=hv (8*(bs.length / 8)+4);have h5:=hv (8*(bs.length / 8)+5);have h6:=hv (8*(bs.length / 8)+6);have zero:fq false=0:=rfl;unfold dB;generalize bs.length % 8=m at *
 match m,hm,hb with
 | 0,_,hb=>rw[show 8*(bs.length / 8)=8*(bs.length / 8)+0 from rfl,hb 0 (by omega),hb 1 (by omega),hb 2 (by omega),hb 3 (by omega),hb 4 (by omega),hb 5 (by omega),hb 6 (by omega),hb 7 (by omega)];decide
 | 1,_,hb=>rw[hb 1 (by omega),hb 2 (by omega),hb 3 (by omega),hb 4 (by omega),hb 5 (by omega),hb 6 (by omega),hb 7 (by omega),zero];omega
 | 2,_,hb=>rw[hb 2 (by omega),hb 3 (by omega),hb 4 (by omega),hb 5 (by omega),hb 6 (by omega),hb 7 (by omega),zero];omega
 | 3,_,hb=>rw[hb 3 (by omega),hb 4 (by omega),hb 5 (by omega),hb 6 (by omega),hb 7 (by omega),zero];omega
 | 4,_,hb=>rw[hb 4 (by omega),hb 5 (by omega),hb 6 (by omega),hb 7 (by omega),zero];omega
 | 5,_,hb=>rw[hb 5 (by omega),hb 6 (by omega),hb 7 (by omega),zero];omega
 | 6,_,hb=>rw[hb 6 (by omega),hb 7 (by omega),zero];omega
 | 7,_,hb=>rw[hb 7 (by omega),zero];omega
end Go.V
/-! Maps in memory as lists of keys and values: looked up, written, struck. No program. -/
namespace Go.V
open Go Go.RowKit Go.MapKept
section
variable {κ υ : Type} [DecidableEq κ]
def dy(L:List (κ×υ))(k:κ):Option υ:=match L with
 | []=>none
 | p ::L=>if p.1=k then some p.2 else dy L k
def io(L:List (κ×υ))(k:κ)(v:υ):List (κ×υ):=match L with
 | []=>[(k,v)]
 | p ::L=>if p.1=k then(k,v) ::L else p ::io L k v
def qq(L:List (κ×υ))(k:κ):List (κ×υ):=L.filter fun p=>decide (p.1≠k)
theorem rJ(L:List (κ×υ))(k k':κ)(v:υ):dy (io L k v) k'=if k=k' then some v else dy L k':=by
 induction L with
 | nil=>simp[io,dy]
 | cons p L ih =>
  unfold io;by_cases h:p.1=k
  ·rw[if_pos h];by_cases h2:k=k'
   ·simp[dy,h2]
   ·simp[dy,h,h2]
  ·rw[if_neg h];by_cases h2:p.1=k'
   ·have:¬ k=k':=fun e=>h (h2.trans e.symm);simp[dy,h2,this]
   ·simp[dy,h2,ih]
theorem BG(L:List (κ×υ))(k k':κ):dy (qq L k) k'=if k=k' then none else dy L k':=by
 induction L with
 | nil=>simp[qq,dy]
 | cons p L ih =>
  unfold qq at ih ⊢;by_cases h:p.1=k
  ·rw[List.filter_cons_of_neg (by simp[h]),ih];by_cases h2:k=k'
   ·simp[h2]
   ·simp[dy,h,h2]
  ·rw[List.filter_cons_of_pos (by simp[h])];by_cases h2:p.1=k'
   ·have:¬ k=k':=fun e=>h (h2.trans e.symm);simp[dy,h2,this]
   ·simp only[dy,if_neg h2];exact ih
theorem mq{L:List (κ×υ)}{k:κ}:dy L k=none↔∀ p∈L,p.1≠k:=by
 induction L with
 | nil=>simp[dy]
 | cons p L ih =>
  unfold dy;by_cases h:p.1=k
  ·simp[h]
  ·simp[h,ih]
theorem nS{L:List (κ×υ)}(hn:(L.map Prod.fst).Nodup){k:κ}{v:υ}:dy L k=some v↔(k,v)∈L:=by
 induction L with
 | nil=>simp[dy]
 | cons p L ih =>
  have ER:=List.nodup_cons.1 hn;unfold dy;by_cases h:p.1=k
  ·rw[if_pos h];constructor
   ·intro e;have:p=(k,v):=by rw[← h];cases p;simp at e ⊢;exact e
    rw[this];simp
   ·intro e;rcases List.mem_cons.1 e with e | e
    ·rw[← e]
    ·exact absurd (List.mem_map_of_mem (f:=Prod.fst) e) (by rw[h]at ER;exact ER.1)
  ·rw[if_neg h,ih ER.2];constructor
   ·exact fun e=>List.mem_cons_of_mem _ e
   ·intro e;rcases List.mem_cons.1 e with e | e
    ·exact absurd (by rw[← e]) h
    ·exact e
theorem zN{L:List (κ×υ)}{k:κ}{v:υ}(h:dy L k=none):io L k v=L++[(k,v)]:=by
 induction L with
 | nil=>rfl
 | cons p L ih =>
  have h2:=mq.1 h;have hp:=h2 p (by simp);unfold dy at h;rw[if_neg hp]at h;simp[io,hp,ih h]
theorem tB(L:List (κ×υ))(k:κ)(v:υ):(io L k v).map Prod.fst=if dy L k=none then L.map Prod.fst++[k] else L.map Prod.fst:=by
 induction L with
 | nil=>simp[io,dy]
 | cons p L ih =>
  unfold io dy;by_cases h:p.1=k
  ·simp[h]
  ·rw[if_neg h,if_neg h,List.map_cons,ih];split <;>simp
theorem qK{L:List (κ×υ)}(hn:(L.map Prod.fst).Nodup)(k:κ)(v:υ):((io L k v).map Prod.fst).Nodup:=by
 rw[tB];split
 ·rename_i h;rw[List.nodup_append];refine⟨hn,by simp,?_⟩;intro a ha b hb e;obtain⟨p,hp,rfl⟩:=List.mem_map.1 ha;have:b=k:=by simpa using hb
  exact mq.1 h p hp (e.trans this)
 ·exact hn
theorem sj{L:List (κ×υ)}(hn:(L.map Prod.fst).Nodup)(k:κ):((qq L k).map Prod.fst).Nodup:=hn.sublist (List.filter_sublist.map _)
theorem Cj{L:List (κ×υ)}(hn:(L.map Prod.fst).Nodup){j:Nat}{k:κ}{v u:υ}(h:L[j]?=some (k,u)):io L k v=L.set j (k,v):=by
 induction L generalizing j with
 | nil=>simp at h
 | cons p L ih =>
  have ER:=List.nodup_cons.1 hn;cases j with
  | zero =>
   have:p=(k,u):=by simpa using h
   subst this;simp[io]
  | succ j =>
   have h':L[j]?=some (k,u):=by simpa using h
   have DJ:¬ p.1=k:=by
    intro e;exact ER.1 (by rw[e];exact List.mem_map_of_mem (f:=Prod.fst) (List.mem_of_getElem? h'))
   simp[io,DJ,ih ER.2 h']
theorem CQ{L:List (κ×υ)}(hn:(L.map Prod.fst).Nodup){j:Nat}{k:κ}{u:υ}(h:L[j]?=some (k,u)):qq L k=L.eraseIdx j:=by
 induction L generalizing j with
 | nil=>simp at h
 | cons p L ih =>
  have ER:=List.nodup_cons.1 hn;unfold qq at ih ⊢;cases j with
  | zero =>
   have:p=(k,u):=by simpa using h
   subst this;rw[List.filter_cons_of_neg (by simp),List.eraseIdx_cons_zero];rw[List.filter_eq_self];intro q hq;have:q.1≠k:=fun e=>ER.1 (by have:=List.mem_map_of_mem (f:=Prod.fst) hq;rw[e]at this;exact this);simp[this]
  | succ j =>
   have h':L[j]?=some (k,u):=by simpa using h
   have DJ:¬ p.1=k:=by
    intro e;exact ER.1 (by rw[e];exact List.mem_map_of_mem (f:=Prod.fst) (List.mem_of_getElem? h'))
   rw[List.filter_cons_of_pos (by simp[DJ]),List.eraseIdx_cons_succ,ih ER.2 h']
theorem AC{L:List (κ×υ)}{k:κ}(h:dy L k=none):qq L k=L:=by
 unfold qq;rw[List.filter_eq_self];intro p hp;simp[mq.1 h p hp]
structure AQ(P:Program)(kt:TypeId)(enc:κ->Value)(ok:κ->Prop):Prop where
 law:Maps.Keyed P kt
 key:∀ x,ok x->∃ l,keyOf P kt (enc x)=some l
 inj:∀ x y,enc x=enc y->x=y
def jg(es:Array MapEntry)(clock:Nat):Prop:=(∀ e∈es.toList,e.born<clock)/\(es.toList.map (·.born)).Nodup
theorem jg.push{es:Array MapEntry}{clock:Nat}(h:jg es clock)(k v:Value):jg (es.push ⟨k,v,clock⟩) (clock+1):=by
 refine⟨fun e he=>?_,?_⟩
 ·rw[Array.toList_push]at he;rcases List.mem_append.1 he with he | he
  ·have:=h.1 e he;omega
  ·have:e=⟨k,v,clock⟩:=by simpa using he
   rw[this];exact Nat.lt_succ_self _
 ·rw[Array.toList_push,List.map_append,List.nodup_append];refine⟨h.2,by simp,fun a ha b hb e=>?_⟩;obtain⟨x,hx,rfl⟩:=List.mem_map.1 ha;have:=h.1 x hx;have:b=clock:=by simpa using hb
  omega
theorem jg.of_born{es es':Array MapEntry}{clock:Nat}(h:jg es clock)(he:es'.toList.map (·.born)=es.toList.map (·.born)):jg es' clock:=by
 refine⟨fun e hx=>?_,by rw[he];exact h.2⟩;have:e.born∈es'.toList.map (·.born):=List.mem_map_of_mem (f:=fun e:MapEntry=>e.born) hx;rw[he]at this;obtain⟨x,hx,LP⟩:=List.mem_map.1 this;rw[← LP];exact h.1 x hx
theorem jg.sub{es es':Array MapEntry}{clock:Nat}(h:jg es clock)(he:es'.toList.Sublist es.toList):jg es' clock :=
 ⟨fun e hx=>h.1 e (he.mem hx),h.2.sublist (he.map _)⟩
def dh(enc:κ->Value)(ok:κ->Prop)(encv:υ->Value)(w:World)(b:Nat)(L:List (κ×υ)):Prop :=
 ∃(es:Array MapEntry)(clock:Nat),w.heap[b]?=some (.map es clock)/\es.toList.map (fun e=>(e.key,e.val))=L.map (fun p=>(enc p.1,encv p.2))/\(∀ p∈L,ok p.1)/\(L.map Prod.fst).Nodup/\jg es clock
variable {P : Program} {w w' : World} {mt kt et : TypeId} {enc : κ → Value} {ok : κ → Prop} {encv : υ → Value} {b : Nat} {L : List (κ × υ)}
theorem dh.kp{S:Nat->Prop}(h:dh enc ok encv w b L)(hk:Kp w w' S)(hS:¬ S b):dh enc ok encv w' b L:=by
 obtain⟨es,clock,h1,r⟩:=h;exact⟨es,clock,by rw[hk.block b (Array.getElem?_eq_some_iff.1 h1).1 hS];exact h1,r⟩
theorem dh.kept(h:dh enc ok encv w b L)(hg:w.grownBy w' none):dh enc ok encv w' b L:=h.kp (S:=fun _=>False) (Kp.of_none hg) (fun h=>h)
theorem dh.lt(h:dh enc ok encv w b L):b<w.heap.size:=by
 obtain⟨es,clock,h1,r⟩:=h;exact(Array.getElem?_eq_some_iff.1 h1).1
theorem dh.made(w:World):dh enc ok encv (w.alloc (.map #[] 0)) w.heap.size ([]:List (κ×υ)):=⟨#[],0,(heap_alloc w _).1,by simp,by simp,by simp,by simp[jg]⟩
theorem dh.find(K:AQ P kt enc ok)(h:dh enc ok encv w b L){es:Array MapEntry}{clock:Nat}(hb:w.heap[b]?=some (.map es clock)){k:κ}(hk:ok k):
    ((Instr.findKey kt (enc k) es.toList).run P w=.ok none w/\dy L k=none)∨∃ j v,(Instr.findKey kt (enc k) es.toList).run P w=.ok (some (j,encv v)) w/\L[j]?=some (k,v)/\dy L k=some v/\∃ e,es[j]?=some e/\e.key=enc k:=by
  obtain⟨es',clock',h1,h2,h3,h4,_⟩:=h;rw[hb]at h1;cases h1;obtain⟨l,hl⟩:=K.key k hk;have all:∀ e∈es.toList,∃ l,keyOf P kt e.key=some l:=by
    intro e he;have:(e.key,e.val)∈L.map (fun p=>(enc p.1,encv p.2)):=by rw[← h2];exact List.mem_map_of_mem (f:=fun e:MapEntry=>(e.key,e.val)) he
    obtain⟨p,hp,GG⟩:=List.mem_map.1 this;simp only[Prod.mk.injEq]at GG;rw[← GG.1];exact K.key _ (h3 p hp)
  rcases K.law.find w hl es.toList all with⟨e1,e2⟩ | ⟨j,e,e1,e2,e3⟩
  · refine .inl ⟨e1,mq.2 fun p hp e=>?_⟩;have:(enc p.1,encv p.2)∈es.toList.map (fun e=>(e.key,e.val)):=by rw[h2];exact List.mem_map_of_mem (f:=fun p:κ×υ=>(enc p.1,encv p.2)) hp
    obtain⟨x,hx,LP⟩:=List.mem_map.1 this;simp only[Prod.mk.injEq]at LP;exact e2 x hx (by rw[LP.1,e])
  · have hj:(L.map (fun p=>(enc p.1,encv p.2)))[j]?=some (e.key,e.val):=by rw[← h2,List.getElem?_map,e2];rfl
    rw[List.getElem?_map,Option.map_eq_some_iff]at hj;obtain⟨⟨k',v⟩,hL,hp⟩:=hj;simp only[Prod.mk.injEq]at hp;have:k'=k:=K.inj _ _ (hp.1.trans e3);subst this;exact .inr ⟨j,v,by rw[e1,hp.2],hL,(nS h4).2 (List.mem_of_getElem? hL),e,by simpa using e2,e3⟩
theorem dh.look(K:AQ P kt enc ok)(hm:P.underlying mt=some (.map kt et)){z:Value}(hz:(zeroValue et).run P w=.ok z w)(h:dh enc ok encv w b L){k:κ}(hk:ok k)(c:Bool):
    Sem.run P (Instr.lookup mt (.map (some b)) (enc k) c) w=.ok (if c then .tuple #[((dy L k).map encv).getD z,.bool (dy L k).isSome] else((dy L k).map encv).getD z) w:=by
  obtain⟨es,clock,hb,r⟩:=id h;obtain⟨l,hl⟩:=K.key k hk;have FS:=fun em=>K.law.check w em hl;rcases h.find K hb hk with⟨h1,h2⟩ | ⟨j,v,h1,h2,h3,_⟩
  · rw[h2];cases c <;>simp[Instr.lookup,run_underlying hm,MapKept.run_getObj_map hb,FS,h1,hz,Result.andThen]
  · rw[h3];cases c <;>simp[Instr.lookup,run_underlying hm,MapKept.run_getObj_map hb,FS,h1,Result.andThen]
theorem dh.update (K:AQ P kt enc ok) (hm:P.underlying mt=some (.map kt et)) (h:dh enc ok encv w b L) {k:κ} (hk:ok k) (v:υ) :
    ∃ w',Sem.run P (Instr.mapUpdate mt (.map (some b)) (enc k) (encv v)) w=.ok () w'/\dh enc ok encv w' b (io L k v)/\w.grownBy w' (some b):=by
  obtain⟨es,clock,hb,hL,hok,EL,HN⟩:=id h;obtain⟨l,hl⟩:=K.key k hk;have FS:=fun em=>K.law.check w em hl;have gr:∀ o,w.grownBy { w with heap:=w.heap.setIfInBounds b o } (some b):=fun o =>
    ⟨rfl,rfl,rfl,by simp,fun i hi hr=>by simp[Array.getElem?_setIfInBounds,show ¬ b=i from fun e=>hr (by rw[e])]⟩
  have ok':∀ p∈io L k v,ok p.1:=by
    intro p hp;have:p.1∈(io L k v).map Prod.fst:=List.mem_map_of_mem hp;rw[tB]at this;split at this
    · rcases List.mem_append.1 this with e | e
      · obtain⟨q,hq,e⟩:=List.mem_map.1 e;rw[← e];exact hok q hq
      · have:p.1=k:=by simpa using e
        rw[this];exact hk
    · obtain⟨q,hq,e⟩:=List.mem_map.1 this;rw[← e];exact hok q hq
  rcases h.find K hb hk with⟨h1,h2⟩ | ⟨j,u,h1,h2,h3,e,he,Pm⟩
  · refine⟨_,by simp only[Instr.mapUpdate,Sem.run_bind,run_underlying hm,MapKept.run_getObj_map hb,FS,h1,Result.andThen];exact MapKept.run_setObj_map _ hb,⟨_,_,(heap_set hb).1,?_,ok',qK EL k v,HN.push _ _⟩,gr _⟩;rw[zN h2];simp[hL]
  · have HZ:=K.law.stays w hl;have F9:((es[j]?).map (·.key)).getD (enc k)=enc k:=by rw[he];exact Pm
    refine⟨_,by simp only[Instr.mapUpdate,Sem.run_bind,run_underlying hm,MapKept.run_getObj_map hb,FS,h1,Result.andThen,F9,HZ];exact MapKept.run_setObj_map _ hb,⟨_,_,(heap_set hb).1,?_,ok',qK EL k v,HN.of_born (by
      apply List.ext_getElem?;intro i;simp only[List.getElem?_map,Array.getElem?_toList,Array.getElem?_modify];split
      · cases es[i]? <;>rfl
      · rfl)⟩,gr _⟩
    rw[Cj EL h2];apply List.ext_getElem?;intro i;have JS:(es.toList.map (fun e=>(e.key,e.val)))[i]?=(L.map (fun p=>(enc p.1,encv p.2)))[i]?:=by rw[hL]
    simp only[List.getElem?_map,Array.getElem?_toList]at JS;rw[List.getElem?_map,Array.getElem?_toList,Array.getElem?_modify,List.getElem?_map,List.getElem?_set];by_cases El:j=i
    · subst El;have DF:=(List.getElem?_eq_some_iff.1 h2).1;rw[if_pos rfl,if_pos rfl,if_pos DF,he];rfl
    · rw[if_neg El,if_neg El];exact JS
theorem dh.strike(K:AQ P kt enc ok)(hm:P.underlying mt=some (.map kt et))(h:dh enc ok encv w b L){k:κ}(hk:ok k)(ty:TypeId):
    ∃ w',Sem.run P (Builtin.delete_ #[mt,kt] ty #[.map (some b),enc k]) w=.ok (.tuple #[]) w'/\dh enc ok encv w' b (qq L k)/\w.grownBy w' (some b):=by
  obtain⟨es,clock,hb,hL,hok,EL,HN⟩:=id h;obtain⟨l,hl⟩:=K.key k hk;have FS:=fun em=>K.law.check w em hl;have gr:∀ o,w.grownBy { w with heap:=w.heap.setIfInBounds b o } (some b):=fun o =>
    ⟨rfl,rfl,rfl,by simp,fun i hi hr=>by simp[Array.getElem?_setIfInBounds,show ¬ b=i from fun e=>hr (by rw[e])]⟩
  have ok':∀ p∈qq L k,ok p.1:=fun p hp=>hok p (List.mem_filter.1 hp).1;rcases h.find K hb hk with⟨h1,h2⟩ | ⟨j,u,h1,h2,h3,e,he,Pm⟩
  · refine⟨{ w with heap:=w.heap.setIfInBounds b (.map es clock) },?_,⟨_,_,(heap_set hb).1,?_,ok',sj EL k,HN⟩,gr _⟩
    · simp[Builtin.delete_,run_underlying hm,MapKept.run_getObj_map hb,FS,h1,MapKept.run_setObj_map _ hb,Result.andThen]
    · rw[AC h2];exact hL
  · refine⟨{ w with heap:=w.heap.setIfInBounds b (.map (es.eraseIdxIfInBounds j) clock) },?_,⟨_,_,(heap_set hb).1,?_,ok',sj EL k,HN.sub (by
      simp only[Array.eraseIdxIfInBounds];split
      · rw[Array.toList_eraseIdx];exact List.eraseIdx_sublist _ _
      · exact List.Sublist.refl _)⟩,gr _⟩
    · simp[Builtin.delete_,run_underlying hm,MapKept.run_getObj_map hb,FS,h1,MapKept.run_setObj_map _ hb,Result.andThen]
    · rw[CQ EL h2];have hj:=(Array.getElem?_eq_some_iff.1 he).1;have RD:(es.eraseIdxIfInBounds j).toList=es.toList.eraseIdx j:=by simp[Array.eraseIdxIfInBounds,hj]
      rw[RD];apply List.ext_getElem?;intro i;have JS:∀ i:Nat,(es.toList.map (fun e=>(e.key,e.val)))[i]?=(L.map (fun p=>(enc p.1,encv p.2)))[i]?:=fun i=>by rw[hL]
      simp only[List.getElem?_map]at JS ⊢;rw[List.getElem?_eraseIdx,List.getElem?_eraseIdx];split
      · exact JS i
      · exact JS (i+1)
end
end Go.V
/-! A map ranged over: each key once, in whatever order. No program. -/
namespace Go.V
open Go Go.RowKit Go.ChangeMaps
section
variable {κ υ : Type} {P : Program} {w w' : World} {mt kt et : TypeId} {enc : κ → Value} {ok : κ → Prop} {encv : υ → Value} {b r : Nat} {L : List (κ × υ)} {done : List κ} {last : Option (κ × υ)}
def IterAt(enc:κ->Value)(encv:υ->Value)(w:World)(r b:Nat)(L:List (κ×υ))(done:List κ)(last:Option (κ×υ)):Prop :=
 ∃(es:Array MapEntry)(clock since:Nat)(seen:Array Nat)(c0:Nat),w.heap[b]?=some (.map es clock)/\es.toList.map (fun e=>(e.key,e.val))=L.map (fun p=>(enc p.1,encv p.2)) ∧
  (∀ e∈es.toList,e.born<since)/\(es.toList.map (·.born)).Nodup/\w.heap[r]?=some (.mapIter (some b) since seen c0)/\(since<=c0/\since<=clock)/\(L.map Prod.fst).Nodup ∧
  (∀(j:Nat)(e:MapEntry)(p:κ×υ),es.toList[j]?=some e->L[j]?=some p->(seen.contains e.born=true↔p.1∈done)) ∧
  (∀ p,last=some p->∃ e∈es.toList,∃ seen':Array Nat,e.key=enc p.1/\e.val=encv p.2/\seen=seen'.push e.born/\c0=clock)
theorem IterAt.kp{S:Nat->Prop}(h:IterAt enc encv w r b L done last)(hk:Kp w w' S)(hb:¬ S b)(hr:¬ S r):IterAt enc encv w' r b L done last:=by
 obtain⟨es,clock,since,seen,c0,h1,h2,h3,h4,h5,rest⟩:=h;exact⟨es,clock,since,seen,c0,by rw[hk.block b (Array.getElem?_eq_some_iff.1 h1).1 hb];exact h1,h2,h3,h4,by rw[hk.block r (Array.getElem?_eq_some_iff.1 h5).1 hr];exact h5,rest⟩
theorem dh.range(hm:P.underlying mt=some (.map kt et))(h:dh enc ok encv w b L):
    ∃ o:Obj,Sem.run P (Instr.range mt (.map (some b))) w=.ok (.pointer (some ⟨w.heap.size,0,none⟩)) (w.alloc o)/\IterAt enc encv (w.alloc o) w.heap.size b L ([]:List κ) none:=by
  obtain⟨es,clock,hb,hL,hok,EL,HN⟩:=h;have DF:=(Array.getElem?_eq_some_iff.1 hb).1;exact⟨.mapIter (some b) clock #[] clock,run_range_map w mt kt et b es clock hm hb,es,clock,clock,#[],clock,by rw[(MapKept.heap_alloc w _).2 b DF];exact hb,hL,HN.1,HN.2,(MapKept.heap_alloc w _).1,⟨Nat.le_refl _,Nat.le_refl _⟩,EL,fun j e p _ _=>by simp,fun p hp=>by cases hp⟩
theorem IterAt.next (hE:∀ x y,enc x=enc y->x=y) (h:IterAt enc encv w r b L done last) (ty:TypeId) :
    ((∀ p∈L,p.1∈done)/\Sem.run P (Instr.next (.pointer (some ⟨r,0,none⟩)) false ty) w=.ok (.tuple #[.bool false]) w) ∨
    ∃ p∈L,p.1 ∉ done/\∃ w':World,Sem.run P (Instr.next (.pointer (some ⟨r,0,none⟩)) false ty) w=.ok (.tuple #[.bool true,enc p.1,encv p.2]) w'/\IterAt enc encv w' r b L (p.1 ::done) (some p)/\Kp w w' (fun k=>k=r):=by
  obtain⟨es,clock,since,seen,c0,h1,h2,h3,h4,h5,h6,EL,h7,h8⟩:=h;have DH:es.toList.length=L.length:=by have:=congrArg List.length h2;simpa using this
  have RR:b≠r:=by
    intro e;subst e;rw[h1]at h5;cases h5
  have pair:∀(j:Nat)(e:MapEntry),es.toList[j]?=some e->∃ p,L[j]?=some p/\e.key=enc p.1/\e.val=encv p.2:=by
    intro j e he;have hj:j<L.length:=by have:=(List.getElem?_eq_some_iff.1 he).1;omega
    refine⟨L[j],by simp[hj],?_⟩;have:=congrArg (fun l=>l[j]?) h2;simp only[List.getElem?_map,he,List.getElem?_eq_getElem hj,Option.map_some,Option.some.injEq,Prod.mk.injEq]at this;exact this
  rcases run_next_at (P:=P) w ty r b since c0 seen es clock h5 h1 h3 h6.1 with⟨q1,q2⟩ | ⟨e,he,w1,Ez,q2⟩
  · refine .inl ⟨fun p hp=>?_,q2⟩;obtain⟨j,hj,rfl⟩:=List.mem_iff_getElem.1 hp;have EM:j<es.toList.length:=by omega
    refine(h7 j es.toList[j] L[j] (by simp[EM]) (by simp[hj])).1 ?_;cases hc:seen.contains es.toList[j].born with
    | true=>rfl
    | false =>
      exfalso;have:es.toList[j]∈(leftOf es seen).toList:=by
        unfold leftOf;rw[Array.toList_filter,List.mem_filter];exact⟨List.getElem_mem EM,by rw[hc];rfl⟩
      have h0:(leftOf es seen).toList.length=0:=by simpa using q1
      rw[List.length_eq_zero_iff.1 h0]at this;simp at this
  · unfold leftOf at he;rw[Array.toList_filter,List.mem_filter]at he;obtain⟨j,hj,Nk⟩:=List.mem_iff_getElem.1 he.1;have KU:es.toList[j]?=some e:=by rw[List.getElem?_eq_getElem hj,Nk]
    obtain⟨p,hp,hk,hv⟩:=pair j e KU;have MX:p.1 ∉ done:=by
      intro hd;have:=(h7 j e p KU hp).2 hd;have h9:=he.2;simp only[this]at h9;cases h9
    have hw:w1.heap=w.heap/\w1.os=w.os/\w1.tape=w.tape/\w1.output=w.output:=by rcases Ez with rfl | rfl <;>exact⟨rfl,rfl,rfl,rfl⟩
    have Fk:=(Array.getElem?_eq_some_iff.1 h5).1;refine .inr ⟨p,List.mem_of_getElem? hp,MX,setBlock w1 r (.mapIter (some b) since (seen.push e.born) clock),by rw[q2,hk,hv],⟨es,clock,since,seen.push e.born,clock,?_,h2,h3,h4,?_,?_,EL,?_,?_⟩,⟨hw.2.1,hw.2.2.1,hw.2.2.2,by simp[setBlock,hw.1],fun k Fy hS=>?_⟩⟩
    · simp only[setBlock,hw.1];rw[Array.getElem?_setIfInBounds_ne (fun e=>RR e.symm)];exact h1
    · simp only[setBlock,hw.1];rw[Array.getElem?_setIfInBounds_self_of_lt Fk]
    · exact⟨h6.2,h6.2⟩
    · intro j' e' p' EM GH;rw[Array.contains_push,Bool.or_eq_true,h7 j' e' p' EM GH,List.mem_cons];have key:(e'.born ==e.born)=true↔p'.1=p.1:=by
        rw[beq_iff_eq];constructor
        · intro hb;have Gt:=(List.getElem?_eq_some_iff.1 EM).1;have:j'=j:=by
            have JV:(es.toList.map (·.born))[j']?=(es.toList.map (·.born))[j]?:=by simp only[List.getElem?_map,EM,KU,Option.map_some,hb]
            exact(List.getElem?_inj (by simpa using Gt) h4).1 JV
          subst this;rw[hp]at GH;cases GH;rfl
        · intro Gq;have Gt:=(List.getElem?_eq_some_iff.1 GH).1;have:j'=j:=by
            have JV:(L.map Prod.fst)[j']?=(L.map Prod.fst)[j]?:=by simp only[List.getElem?_map,GH,hp,Option.map_some,Gq]
            exact(List.getElem?_inj (by simpa using Gt) EL).1 JV
          subst this;rw[KU]at EM;cases EM;rfl
      constructor
      · rintro(h | h)
        · exact .inr h
        · exact .inl (key.1 h)
      · rintro(h | h)
        · exact .inr (key.2 h)
        · exact .inl h
    · intro p' GH;cases GH;exact⟨e,he.1,seen,hk,hv,rfl,rfl⟩
    · simp only[setBlock,hw.1];rw[Array.getElem?_setIfInBounds_ne (fun e=>hS e.symm)]
theorem IterAt.entry{p:κ×υ}(h:IterAt enc encv w r b L done (some p)):Sem.run P (Instr.entry (.pointer (some ⟨r,0,none⟩))) w=.ok (.tuple #[enc p.1,encv p.2]) w:=by
 obtain⟨es,clock,since,seen,c0,h1,h2,h3,h4,h5,h6,EL,h7,h8⟩:=h;obtain⟨e,he,seen',hk,hv,rfl,rfl⟩:=h8 p rfl;rw[run_entry_at (P:=P) w r b since seen' es c0 e h5 h1 he h4,hk,hv]
end
end Go.V
/-! Rows of elements of several cells: copied into, cleared, lengthened by noughts. No program. -/
namespace Go.V
open Go Go.RowKit
section
variable {P : Program} {w w' : World}
theorem aH.of_block{base size g n c:Nat}{e:TypeId}{cur:Array Value}{xs:List Value}(hb:base<=g)(hg:w.heap[g]?=some (.cells cur e (0,0)))(hn:n<=c)(hc:c<=maxLen)(hs:cur.size=c*size)(hx:xs.length=n*size)(ht:cur.toList.take (n*size)=xs):
    aH w base e size (some ⟨g,0,none⟩) n c xs:=⟨hx,.inr ⟨g,c,cur,rfl,hb,hg,hn,hc,hs,ht⟩⟩
end
end Go.V
/-! Blocks that are kept; a cell of an owned row set. No program. -/
namespace Go.V
open Go Go.RowKit
theorem aE{w w':World}{g:Nat}{o:Obj}(h:w.heap[g]?=some o)(hg:w.grownBy w' none):w'.heap[g]?=some o:=by rw[hg.block _ (Array.getElem?_eq_some_iff.1 h).1 (by simp)];exact h
theorem cF{w w':World}{S:Nat->Prop}{g j:Nat}{u:Value}(h:Kp w w' S)(hS:S g):Kp w (w'.setCell ⟨g,j,none⟩ u) S:=h.set (p:=⟨g,j,none⟩) (.inr hS) u
theorem kK(b q:Nat):Addr.add ⟨b,0,none⟩ q=⟨b,q,none⟩:=by
 unfold Addr.add;split <;>simp_all
theorem mb(w:World)(cs:Array Value)(t:TypeId):bB (w.alloc (.cells cs t)) (some ⟨w.heap.size,0,none⟩) cs.toList:=by
 intro j u hj;refine⟨_,rfl,?_⟩;rw[aN,World.cell?_alloc_new];simpa using hj
theorem de{w a b:World}{r:Option Nat}(g:w.grownBy a none)(g':a.grownBy b r)(h:∀ k,r=some k->w.heap.size<=k):w.grownBy b none:=(Kp.step (S:=fun k=>w.heap.size<=k) (Kp.of_none g) g' (fun k hk=>.inl (h k hk))).grown (fun k hk e=>by omega)
theorem d9{w:World}{b s n c:Nat}{e:TypeId}{A:OA}{xs:List Value}(h:aH w b e s A n c xs):n<=c:=by
 obtain⟨_,h2 | ⟨_,_,_,_,_,h5,_⟩⟩:=h.cases
 ·obtain⟨_,rfl,rfl,_⟩:=h2;omega
 ·exact h5
theorem fQ(w:World)(cs:Array Value)(t:TypeId):∃ v,v=w.alloc (.cells cs t)/\w.grownBy v none/\v.heap[w.heap.size]?=some (.cells cs t (0,0)):=⟨_,rfl,World.grownBy_alloc _ _ _,heap_alloc_new _ _⟩
theorem wg(w:World)(t:TypeId)(a0 a1 b0 b1:Value):∃ v,v=(((w.alloc (.cells #[a0,a1] t)).setCell ⟨w.heap.size,0,none⟩ b0).setCell ⟨w.heap.size,1,none⟩ b1)/\(∃ u,(w.alloc (.cells #[a0,a1] t)).cell? ⟨w.heap.size,0,none⟩=some u)/\(w.alloc (.cells #[a0,a1] t)).frozen? ⟨w.heap.size,0,none⟩=false/\(∃ u,((w.alloc (.cells #[a0,a1] t)).setCell ⟨w.heap.size,0,none⟩ b0).cell? ⟨w.heap.size,1,none⟩=some u)/\((w.alloc (.cells #[a0,a1] t)).setCell ⟨w.heap.size,0,none⟩ b0).frozen? ⟨w.heap.size,1,none⟩=false/\v.heap[w.heap.size]?=some (.cells #[b0,b1] t (0,0))/\w.grownBy v none:=by
 have s0:=heap_alloc_new w (.cells #[a0,a1] t);have s1:=aF s0 0 b0;have s2:=aF s1 1 b1;exact⟨_,rfl,⟨_,aA s0 0⟩,aC s0 0,⟨_,aA s1 1⟩,aC s1 1,by simpa using s2,Kp.grown (cF (cF (Kp.of_none (S:=fun k=>w.heap.size<=k) (World.grownBy_alloc w _ none)) (Nat.le_refl _)) (Nat.le_refl _)) (fun k hk e=>by omega)⟩
theorem Da(w:World)(t:TypeId)(a0 a1 a2 b0 b1 b2:Value):∃ v,v=((((w.alloc (.cells #[a0,a1,a2] t)).setCell ⟨w.heap.size,0,none⟩ b0).setCell ⟨w.heap.size,1,none⟩ b1).setCell ⟨w.heap.size,2,none⟩ b2)/\(∃ u,(w.alloc (.cells #[a0,a1,a2] t)).cell? ⟨w.heap.size,0,none⟩=some u)/\(w.alloc (.cells #[a0,a1,a2] t)).frozen? ⟨w.heap.size,0,none⟩=false/\(∃ u,((w.alloc (.cells #[a0,a1,a2] t)).setCell ⟨w.heap.size,0,none⟩ b0).cell? ⟨w.heap.size,1,none⟩=some u)/\((w.alloc (.cells #[a0,a1,a2] t)).setCell ⟨w.heap.size,0,none⟩ b0).frozen? ⟨w.heap.size,1,none⟩=false/\(∃ u,(((w.alloc (.cells #[a0,a1,a2] t)).setCell ⟨w.heap.size,0,none⟩ b0).setCell ⟨w.heap.size,1,none⟩ b1).cell? ⟨w.heap.size,2,none⟩=some u)/\(((w.alloc (.cells #[a0,a1,a2] t)).setCell ⟨w.heap.size,0,none⟩ b0).setCell ⟨w.heap.size,1,none⟩ b1).frozen? ⟨w.heap.size,2,none⟩=false/\v.heap[w.heap.size]?=some (.cells #[b0,b1,b2] t (0,0))/\w.grownBy v none:=by
 have s0:=heap_alloc_new w (.cells #[a0,a1,a2] t);have s1:=aF s0 0 b0;have s2:=aF s1 1 b1;have s3:=aF s2 2 b2;exact⟨_,rfl,⟨_,aA s0 0⟩,aC s0 0,⟨_,aA s1 1⟩,aC s1 1,⟨_,aA s2 2⟩,aC s2 2,by simpa using s3,Kp.grown (cF (cF (cF (Kp.of_none (S:=fun k=>w.heap.size<=k) (World.grownBy_alloc w _ none)) (Nat.le_refl _)) (Nat.le_refl _)) (Nat.le_refl _)) (fun k hk e=>by omega)⟩
theorem ud(w:World)(t:TypeId)(a0 a1 a2 a3 b0 b1 b2 b3:Value):∃ v,v=(((((w.alloc (.cells #[a0,a1,a2,a3] t)).setCell ⟨w.heap.size,0,none⟩ b0).setCell ⟨w.heap.size,1,none⟩ b1).setCell ⟨w.heap.size,2,none⟩ b2).setCell ⟨w.heap.size,3,none⟩ b3)/\(∃ u,(w.alloc (.cells #[a0,a1,a2,a3] t)).cell? ⟨w.heap.size,0,none⟩=some u)/\(w.alloc (.cells #[a0,a1,a2,a3] t)).frozen? ⟨w.heap.size,0,none⟩=false/\(∃ u,((w.alloc (.cells #[a0,a1,a2,a3] t)).setCell ⟨w.heap.size,0,none⟩ b0).cell? ⟨w.heap.size,1,none⟩=some u)/\((w.alloc (.cells #[a0,a1,a2,a3] t)).setCell ⟨w.heap.size,0,none⟩ b0).frozen? ⟨w.heap.size,1,none⟩=false/\(∃ u,(((w.alloc (.cells #[a0,a1,a2,a3] t)).setCell ⟨w.heap.size,0,none⟩ b0).setCell ⟨w.heap.size,1,none⟩ b1).cell? ⟨w.heap.size,2,none⟩=some u)/\(((w.alloc (.cells #[a0,a1,a2,a3] t)).setCell ⟨w.heap.size,0,none⟩ b0).setCell ⟨w.heap.size,1,none⟩ b1).frozen? ⟨w.heap.size,2,none⟩=false/\(∃ u,((((w.alloc (.cells #[a0,a1,a2,a3] t)).setCell ⟨w.heap.size,0,none⟩ b0).setCell ⟨w.heap.size,1,none⟩ b1).setCell ⟨w.heap.size,2,none⟩ b2).cell? ⟨w.heap.size,3,none⟩=some u)/\((((w.alloc (.cells #[a0,a1,a2,a3] t)).setCell ⟨w.heap.size,0,none⟩ b0).setCell ⟨w.heap.size,1,none⟩ b1).setCell ⟨w.heap.size,2,none⟩ b2).frozen? ⟨w.heap.size,3,none⟩=false/\v.heap[w.heap.size]?=some (.cells #[b0,b1,b2,b3] t (0,0))/\w.grownBy v none:=by
 have s0:=heap_alloc_new w (.cells #[a0,a1,a2,a3] t);have s1:=aF s0 0 b0;have s2:=aF s1 1 b1;have s3:=aF s2 2 b2;have s4:=aF s3 3 b3;exact⟨_,rfl,⟨_,aA s0 0⟩,aC s0 0,⟨_,aA s1 1⟩,aC s1 1,⟨_,aA s2 2⟩,aC s2 2,⟨_,aA s3 3⟩,aC s3 3,by simpa using s4,Kp.grown (cF (cF (cF (cF (Kp.of_none (S:=fun k=>w.heap.size<=k) (World.grownBy_alloc w _ none)) (Nat.le_refl _)) (Nat.le_refl _)) (Nat.le_refl _)) (Nat.le_refl _)) (fun k hk e=>by omega)⟩
theorem qx{W:World}{base s n c g:Nat}{e t:TypeId}{fr:Nat×Nat}{A:OA}{xs:List Value}{cur:Array Value}(h:aH W base e s A n c xs)(hb:W.heap[g]?=some (.cells cur t fr))(ne:e≠t):(Value.slice A n c).ownBlock≠some g:=by
 intro hg;obtain⟨cur',h'⟩:=h.block_type g hg;rw[hb]at h';cases h';exact ne rfl
end Go.V
