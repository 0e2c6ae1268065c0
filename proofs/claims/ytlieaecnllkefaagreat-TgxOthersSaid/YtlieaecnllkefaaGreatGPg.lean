/- Own texts, packed: T1, T2, T3, T4. -/
import Derived.Test.YtlieaecnllkefaaGreatGCg
import Derived.Test.YtlieaecnllkefaaGreatGNg
import Derived.Test.YtlieaecnllkefaaGreatGYg
import Derived.Test.YtlieaecnllkefaaGreatGZg
import Derived.Laws.Externs
import Derived.Lib.Overlaps
import Derived.Laws.Small
set_option linter.unusedVariables false
set_option linter.unusedSimpArgs false
set_option maxHeartbeats 4000000
set_option maxRecDepth 100000
namespace Go.Proofs.YtlieaecnllkefaaGreat
open Go Go.V Go.RowKit
def iP(x y:Int):Int:=if x<y then -1 else if x>y then 1 else 0
theorem mJ{x:Int}{w:World}{R:Ending->World->Prop}(h:R (.returned (.bool false)) w):Calls P 174 #[.int .u32 x] w R:=by
 apply vc174;unfold VC174;simpa using h
theorem mI{x:Int}{w:World}{R:Ending->World->Prop}(h:R (.returned (.bool false)) w):Calls P 168 #[.int .i64 x] w R:=by
 apply vc168;unfold VC168;simpa using h
theorem kP{x y:Int}{w:World}:Calls P 149 #[.int .u32 x,.int .u32 y] w fun ev w'=>ev=.returned (.int .i64 (iP x y))/\w'=w:=by
 apply vc149;dsimp only[VC149,Br,Bb,cB,iq];refine mJ ⟨false,rfl,mJ ⟨false,rfl,by simp,fun _=>⟨by simp,fun _=>⟨fun h=>⟨?_,rfl⟩,fun h=>⟨fun h'=>⟨?_,rfl⟩,fun h'=>⟨?_,rfl⟩⟩⟩⟩⟩⟩ <;>unfold iP
 ·rw[if_pos h]
 ·rw[if_neg h,if_pos h']
 ·rw[if_neg h,if_neg h']
theorem qr{x y:Int}{w:World}:Calls P 129 #[.int .i64 x,.int .i64 y] w fun ev w'=>ev=.returned (.int .i64 (iP x y))/\w'=w:=by
 apply vc129;dsimp only[VC129,Br,Bb,cB,iq];refine mI ⟨false,rfl,mI ⟨false,rfl,by simp,fun _=>⟨by simp,fun _=>⟨fun h=>⟨?_,rfl⟩,fun h=>⟨fun h'=>⟨?_,rfl⟩,fun h'=>⟨?_,rfl⟩⟩⟩⟩⟩⟩ <;>unfold iP
 ·rw[if_pos h]
 ·rw[if_neg h,if_pos h']
 ·rw[if_neg h,if_neg h']
theorem tY{w:World}{A:OA}{c:Nat}{x y:Int}(hr:bB w A [.int .i64 x,.int .i64 y]):Calls P 128 #[.slice A 2 c] w fun ev w'=>ev=.returned (.int .i64 (if x≠0 then x else y))/\w.grownBy w' none:=by
 apply vc128;dsimp only[VC128,Br,Rd,Ix,iq]
 try simp only[aG]
 refine⟨fun m i w'=>∃ p:Nat,i=(p:Int)/\p<=2/\m=2-p/\w.grownBy w' none/\(0<p->x=0)/\(1<p->y=0),⟨_,0,rfl,by omega,rfl,aD _ _,by omega,by omega⟩,?_⟩;rintro m i w1 ⟨p,rfl,hp,rfl,hg,h0,h1⟩;have tp:(p:Int).toNat=p:=by omega
 rw[tp];refine⟨fun DF=>?_,fun DK=>?_⟩
 ·match p,hp,DF with
  | 0,_,_ =>
   obtain⟨a,e1,e2⟩:=(hr.kept_none hg) 0 (.int .i64 x) rfl;refine⟨a,e1,by omega,by omega,_,e2,fun hx=>⟨by rw[if_pos hx],hg⟩,fun hx=>⟨by omega,_,?_,1,rfl,by omega,rfl,hg,fun _=>by omega,by omega⟩⟩;omega
  | 1,_,_ =>
   obtain⟨a,e1,e2⟩:=(hr.kept_none hg) 1 (.int .i64 y) rfl;refine⟨a,e1,by omega,by omega,_,e2,fun hx=>⟨by rw[if_neg (by have:=h0 (by omega);omega)],hg⟩,fun hx=>⟨by omega,_,?_,2,rfl,by omega,rfl,hg,fun _=>h0 (by omega),fun _=>by omega⟩⟩;omega
  | 2,_,h=>omega
 ·have:p=2:=by omega
  subst this;refine⟨?_,hg⟩;have:=h0 (by omega);have:=h1 (by omega);rw[if_neg (by omega)];congr 2;omega
theorem CS{a b:Edge}:(if iP a.1 b.1≠0 then iP a.1 b.1 else iP a.2 b.2)<0↔aK a b=true:=by
 rw[dI];unfold iP
 repeat' split
 all_goals omega
theorem CT{x y c:Int}(h:¬ c<0):(if iP x y≠0 then iP x y else c)<0↔x<y:=by
 unfold iP
 repeat' split
 all_goals omega
theorem BQ{x y c:Int}(h:c<0):(if iP x y≠0 then iP x y else c)<0↔(x<y∨x=y):=by
 unfold iP
 repeat' split
 all_goals omega
theorem lL{w:World}(a b:Edge):Calls P 104 #[gl a,gl b] w fun ev w'=>∃ c:Int,ev=.returned (.int .i64 c)/\(c<0↔aK a b=true)/\w.grownBy w' none:=by
 apply vc104;dsimp only[VC104,Rd,Rc,cI,nb,iq];obtain⟨w1,DG,g1,b1⟩:=fQ w #[.int .u32 a.1,.int .u32 a.2] 45;rw[← DG];obtain⟨w2,Es,g2,b2⟩:=fQ w1 #[.int .u32 b.1,.int .u32 b.2] 45;rw[← Es];have b1':=aE b1 g2;have gd:=aI (aD w2 none);refine⟨fun w'=>w2.grownBy w' none,gd,_,aA (aE b1' gd) 0,_,aA (aE b2 gd) 0,kP.mono fun ev w3 hh=>?_⟩;obtain⟨rfl,rfl⟩:=hh;refine⟨_,rfl,gd,_,fun wq gq=>aA (aE b1' gq) 1,_,fun wq gq=>aA (aE b2 gq) 1,kP.mono fun ev w4 hh=>?_⟩;obtain⟨rfl,rfl⟩:=hh;have ga:=World.grownBy_alloc w2.drew (.cells #[.int .i64 (iP a.1 b.1),.int .i64 (iP a.2 b.2)] 3) none;have hA:=aB gd ga;refine⟨_,rfl,gd,hA,(tY (eP w2.drew #[.int .i64 (iP a.1 b.1),.int .i64 (iP a.2 b.2)] 3 (0,0))).mono fun ev w5 hh=>?_⟩;obtain⟨rfl,g5⟩:=hh;exact⟨_,rfl,aB hA g5,_,rfl,CS,aB g1 (aB g2 (aB hA g5))⟩
theorem pU{w:World}(a b:Edge):Calls P 65 #[gl a,gl b] w fun ev w'=>ev=.returned (.bool (aK a b))/\w.grownBy w' none:=by
  apply vc65;dsimp only[VC65,Rd,cI,nb];obtain⟨w1,DG,g1,b1⟩:=fQ w #[.int .u32 a.1,.int .u32 a.2] 45;rw[← DG];obtain⟨w2,Es,g2,b2⟩:=fQ w1 #[.int .u32 b.1,.int .u32 b.2] 45;rw[← Es];have b1':=aE b1 g2;refine⟨_,aA b1' 0,_,aA b1' 1,_,aA b2 0,_,aA b2 1,(lL a b).mono fun ev w3 hh=>?_⟩;obtain⟨c,rfl,hc,g3⟩:=hh;refine⟨c,rfl,?_,aB g1 (aB g2 g3)⟩;congr 2;by_cases h:c<0
  · rw[hc.1 h];simpa using h
  · have:aK a b=false:=by
      cases hl:aK a b
      · rfl
      · exact absurd (hc.2 hl) h
    rw[this];simpa using h
theorem nU{w:World}(e:Edge){n:Int}(he:0<=e.2/\e.2<=4294967295):Calls P 96 #[gl e,.int .u64 n] w fun ev w'=>ev=.returned (.bool (decide (e.1<e.2/\e.2<n)))/\w.grownBy w' none:=by
 apply vc96;dsimp only[VC96,rb,Br,Rd,nb]
 try simp only[aG]
 obtain⟨w1,DG,g1,b1⟩:=fQ w #[.int .u32 e.1,.int .u32 e.2] 45;rw[← DG];refine⟨_,aA b1 0,_,aA b1 1,fun h=>⟨_,aA b1 1,by omega,?_,g1⟩,fun h=>⟨?_,g1⟩⟩
 ·congr 2;rw[decide_eq_decide];exact⟨fun h'=>⟨h,h'⟩,fun h'=>h'.2⟩
 ·congr 2;symm;rw[decide_eq_false_iff_not];exact fun h'=>h h'.1
theorem s8{w:World}{A:OA}{n c:Nat}{l:List Edge}(hr:bB w A (edges l))(hn:n=l.length)(hl:n<=2^40):Calls P 105 #[.slice A n c] w fun ev w'=>ev=.returned (.bool (eu l))/\w.grownBy w' none:=by
 apply vc105;dsimp only[VC105,rb,Br,Rd,Ix,cB,ad,al]
 try simp only[aG]
 refine⟨fun m i w'=>∃ p:Nat,i=(p:Int)/\p<=l.length/\m=l.length-p/\w.grownBy w' none/\∀ j (h:j+1<l.length),j+1<p->aK l[j] l[j+1]=true,⟨_,0,rfl,by omega,rfl,aD _ _,fun j h hj=>by omega⟩,?_⟩;rintro m i w1 ⟨p,rfl,hp,rfl,hg,hx⟩;have gd:=aI hg;have tp:(p:Int).toNat=p:=by omega
 have tp1:((p:Int)-1).toNat=p-1:=by omega
 rw[tp,tp1];refine⟨fun DF=>⟨fun DZ=>?_,fun hz=>⟨by omega,_,?_,p+1,by omega,by omega,rfl,gd,fun j h hj=>by omega⟩⟩,fun DK=>⟨?_,hg⟩⟩
 ·have lp:p<l.length:=by omega
  obtain⟨a,e1,e2,e3⟩:=fz (hr.kept_none gd) (show p-1<l.length by omega);obtain⟨a',e1',e2',e3'⟩:=fz (hr.kept_none gd) lp;refine⟨by omega,a,e1,by omega,by omega,_,e2,_,e3,a',e1',by omega,by omega,_,e2',_,e3',(pU l[p-1] l[p]).mono fun ev w2 hh=>?_⟩;obtain⟨rfl,g2⟩:=hh;have Fe:=aB gd g2;refine⟨_,rfl,fun h=>⟨?_,Fe⟩,fun h=>⟨by omega,_,?_,p+1,by omega,by omega,rfl,Fe,fun j hj JH=>?_⟩⟩
  ·congr 2
   symm
   rw[Bool.eq_false_iff];intro Et;have:=List.pairwise_iff_getElem.1 ((fJ l).1 Et) (p-1) p (by omega) lp (by omega);rw[this]at h;cases h
  ·omega
  ·by_cases e:j+1=p
   ·subst e;simpa using h
   ·exact hx j hj (by omega)
 ·omega
 ·have:p=l.length:=by omega
  subst this;congr 2
  symm
  unfold eu;rw[List.all_eq_true];intro j hj;have EM:j+1<l.length:=by have:=List.mem_range.1 hj;omega
  have:=hx j EM EM;rw[List.getD_eq_getElem?_getD,List.getD_eq_getElem?_getD,List.getElem?_eq_getElem (by omega),List.getElem?_eq_getElem EM];exact this
theorem mL{w:World}(a b:aU):Calls P 97 #[evtV a,evtV b] w fun ev w'=>ev=.returned (.bool (bC a b))/\w.grownBy w' none:=by
 apply vc97;dsimp only[VC97,Rd,Rc,cI,nb,iq];obtain⟨w1,DG,g1,b1⟩:=fQ w #[.int .i64 a.t,.int .u32 a.u,.int .u32 a.v,.bool a.add] 62;rw[← DG];obtain⟨w2,Es,g2,b2⟩:=fQ w1 #[.int .i64 b.t,.int .u32 b.u,.int .u32 b.v,.bool b.add] 62;rw[← Es];have b1':=aE b1 g2;have gd:=aI (aD w2 none);refine⟨fun w'=>w2.grownBy w' none,gd,_,aA (aE b1' gd) 0,_,aA (aE b2 gd) 0,qr.mono fun ev w3 hh=>?_⟩;obtain⟨rfl,rfl⟩:=hh;refine⟨_,rfl,gd,_,fun wq gq=>aA (aE b1' gq) 1,_,fun wq gq=>aA (aE b1' gq) 2,_,fun wq gq=>aA (aE b2 gq) 1,_,fun wq gq=>aA (aE b2 gq) 2,(lL (a.u,a.v) (b.u,b.v)).mono fun ev w4 hh=>?_⟩;obtain⟨c,rfl,hc,g4⟩:=hh;have LL:=aB gd g4;have ga:=World.grownBy_alloc w4 (.cells #[.int .i64 (iP a.t b.t),.int .i64 c] 3) none;have hA:=aB LL ga;refine⟨_,rfl,LL,hA,(tY (eP w4 #[.int .i64 (iP a.t b.t),.int .i64 c] 3 (0,0))).mono fun ev w5 hh=>?_⟩;obtain⟨rfl,g5⟩:=hh;refine⟨_,rfl,aB hA g5,?_,aB g1 (aB g2 (aB hA g5))⟩;congr 2;unfold bC;cases hl:aK (a.u,a.v) (b.u,b.v)
 ·have G8:¬ c<0:=fun h=>by rw[hc.1 h]at hl;cases hl
  have e:decide ((if iP a.t b.t≠0 then iP a.t b.t else c)<0)=decide (a.t<b.t):=decide_eq_decide.2 (CT G8);rw[e];simp
 ·have e:decide ((if iP a.t b.t≠0 then iP a.t b.t else c)<0)=decide (a.t<b.t∨a.t=b.t):=decide_eq_decide.2 (BQ (hc.2 hl));rw[e];simp
def Bp(x:Int):Prop:=0<=x/\x<=4294967295
def mY(e:Edge):Prop:=Bp e.1/\Bp e.2
theorem tw{x:Int}(h:Bp x):(Lit.int .u32 x).wf=true:=by
 have h1:IntKind.u32.min=0:=rfl;have h2:IntKind.u32.max=4294967295:=rfl;obtain⟨a,b⟩:=h;simp only[Lit.wf,Bool.and_eq_true,decide_eq_true_eq];omega
theorem yg{a b:Int}(wa:(Lit.int .u32 a).wf=true)(wb:(Lit.int .u32 b).wf=true):∃ l,keyOf P 45 (.agg #[.int .u32 a,.int .u32 b])=some l:=by
 have Ff:∃ m,P.types.size=m+1:=⟨P.types.size-1,by kernel_rfl⟩;have hu:=Tryz.underlying45;have PX:=Tryz.underlying43;have c1:P.cellsOf 45=2:=by kernel_rfl
 have c2:P.cellsOf 43=1:=by kernel_rfl
 have hk:P.keyType 45=true:=by kernel_rfl
 obtain⟨m,hm⟩:=Ff;unfold keyOf;simp only[P]at *;simp only[hu];rw[if_pos (by simp[hk,Value.formed,hu,c1]),hm];unfold Program.keyLits;simp only[hu,Value.cells];rw[if_pos (by rw[c1];exact⟨rfl,by simp⟩)];simp only[List.mapM_cons,List.mapM_nil];simp[c2,Program.keyLits,PX,wa,wb]
theorem Ai:AQ P 45 gl mY where
 law:=Maps.Keyed.of_law (deep_law (m:=3) (by omega) (by kernel_rfl) (by kernel_rfl) (by kernel_rfl))
 key:=fun x hx=>yg (tw hx.1) (tw hx.2)
 inj:=by
  rintro⟨a,b⟩ ⟨c,d⟩ h;simp[gl]at h;simp[h]
abbrev tg(w:World)(b:Nat)(L:List (Edge×Bool)):Prop:=dh gl mY Value.bool w b L
theorem zG(w:World):(zeroValue 4).run P w=.ok (.bool false) w:=by
 have h:((P.info? 4).getD default).zero=some (.bool false):=by kernel_rfl
 have h2:(P.info? 4).isSome=true:=by kernel_rfl
 cases hq:P.info? 4 with
 | none=>rw[hq]at h2;cases h2
 | some i=>rw[hq]at h;simp at h;simp[zeroValue,typeInfo,hq,h]
theorem C8{w:World}{b:Nat}{L:List (Edge×Bool)}(h:tg w b L){k:Edge}(hk:mY k):Sem.run P (Instr.lookup 114 (.map (some b)) (gl k) false) w=.ok (.bool ((dy L k).getD false)) w:=by
 have:=dh.look Ai (mt:=114) (et:=4) Tryz.underlying114 (zG w) h hk false;rw[this];cases dy L k <;>rfl
theorem qw(s t:Operand)(a b:Bool)(w:World):Sem.run P (do eqGuard .eql 4 s t (.bool a) (.bool b);Go.binOp .eql 4 (.bool a) (.bool b):Sem Value) w=.ok (.bool (decide (a=b))) w:=by
 have hb:P.underlying 4=some .bool:=Tryz.underlying4;have h:(a ==b)=decide (a=b):=by cases a <;>cases b <;>rfl
 simp[eqGuard_at_bool,run_eql_bool w 4 a b hb,h]
def gK(L:List (Edge×Bool))(now:List Edge):Prop:=∀ a,(dy L a).getD false=decide (a∈now)
theorem gK.upd{L:List (Edge×Bool)}{now x:List Edge}{e:aU}(h:gK L now)(ht:bX now e=some x):gK (io L (e.u,e.v) e.add) x:=by
 intro a;rw[rJ];have:=(gM ht).2.1 a;by_cases ha:(e.u,e.v)=a
 ·rw[if_pos ha];rw[if_pos ha.symm]at this;cases FL:e.add <;>simp_all
 ·rw[if_neg ha,h a];rw[if_neg (fun e=>ha e.symm)]at this;exact decide_eq_decide.2 this.symm
theorem gK.turn{L:List (Edge×Bool)}{now:List Edge}{e:aU}(h:gK L now)(hr:fp now):(bX now e=none↔(dy L (e.u,e.v)).getD false=e.add):=by
 rw[oJ hr,h];exact eq_comm
def befO(p:Option aU)(e:aU):Bool:=match p with
 | none=>true
 | some q=>bC q e
theorem vn(N:Int)(e:aU)(l:List aU)(p:Option aU)(now:List Edge)(i:Nat):dr N (e ::l) p now i=if e.t<0∨e.t>4611686018427387903 then((i:Int),26)
    else if nL N e=false then((i:Int),24)
    else if befO p e=false then((i:Int),23)
    else match bX now e with
      | none=>((i:Int),25)
      | some x=>dr N l (some e) x (i+1):=by
  rw[nY];cases p <;>rfl
def sI(l:List aU):Prop:=∀ e∈l,(0<=e.u/\e.u<=4294967295)/\0<=e.v/\e.v<=4294967295
theorem kw {w :World} {A:OA} {n c:Nat} {l:List aU} {N:Int} (hr:bB w A (cw l)) (hn:n=l.length) (hl:n<=2^20) (hb:sI l) :
    Calls P 59 #[.agg #[.int .u64 N,.slice A n c]] w fun ev w'=>ev=.returned (.tuple #[.int .i64 (fm N l).1,.int .i64 (fm N l).2])/\w.grownBy w' none:=by
  apply vc59;dsimp only[VC59,rt,Wt,Br,Bb,Rd,Rs,Ix,Eg,Ws,cB,nb,ad,al,iq]
  try simp only[aG]
  obtain⟨w0,FB,g0,b0⟩:=fQ w #[.int .u64 N,.slice A n c] 25;rw[← FB];refine⟨_,aA b0 0,fun hN=>⟨by unfold fm;rw[if_pos (.inl hN)],g0⟩,fun hN=>⟨_,_,_,aA b0 1,fun hL=>by omega,fun hL=>?_⟩⟩;have hM:tg (w0.alloc (.map #[] 0)) w0.heap.size []:=dh.made w0;have g1:=World.grownBy_alloc w0 (.map #[] 0) none;obtain⟨w1,Ez⟩:∃ w1,w1=w0.alloc (.map #[] 0):=⟨_,rfl⟩;rw[← Ez]at hM g1 ⊢;have FS:fm N l=dr N l none [] 0:=by unfold fm;rw[if_neg (by omega)]
  rw[FS];have lb:w.heap.size<w0.heap.size:=(Array.getElem?_eq_some_iff.1 b0).1
  refine⟨_,_,_,aA (aE b0 g1) 1,fun m i w'=>∃ (p:Nat) (now:List Edge) (L:List (Edge×Bool)),i=(p:Int)/\p<=l.length/\m=l.length-p/\fp now/\tg w' w0.heap.size L/\gK L now ∧
      dr N l none [] 0=dr N (l.drop p) (if p=0 then none else l[p-1]?) now p/\w.grownBy w' none/\w'.heap[w.heap.size]?=some (.cells #[.int .u64 N,.slice A n c] 25 (0,0)),
    ⟨_,0,[],[],rfl,by omega,rfl,List.Pairwise.nil,hM,fun a=>by simp[dy],rfl,aB g0 g1,aE b0 g1⟩,?_⟩
  rintro m i w2 ⟨p,now,L,rfl,hp,rfl,Et,Mj,FW,E8,hg,bH⟩;have tp:(p:Int).toNat=p:=by omega
  have tp1:((p:Int)-1).toNat=p-1:=by omega
  rw[tp,tp1];refine⟨fun DF=>?_,fun DK=>?_⟩
  · have lp : p<l.length:=by omega
    rw[List.drop_eq_getElem_cons lp,vn]at E8;have Hs:=hb _ (List.getElem_mem lp);obtain⟨a,e1,e2,e3,e4,e5⟩:=eS (hr.kept_none hg) lp;obtain⟨w3,hE,pE0,qE0,pE1,qE1,pE2,qE2,pE3,qE3,bE,gE⟩:=ud w2 62 (.int .i64 0) (.int .u32 0) (.int .u32 0) (.bool false) (.int .i64 l[p].t) (.int .u32 l[p].u) (.int .u32 l[p].v) (.bool l[p].add);refine⟨a,e1,by omega,by omega,_,e2,_,e3,_,e4,_,e5,pE0,qE0,pE1,qE1,pE2,qE2,pE3,qE3,?_⟩;rw[← hE];have bH3:=aE bH gE;have D9:=aB hg gE;refine⟨_,aA bE 0,fun h1=>⟨by rw[E8,if_pos (.inl h1)],D9⟩,fun h1=>⟨_,aA bE 0,fun h2=>⟨by rw[E8,if_pos (.inr h2)],D9⟩,fun h2=>⟨_,aA bE 1,_,aA bE 2,_,aA bH3 0,(nU (l[p].u,l[p].v) ⟨Hs.2.1,Hs.2.2⟩).mono fun ev w4 hh=>?_⟩⟩⟩;obtain⟨rfl,g4⟩:=hh;rw[if_neg (by omega)]at E8;have bH4:=aE bH3 g4;have bE4:=aE bE g4;have Ef:=aB D9 g4;have Ob:tg w4 w0.heap.size L:=(Mj.kept gE).kept g4;refine⟨_,rfl,fun h3=>⟨by rw[E8,if_pos (by unfold nL;exact h3)],Ef⟩,fun h3=>?_⟩;rw[if_neg (by unfold nL;exact h3)]at E8
    -- what is asked of the map, and what is written into it then
    have last :∀ W:World,w4.grownBy W none->befO (if p=0 then none else l[p-1]?) l[p]=true →
        ∃ x61 :Int,World.cell? W ⟨w2.heap.size,1,none⟩=some (.int .u32 x61)/\∃ x61_1:Int,World.cell? W ⟨w2.heap.size,2,none⟩=some (.int .u32 x61_1)/\∃ x62:Bool,Sem.run P (Instr.lookup 114 (.map (some w0.heap.size)) (.agg #[.int .u32 x61,.int .u32 x61_1]) false) W=.ok (.bool x62) W ∧
          ∃ x64:Bool,World.cell? W ⟨w2.heap.size,3,none⟩=some (.bool x64)/\∃ x65:Bool,(∀ w:World,Sem.run P (do eqGuard .eql 4 (.tmp 62) (.tmp 64) (.bool x62) (.bool x64);Go.binOp .eql 4 (.bool x62) (.bool x64):Sem Value) w=.ok (.bool x65) w) ∧
          ((x65=true->(Ending.returned (.tuple #[.int .i64 p,.int .i64 25])=Ending.returned (.tuple #[.int .i64 (dr N l none [] 0).1,.int .i64 (dr N l none [] 0).2])/\w.grownBy W none)) ∧
           (x65=false->∃ x69:Int,World.cell? W ⟨w2.heap.size,1,none⟩=some (.int .u32 x69)/\∃ x69_1:Int,World.cell? W ⟨w2.heap.size,2,none⟩=some (.int .u32 x69_1)/\∃ x71:Bool,World.cell? W ⟨w2.heap.size,3,none⟩=some (.bool x71)/\∃ wv_4:World,Sem.run P (Instr.mapUpdate 114 (.map (some w0.heap.size)) (.agg #[.int .u32 x69,.int .u32 x69_1]) (.bool x71)) W=.ok () wv_4/\(-9223372036854775808<=(p:Int)+1/\(p:Int)+1<=9223372036854775807)/\∃ m_1:Nat,m_1<l.length-p/\∃ (p':Nat) (now:List Edge) (L:List (Edge×Bool)),(p:Int)+1=(p':Int)/\p'<=l.length/\m_1=l.length-p'/\fp now/\tg wv_4 w0.heap.size L/\gK L now ∧
              dr N l none [] 0=dr N (l.drop p') (if p'=0 then none else l[p'-1]?) now p'/\w.grownBy wv_4 none/\wv_4.heap[w.heap.size]?=some (.cells #[.int .u64 N,.slice A n c] 25 (0,0)))):=by
      intro W gW EP;have bEW:=aE bE4 gW;have LA:=Ob.kept gW;have GL:=aB Ef gW;have okk:mY (l[p].u,l[p].v):=⟨Hs.1,Hs.2⟩;refine⟨_,aA bEW 1,_,aA bEW 2,_,C8 LA okk,_,aA bEW 3,_,fun w=>qw _ _ _ _ w,fun h5=>?_,fun h5=>?_⟩
      · have:=(FW.turn (e:=l[p]) Et).2 (of_decide_eq_true h5);rw[E8,this];rw[if_neg (by rw[EP];simp)];exact⟨rfl,GL⟩
      · have DJ:bX now l[p]≠none:=fun h=>of_decide_eq_false h5 ((FW.turn (e:=l[p]) Et).1 h);obtain⟨x,hx⟩:∃ x,bX now l[p]=some x:=by
          cases hq:bX now l[p]with
          | none=>exact absurd hq DJ
          | some x=>exact⟨x,rfl⟩
        obtain⟨W2,k1,k2,k3⟩:=dh.update Ai Tryz.underlying114 LA okk l[p].add;refine⟨_,aA bEW 1,_,aA bEW 2,_,aA bEW 3,W2,k1,⟨by omega,by omega⟩,l.length-(p+1),by omega,p+1,x,io L (l[p].u,l[p].v) l[p].add,by omega,by omega,rfl,(gM hx).1,k2,FW.upd hx,?_,aP GL k3 (fun k hk=>by cases hk;omega),?_⟩
        · rw[E8,if_neg (by rw[EP];simp),hx];simp[lp]
        · rw[k3.block _ (by have:=GL.size;have:=(Array.getElem?_eq_some_iff.1 (aE bH4 gW)).1;omega) (by simp;omega)];exact aE bH4 gW
    refine⟨fun DZ=>?_,fun hz=>?_⟩
    · have gd:=aI (aD w4 none);obtain⟨a',q1,q2,q3,q4,q5⟩:=eS (hr.kept_none (aB Ef gd)) (show p-1<l.length by omega);refine⟨_,_,_,aA (aE bH4 gd) 1,by omega,a',q1,by omega,by omega,_,q2,_,q3,_,q4,_,q5,_,aA (aE bE4 gd) 0,_,aA (aE bE4 gd) 1,_,aA (aE bE4 gd) 2,_,aA (aE bE4 gd) 3,(mL l[p-1] l[p]).mono fun ev w5 hh=>?_⟩;obtain⟨rfl,g5⟩:=hh;have OW:(if p=0 then none else l[p-1]?:Option aU)=some l[p-1]:=by rw[if_neg (by omega)];exact List.getElem?_eq_getElem (by omega)
      refine⟨_,rfl,fun h4=>⟨?_,aB Ef (aB gd g5)⟩,fun h4=>last _ (aI (aB gd g5)) ?_⟩
      · rw[E8,if_pos (by rw[OW];exact h4)]
      · rw[OW];show bC l[p-1] l[p]=true;simpa using h4
    · refine last _ (aI (aI (aD w4 none))) ?_;rw[if_pos (by omega)];rfl
  · have:p=l.length:=by omega
    subst this;rw[List.drop_length]at E8;refine⟨?_,hg⟩;rw[E8];rfl
theorem j4.times{N:Int}{l:List aU}{p:Option aU}{now:List Edge}(h:j4 N l p now):mO l:=by
 have key:∀ {l:List aU} {p:Option aU} {now:List Edge},j4 N l p now->mO l/\∀ q,p=some q->∀ e∈l,bC q e=true:=by
  intro l
  induction l with
  | nil=>intro p now _;exact⟨List.Pairwise.nil,fun _ _ e he=>by simp at he⟩
  | cons e l ih =>
   intro p now h;obtain⟨_,_,h3,x,_,h'⟩:=h;obtain⟨k1,k2⟩:=ih h';refine⟨List.pairwise_cons.2 ⟨fun a ha=>k2 e rfl a ha,k1⟩,fun q hq a ha=>?_⟩;rcases List.mem_cons.1 ha with rfl | ha
   ·exact h3 q hq
   ·exact mN (h3 q hq) (k2 e rfl a ha)
 exact(key h).1
theorem mO.le{l:List aU}(h:mO l){i j:Nat}(El:i<=j)(hj:j<l.length):l[i].t<=l[j].t:=by
 by_cases e:i=j
 ·subst e;exact Int.le_refl _
 ·have:=List.pairwise_iff_getElem.1 h i j (by omega) hj (by omega);rw[dT]at this;omega
end Go.Proofs.YtlieaecnllkefaaGreat
