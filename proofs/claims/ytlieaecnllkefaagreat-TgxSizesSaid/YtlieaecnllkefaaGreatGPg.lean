/- Own texts, packed: T1, T2, T3, T4. -/
import Derived.Test.YtlieaecnllkefaaGreatGCg
import Derived.Test.YtlieaecnllkefaaGreatGNg
import Derived.Test.YtlieaecnllkefaaGreatGYg
import Derived.Test.YtlieaecnllkefaaGreatGZg
import Derived.Laws.Externs
import Derived.Lib.Overlaps
import Derived.Laws.Small
namespace Go.Proofs.YtlieaecnllkefaaGreat
open Go Go.V Go.RowKit
set_option linter.unusedVariables false
set_option linter.unusedSimpArgs false
set_option maxHeartbeats 4000000
set_option maxRecDepth 100000
def y7(x y:Int):Int:=if x<y then -1 else if x>y then 1 else 0
theorem u6{x:Int}{w:World}{R:Ending->World->Prop}(h:R (.returned (.bool false)) w):Calls P 174 #[.int .u32 x] w R:=by
 apply vc174;unfold VC174;simpa using h
theorem u5{x:Int}{w:World}{R:Ending->World->Prop}(h:R (.returned (.bool false)) w):Calls P 168 #[.int .i64 x] w R:=by
 apply vc168;unfold VC168;simpa using h
theorem pu{x y:Int}{w:World}:Calls P 149 #[.int .u32 x,.int .u32 y] w fun ev w'=>ev=.returned (.int .i64 (y7 x y))/\w'=w:=by
 apply vc149;dsimp only[VC149,Wt,Br,Bb,Rd,Rc,Rs,Ix,rI_,rB_,rS_]
 refine u6 ⟨false,rfl,u6 ⟨false,rfl,by simp,fun _=>⟨by simp,fun _=>⟨fun h=>⟨?_,rfl⟩,fun h=>⟨fun h'=>⟨?_,rfl⟩,fun h'=>⟨?_,rfl⟩⟩⟩⟩⟩⟩ <;>unfold y7
 ·rw[if_pos h]
 ·rw[if_neg h,if_pos h']
 ·rw[if_neg h,if_neg h']
theorem qav{x y:Int}{w:World}:Calls P 129 #[.int .i64 x,.int .i64 y] w fun ev w'=>ev=.returned (.int .i64 (y7 x y))/\w'=w:=by
 apply vc129;dsimp only[VC129,Wt,Br,Bb,Rd,Rc,Rs,Ix,rI_,rB_,rS_]
 refine u5 ⟨false,rfl,u5 ⟨false,rfl,by simp,fun _=>⟨by simp,fun _=>⟨fun h=>⟨?_,rfl⟩,fun h=>⟨fun h'=>⟨?_,rfl⟩,fun h'=>⟨?_,rfl⟩⟩⟩⟩⟩⟩ <;>unfold y7
 ·rw[if_pos h]
 ·rw[if_neg h,if_pos h']
 ·rw[if_neg h,if_neg h']
theorem qez{w:World}{A:Option Addr}{c:Nat}{x y:Int}(hr:Row w A [.int .i64 x,.int .i64 y]):Calls P 128 #[.slice A 2 c] w fun ev w'=>ev=.returned (.int .i64 (if x≠0 then x else y))/\w.grownBy w' none:=by
 apply vc128;dsimp only[VC128,Wt,Br,Bb,Rd,Rc,Rs,Ix,rI_,rB_,rS_]
 try simp only[InK]
 refine⟨fun m i w'=>∃ p:Nat,i=(p:Int)/\p<=2/\m=2-p/\w.grownBy w' none/\(0<p->x=0)/\(1<p->y=0),⟨_,0,rfl,by omega,rfl,af _ _,by omega,by omega⟩,?_⟩
 rintro m i w1 ⟨p,rfl,hp,rfl,hg,h0,h1⟩
 have tp:(p:Int).toNat=p:=by omega
 rw[tp]
 refine⟨fun hlt=>?_,fun hge=>?_⟩
 ·match p,hp,hlt with
  | 0,_,_ =>
   obtain⟨a,e1,e2⟩:=(hr.kept_none hg) 0 (.int .i64 x) rfl
   refine⟨a,e1,by omega,by omega,_,e2,fun hx=>⟨by rw[if_pos hx],hg⟩,fun hx=>⟨by omega,_,?_,1,rfl,by omega,rfl,hg,fun _=>by omega,by omega⟩⟩
   omega
  | 1,_,_ =>
   obtain⟨a,e1,e2⟩:=(hr.kept_none hg) 1 (.int .i64 y) rfl
   refine⟨a,e1,by omega,by omega,_,e2,fun hx=>⟨by rw[if_neg (by have:=h0 (by omega);omega)],hg⟩,fun hx=>⟨by omega,_,?_,2,rfl,by omega,rfl,hg,fun _=>h0 (by omega),fun _=>by omega⟩⟩
   omega
  | 2,_,h=>omega
 ·have:p=2:=by omega
  subst this
  refine⟨?_,hg⟩
  have:=h0 (by omega);have:=h1 (by omega)
  rw[if_neg (by omega)];congr 2;omega
theorem qqp{a b:Edge}:(if y7 a.1 b.1≠0 then y7 a.1 b.1 else y7 a.2 b.2)<0↔aw a b=true:=by
 rw[eg];unfold y7
 repeat' split
 all_goals omega
theorem qqq{x y c:Int}(h:¬ c<0):(if y7 x y≠0 then y7 x y else c)<0↔x<y:=by
 unfold y7
 repeat' split
 all_goals omega
theorem qoi{x y c:Int}(h:c<0):(if y7 x y≠0 then y7 x y else c)<0↔(x<y∨x=y):=by
 unfold y7
 repeat' split
 all_goals omega
theorem rr{w:World}(a b:Edge):Calls P 104 #[nk a,nk b] w fun ev w'=>∃ c:Int,ev=.returned (.int .i64 c)/\(c<0↔aw a b=true)/\w.grownBy w' none:=by
 apply vc104;dsimp only[VC104,Wt,Br,Bb,Rd,Rc,Rs,Ix,rI_,rB_,rS_]
 have g1:=World.grownBy_alloc w (.cells #[.int .u32 a.1,.int .u32 a.2] 45) none
 have b1:(w.alloc (.cells #[.int .u32 a.1,.int .u32 a.2] 45)).heap[w.heap.size]?=some (.cells #[.int .u32 a.1,.int .u32 a.2] 45 (0,0)):=heap_alloc_new w _
 obtain⟨w1,hw_w1⟩:∃ w1,w1=w.alloc (.cells #[.int .u32 a.1,.int .u32 a.2] 45):=⟨_,rfl⟩
 rw[← hw_w1]at g1 b1 ⊢
 have g2:=World.grownBy_alloc w1 (.cells #[.int .u32 b.1,.int .u32 b.2] 45) none
 have b2:(w1.alloc (.cells #[.int .u32 b.1,.int .u32 b.2] 45)).heap[w1.heap.size]?=some (.cells #[.int .u32 b.1,.int .u32 b.2] 45 (0,0)):=heap_alloc_new w1 _
 obtain⟨w2,hw_w2⟩:∃ w2,w2=w1.alloc (.cells #[.int .u32 b.1,.int .u32 b.2] 45):=⟨_,rfl⟩
 rw[← hw_w2]at g2 b2 ⊢
 have b1':=ai b1 g2
 have gd:=aj (af w2 none)
 refine⟨fun w'=>w2.grownBy w' none,gd,_,aa (ai b1' gd) 0,_,aa (ai b2 gd) 0,pu.mono fun ev w3 hh=>?_⟩
 obtain⟨rfl,rfl⟩:=hh
 refine⟨_,rfl,gd,_,fun wq gq=>aa (ai b1' gq) 1,_,fun wq gq=>aa (ai b2 gq) 1,pu.mono fun ev w4 hh=>?_⟩
 obtain⟨rfl,rfl⟩:=hh
 have ga:=World.grownBy_alloc w2.drew (.cells #[.int .i64 (y7 a.1 b.1),.int .i64 (y7 a.2 b.2)] 3) none
 have hA:=ab gd ga
 refine⟨_,rfl,gd,hA,(qez (gn w2.drew #[.int .i64 (y7 a.1 b.1),.int .i64 (y7 a.2 b.2)] 3 (0,0))).mono fun ev w5 hh=>?_⟩
 obtain⟨rfl,g5⟩:=hh
 exact⟨_,rfl,ab hA g5,_,rfl,qqp,ab g1 (ab g2 (ab hA g5))⟩
theorem qar{w:World}(a b:Edge):Calls P 65 #[nk a,nk b] w fun ev w'=>ev=.returned (.bool (aw a b))/\w.grownBy w' none:=by
  apply vc65;dsimp only[VC65,Wt,Br,Bb,Rd,Rc,Rs,Ix,rI_,rB_,rS_]
  have g1:=World.grownBy_alloc w (.cells #[.int .u32 a.1,.int .u32 a.2] 45) none
  have b1:(w.alloc (.cells #[.int .u32 a.1,.int .u32 a.2] 45)).heap[w.heap.size]?=some (.cells #[.int .u32 a.1,.int .u32 a.2] 45 (0,0)):=heap_alloc_new w _
  obtain⟨w1,hw_w1⟩:∃ w1,w1=w.alloc (.cells #[.int .u32 a.1,.int .u32 a.2] 45):=⟨_,rfl⟩
  rw[← hw_w1]at g1 b1 ⊢
  have g2:=World.grownBy_alloc w1 (.cells #[.int .u32 b.1,.int .u32 b.2] 45) none
  have b2:(w1.alloc (.cells #[.int .u32 b.1,.int .u32 b.2] 45)).heap[w1.heap.size]?=some (.cells #[.int .u32 b.1,.int .u32 b.2] 45 (0,0)):=heap_alloc_new w1 _
  obtain⟨w2,hw_w2⟩:∃ w2,w2=w1.alloc (.cells #[.int .u32 b.1,.int .u32 b.2] 45):=⟨_,rfl⟩
  rw[← hw_w2]at g2 b2 ⊢
  have b1':=ai b1 g2
  refine⟨_,aa b1' 0,_,aa b1' 1,_,aa b2 0,_,aa b2 1,(rr a b).mono fun ev w3 hh=>?_⟩
  obtain⟨c,rfl,hc,g3⟩:=hh
  refine⟨c,rfl,?_,ab g1 (ab g2 g3)⟩
  congr 2
  by_cases h:c<0
  · rw[hc.1 h];simpa using h
  · have:aw a b=false:=by
      cases hl:aw a b
      · rfl
      · exact absurd (hc.2 hl) h
    rw[this];simpa using h
theorem x0{w:World}(e:Edge){n:Int}(he:0<=e.2/\e.2<=4294967295):Calls P 96 #[nk e,.int .u64 n] w fun ev w'=>ev=.returned (.bool (decide (e.1<e.2/\e.2<n)))/\w.grownBy w' none:=by
 apply vc96;dsimp only[VC96,Wt,Br,Bb,Rd,Rc,Rs,Ix,rI_,rB_,rS_]
 try simp only[InK]
 have g1:=World.grownBy_alloc w (.cells #[.int .u32 e.1,.int .u32 e.2] 45) none
 have b1:(w.alloc (.cells #[.int .u32 e.1,.int .u32 e.2] 45)).heap[w.heap.size]?=some (.cells #[.int .u32 e.1,.int .u32 e.2] 45 (0,0)):=heap_alloc_new w _
 obtain⟨w1,hw_w1⟩:∃ w1,w1=w.alloc (.cells #[.int .u32 e.1,.int .u32 e.2] 45):=⟨_,rfl⟩
 rw[← hw_w1]at g1 b1 ⊢
 refine⟨_,aa b1 0,_,aa b1 1,fun h=>⟨_,aa b1 1,by omega,?_,g1⟩,fun h=>⟨?_,g1⟩⟩
 ·congr 2;rw[decide_eq_decide];exact⟨fun h'=>⟨h,h'⟩,fun h'=>h'.2⟩
 ·congr 2;symm;rw[decide_eq_false_iff_not];exact fun h'=>h h'.1
theorem qdt{w:World}{A:Option Addr}{n c:Nat}{l:List Edge}(hr:Row w A (edges l))(hn:n=l.length)(hl:n<=2^40):Calls P 105 #[.slice A n c] w fun ev w'=>ev=.returned (.bool (gj l))/\w.grownBy w' none:=by
 apply vc105;dsimp only[VC105,Wt,Br,Bb,Rd,Rc,Rs,Ix,rI_,rB_,rS_]
 try simp only[InK]
 refine⟨fun m i w'=>∃ p:Nat,i=(p:Int)/\p<=l.length/\m=l.length-p/\w.grownBy w' none/\∀ j (h:j+1<l.length),j+1<p->aw l[j] l[j+1]=true,⟨_,0,rfl,by omega,rfl,af _ _,fun j h hj=>by omega⟩,?_⟩
 rintro m i w1 ⟨p,rfl,hp,rfl,hg,hx⟩
 have gd:=aj hg
 have tp:(p:Int).toNat=p:=by omega
 have tp1:((p:Int)-1).toNat=p-1:=by omega
 rw[tp,tp1]
 refine⟨fun hlt=>⟨fun hpos=>?_,fun hz=>⟨by omega,_,?_,p+1,by omega,by omega,rfl,gd,fun j h hj=>by omega⟩⟩,fun hge=>⟨?_,hg⟩⟩
 ·have lp:p<l.length:=by omega
  obtain⟨a,e1,e2,e3⟩:=js (hr.kept_none gd) (show p-1<l.length by omega)
  obtain⟨a',e1',e2',e3'⟩:=js (hr.kept_none gd) lp
  refine⟨by omega,a,e1,by omega,by omega,_,e2,_,e3,a',e1',by omega,by omega,_,e2',_,e3',(qar l[p-1] l[p]).mono fun ev w2 hh=>?_⟩
  obtain⟨rfl,g2⟩:=hh
  have g02:=ab gd g2
  refine⟨_,rfl,fun h=>⟨?_,g02⟩,fun h=>⟨by omega,_,?_,p+1,by omega,by omega,rfl,g02,fun j hj hjp=>?_⟩⟩
  ·congr 2
   symm
   rw[Bool.eq_false_iff]
   intro hrise
   have:=List.pairwise_iff_getElem.1 ((ja l).1 hrise) (p-1) p (by omega) lp (by omega)
   rw[this]at h;cases h
  ·omega
  ·by_cases e:j+1=p
   ·subst e
    simpa using h
   ·exact hx j hj (by omega)
 ·omega
 ·have:p=l.length:=by omega
  subst this
  congr 2
  symm
  unfold gj
  rw[List.all_eq_true]
  intro j hj
  have hj':j+1<l.length:=by have:=List.mem_range.1 hj;omega
  have:=hx j hj' hj'
  rw[List.getD_eq_getElem?_getD,List.getD_eq_getElem?_getD,List.getElem?_eq_getElem (by omega),List.getElem?_eq_getElem hj']
  exact this
theorem vf{w:World}(a b:Evt):Calls P 97 #[evtV a,evtV b] w fun ev w'=>ev=.returned (.bool (br a b))/\w.grownBy w' none:=by
 apply vc97;dsimp only[VC97,Wt,Br,Bb,Rd,Rc,Rs,Ix,rI_,rB_,rS_]
 have g1:=World.grownBy_alloc w (.cells #[.int .i64 a.t,.int .u32 a.u,.int .u32 a.v,.bool a.add] 62) none
 have b1:(w.alloc (.cells #[.int .i64 a.t,.int .u32 a.u,.int .u32 a.v,.bool a.add] 62)).heap[w.heap.size]?=some (.cells #[.int .i64 a.t,.int .u32 a.u,.int .u32 a.v,.bool a.add] 62 (0,0)):=heap_alloc_new w _
 obtain⟨w1,hw_w1⟩:∃ w1,w1=w.alloc (.cells #[.int .i64 a.t,.int .u32 a.u,.int .u32 a.v,.bool a.add] 62):=⟨_,rfl⟩
 rw[← hw_w1]at g1 b1 ⊢
 have g2:=World.grownBy_alloc w1 (.cells #[.int .i64 b.t,.int .u32 b.u,.int .u32 b.v,.bool b.add] 62) none
 have b2:(w1.alloc (.cells #[.int .i64 b.t,.int .u32 b.u,.int .u32 b.v,.bool b.add] 62)).heap[w1.heap.size]?=some (.cells #[.int .i64 b.t,.int .u32 b.u,.int .u32 b.v,.bool b.add] 62 (0,0)):=heap_alloc_new w1 _
 obtain⟨w2,hw_w2⟩:∃ w2,w2=w1.alloc (.cells #[.int .i64 b.t,.int .u32 b.u,.int .u32 b.v,.bool b.add] 62):=⟨_,rfl⟩
 rw[← hw_w2]at g2 b2 ⊢
 have b1':=ai b1 g2
 have gd:=aj (af w2 none)
 refine⟨fun w'=>w2.grownBy w' none,gd,_,aa (ai b1' gd) 0,_,aa (ai b2 gd) 0,qav.mono fun ev w3 hh=>?_⟩
 obtain⟨rfl,rfl⟩:=hh
 refine⟨_,rfl,gd,_,fun wq gq=>aa (ai b1' gq) 1,_,fun wq gq=>aa (ai b1' gq) 2,_,fun wq gq=>aa (ai b2 gq) 1,_,fun wq gq=>aa (ai b2 gq) 2,(rr (a.u,a.v) (b.u,b.v)).mono fun ev w4 hh=>?_⟩
 obtain⟨c,rfl,hc,g4⟩:=hh
 have g24:=ab gd g4
 have ga:=World.grownBy_alloc w4 (.cells #[.int .i64 (y7 a.t b.t),.int .i64 c] 3) none
 have hA:=ab g24 ga
 refine⟨_,rfl,g24,hA,(qez (gn w4 #[.int .i64 (y7 a.t b.t),.int .i64 c] 3 (0,0))).mono fun ev w5 hh=>?_⟩
 obtain⟨rfl,g5⟩:=hh
 refine⟨_,rfl,ab hA g5,?_,ab g1 (ab g2 (ab hA g5))⟩
 congr 2
 unfold br
 cases hl:aw (a.u,a.v) (b.u,b.v)
 ·have hc':¬ c<0:=fun h=>by rw[hc.1 h]at hl;cases hl
  have e:decide ((if y7 a.t b.t≠0 then y7 a.t b.t else c)<0)=decide (a.t<b.t):=decide_eq_decide.2 (qqq hc')
  rw[e];simp
 ·have e:decide ((if y7 a.t b.t≠0 then y7 a.t b.t else c)<0)=decide (a.t<b.t∨a.t=b.t):=decide_eq_decide.2 (qoi (hc.2 hl))
  rw[e];simp
def qqa(x:Int):Prop:=0<=x/\x<=4294967295
def qaa(e:Edge):Prop:=qqa e.1/\qqa e.2
theorem qd3{x:Int}(h:qqa x):(Lit.int .u32 x).wf=true:=by
 have h1:IntKind.u32.min=0:=rfl
 have h2:IntKind.u32.max=4294967295:=rfl
 obtain⟨a,b⟩:=h
 simp only[Lit.wf,Bool.and_eq_true,decide_eq_true_eq]
 omega
theorem qju{a b:Int}(wa:(Lit.int .u32 a).wf=true)(wb:(Lit.int .u32 b).wf=true):∃ l,keyOf P 45 (.agg #[.int .u32 a,.int .u32 b])=some l:=by
 have hsz:∃ m,P.types.size=m+1:=⟨P.types.size-1,by kernel_rfl⟩
 have hu:=Tryz.underlying45
 have h32:=Tryz.underlying43
 have c1:P.cellsOf 45=2:=by kernel_rfl
 have c2:P.cellsOf 43=1:=by kernel_rfl
 have hk:P.keyType 45=true:=by kernel_rfl
 obtain⟨m,hm⟩:=hsz
 unfold keyOf
 simp only[P]at *
 simp only[hu]
 rw[if_pos (by simp[hk,Value.formed,hu,c1]),hm]
 unfold Program.keyLits
 simp only[hu,Value.cells]
 rw[if_pos (by rw[c1];exact⟨rfl,by simp⟩)]
 simp only[List.mapM_cons,List.mapM_nil]
 simp[c2,Program.keyLits,h32,wa,wb]
theorem qq7:qq9 P 45 nk qaa where
 law:=Maps.Keyed.of_law (deep_law (m:=3) (by omega) (by kernel_rfl) (by kernel_rfl) (by kernel_rfl))
 key:=fun x hx=>qju (qd3 hx.1) (qd3 hx.2)
 inj:=by
  rintro⟨a,b⟩ ⟨c,d⟩ h
  simp[nk]at h
  simp[h]
abbrev qnj(w:World)(b:Nat)(L:List (Edge×Bool)):Prop:=fd nk qaa Value.bool w b L
theorem qkt(w:World):(zeroValue 4).run P w=.ok (.bool false) w:=by
 have h:((P.info? 4).getD default).zero=some (.bool false):=by kernel_rfl
 have h2:(P.info? 4).isSome=true:=by kernel_rfl
 cases hq:P.info? 4 with
 | none=>rw[hq]at h2;cases h2
 | some i=>rw[hq]at h;simp at h;simp[zeroValue,typeInfo,hq,h]
theorem lookE{w:World}{b:Nat}{L:List (Edge×Bool)}(h:qnj w b L){k:Edge}(hk:qaa k):Sem.run P (Instr.lookup 114 (.map (some b)) (nk k) false) w=.ok (.bool ((jv L k).getD false)) w:=by
 have:=fd.look qq7 (mt:=114) (et:=4) Tryz.underlying114 (qkt w) h hk false
 rw[this]
 cases jv L k <;>rfl
theorem qc2(s t:Operand)(a b:Bool)(w:World):Sem.run P (do eqGuard .eql 4 s t (.bool a) (.bool b);Go.binOp .eql 4 (.bool a) (.bool b):Sem Value) w=.ok (.bool (decide (a=b))) w:=by
 have hb:P.underlying 4=some .bool:=Tryz.underlying4
 have h:(a ==b)=decide (a=b):=by cases a <;>cases b <;>rfl
 simp[eqGuard_at_bool,run_eql_bool w 4 a b hb,h]
def nv(L:List (Edge×Bool))(now:List Edge):Prop:=∀ a,(jv L a).getD false=decide (a∈now)
theorem nv.upd{L:List (Edge×Bool)}{now x:List Edge}{e:Evt}(h:nv L now)(ht:cr now e=some x):nv (xv L (e.u,e.v) e.add) x:=by
 intro a
 rw[qdo]
 have:=(ki ht).2.1 a
 by_cases ha:(e.u,e.v)=a
 ·rw[if_pos ha]
  rw[if_pos ha.symm]at this
  cases hadd:e.add <;>simp_all
 ·rw[if_neg ha,h a]
  rw[if_neg (fun e=>ha e.symm)]at this
  exact decide_eq_decide.2 this.symm
theorem nv.turn{L:List (Edge×Bool)}{now:List Edge}{e:Evt}(h:nv L now)(hr:ri now):(cr now e=none↔(jv L (e.u,e.v)).getD false=e.add):=by
 rw[zq hr,h];exact eq_comm
def befO(p:Option Evt)(e:Evt):Bool:=match p with
 | none=>true
 | some q=>br q e
theorem qfr(N:Int)(e:Evt)(l:List Evt)(p:Option Evt)(now:List Edge)(i:Nat):d6 N (e ::l) p now i=if e.t<0∨e.t>4611686018427387903 then((i:Int),26)
    else if qdb N e=false then((i:Int),24)
    else if befO p e=false then((i:Int),23)
    else match cr now e with
      | none=>((i:Int),25)
      | some x=>d6 N l (some e) x (i+1):=by
  rw[yf];cases p <;>rfl
def qhi(l:List Evt):Prop:=∀ e∈l,(0<=e.u/\e.u<=4294967295)/\0<=e.v/\e.v<=4294967295
theorem pp {w :World} {A:Option Addr} {n c:Nat} {l:List Evt} {N:Int} (hr:Row w A (fh l)) (hn:n=l.length) (hl:n<=2^20) (hb:qhi l) :
    Calls P 59 #[.agg #[.int .u64 N,.slice A n c]] w fun ev w'=>ev=.returned (.tuple #[.int .i64 (jw N l).1,.int .i64 (jw N l).2])/\w.grownBy w' none:=by
  apply vc59;dsimp only[VC59,Wt,Br,Bb,Rd,Rc,Rs,Ix,rI_,rB_,rS_]
  try simp only[InK]
  have g0:=World.grownBy_alloc w (.cells #[.int .u64 N,.slice A n c] 25) none
  have b0:(w.alloc (.cells #[.int .u64 N,.slice A n c] 25)).heap[w.heap.size]?=some (.cells #[.int .u64 N,.slice A n c] 25 (0,0)):=heap_alloc_new w _
  obtain⟨w0,hw_w0⟩:∃ w0,w0=w.alloc (.cells #[.int .u64 N,.slice A n c] 25):=⟨_,rfl⟩
  rw[← hw_w0]at g0 b0 ⊢
  refine⟨_,aa b0 0,fun hN=>⟨by unfold jw;rw[if_pos (.inl hN)],g0⟩,fun hN=>⟨_,_,_,aa b0 1,fun hL=>by omega,fun hL=>?_⟩⟩
  have hM:qnj (w0.alloc (.map #[] 0)) w0.heap.size []:=fd.made w0
  have g1:=World.grownBy_alloc w0 (.map #[] 0) none
  obtain⟨w1,hw1⟩:∃ w1,w1=w0.alloc (.map #[] 0):=⟨_,rfl⟩
  rw[← hw1]at hM g1 ⊢
  have hck:jw N l=d6 N l none [] 0:=by unfold jw;rw[if_neg (by omega)]
  rw[hck]
  have lb:w.heap.size<w0.heap.size:=(Array.getElem?_eq_some_iff.1 b0).1
  refine⟨_,_,_,aa (ai b0 g1) 1,fun m i w'=>∃ (p:Nat) (now:List Edge) (L:List (Edge×Bool)),i=(p:Int)/\p<=l.length/\m=l.length-p/\ri now/\qnj w' w0.heap.size L/\nv L now ∧
      d6 N l none [] 0=d6 N (l.drop p) (if p=0 then none else l[p-1]?) now p/\w.grownBy w' none/\w'.heap[w.heap.size]?=some (.cells #[.int .u64 N,.slice A n c] 25 (0,0)),
    ⟨_,0,[],[],rfl,by omega,rfl,List.Pairwise.nil,hM,fun a=>by simp[jv],rfl,ab g0 g1,ai b0 g1⟩,?_⟩
  rintro m i w2 ⟨p,now,L,rfl,hp,rfl,hrise,hM2,hth,hgo,hg,bH⟩
  have tp:(p:Int).toNat=p:=by omega
  have tp1:((p:Int)-1).toNat=p-1:=by omega
  rw[tp,tp1]
  refine⟨fun hlt=>?_,fun hge=>?_⟩
  · have lp : p<l.length:=by omega
    rw[List.drop_eq_getElem_cons lp,qfr]at hgo
    have hbe:=hb _ (List.getElem_mem lp)
    obtain⟨a,e1,e2,e3,e4,e5⟩:=jm (hr.kept_none hg) lp
    have sE0:(w2.alloc (.cells #[.int .i64 0,.int .u32 0,.int .u32 0,.bool false] 62)).heap[w2.heap.size]?=some (.cells #[.int .i64 0,.int .u32 0,.int .u32 0,.bool false] 62 (0,0)):=heap_alloc_new w2 _
    have sE1:=ah sE0 0 (.int .i64 l[p].t)
    have sE2:=ah sE1 1 (.int .u32 l[p].u)
    have sE3:=ah sE2 2 (.int .u32 l[p].v)
    have sE4:=ah sE3 3 (.bool l[p].add)
    have bE:(((((w2.alloc (.cells #[.int .i64 0,.int .u32 0,.int .u32 0,.bool false] 62)).setCell ⟨w2.heap.size,0,none⟩ (.int .i64 l[p].t)).setCell ⟨w2.heap.size,1,none⟩ (.int .u32 l[p].u)).setCell ⟨w2.heap.size,2,none⟩ (.int .u32 l[p].v)).setCell ⟨w2.heap.size,3,none⟩ (.bool l[p].add)).heap[w2.heap.size]?=some (.cells #[.int .i64 l[p].t,.int .u32 l[p].u,.int .u32 l[p].v,.bool l[p].add] 62 (0,0)):=by simpa using sE4
    have gE:w2.grownBy (((((w2.alloc (.cells #[.int .i64 0,.int .u32 0,.int .u32 0,.bool false] 62)).setCell ⟨w2.heap.size,0,none⟩ (.int .i64 l[p].t)).setCell ⟨w2.heap.size,1,none⟩ (.int .u32 l[p].u)).setCell ⟨w2.heap.size,2,none⟩ (.int .u32 l[p].v)).setCell ⟨w2.heap.size,3,none⟩ (.bool l[p].add)) none:=(Kp.grown (ck (ck (ck (ck (Kp.of_none (S:=fun k=>w2.heap.size<=k) (cf (af w2 none) _)) (Nat.le_refl _)) (Nat.le_refl _)) (Nat.le_refl _)) (Nat.le_refl _)) (fun k hk e=>by omega))
    obtain⟨w3,hE⟩:∃ w3,w3=(((((w2.alloc (.cells #[.int .i64 0,.int .u32 0,.int .u32 0,.bool false] 62)).setCell ⟨w2.heap.size,0,none⟩ (.int .i64 l[p].t)).setCell ⟨w2.heap.size,1,none⟩ (.int .u32 l[p].u)).setCell ⟨w2.heap.size,2,none⟩ (.int .u32 l[p].v)).setCell ⟨w2.heap.size,3,none⟩ (.bool l[p].add)):=⟨_,rfl⟩
    rw[← hE]at bE gE
    refine⟨a,e1,by omega,by omega,_,e2,_,e3,_,e4,_,e5,⟨_,aa sE0 0⟩,ae sE0 0,⟨_,aa sE1 1⟩,ae sE1 1,⟨_,aa sE2 2⟩,ae sE2 2,⟨_,aa sE3 3⟩,ae sE3 3,?_⟩
    rw[← hE]
    have bH3:=ai bH gE
    have hg3:=ab hg gE
    refine⟨_,aa bE 0,fun h1=>⟨by rw[hgo,if_pos (.inl h1)],hg3⟩,fun h1=>⟨_,aa bE 0,fun h2=>⟨by rw[hgo,if_pos (.inr h2)],hg3⟩,fun h2=>⟨_,aa bE 1,_,aa bE 2,_,aa bH3 0,(x0 (l[p].u,l[p].v) ⟨hbe.2.1,hbe.2.2⟩).mono fun ev w4 hh=>?_⟩⟩⟩
    obtain⟨rfl,g4⟩:=hh
    rw[if_neg (by omega)]at hgo
    have bH4:=ai bH3 g4
    have bE4:=ai bE g4
    have hg4:=ab hg3 g4
    have hM4:qnj w4 w0.heap.size L:=(hM2.kept gE).kept g4
    refine⟨_,rfl,fun h3=>⟨by rw[hgo,if_pos (by unfold qdb;exact h3)],hg4⟩,fun h3=>?_⟩
    rw[if_neg (by unfold qdb;exact h3)]at hgo
    -- what is asked of the map, and what is written into it then
    have last :∀ W:World,w4.grownBy W none->befO (if p=0 then none else l[p-1]?) l[p]=true →
        ∃ x61 :Int,World.cell? W ⟨w2.heap.size,1,none⟩=some (.int .u32 x61)/\∃ x61_1:Int,World.cell? W ⟨w2.heap.size,2,none⟩=some (.int .u32 x61_1)/\∃ x62:Bool,Sem.run P (Instr.lookup 114 (.map (some w0.heap.size)) (.agg #[.int .u32 x61,.int .u32 x61_1]) false) W=.ok (.bool x62) W ∧
          ∃ x64:Bool,World.cell? W ⟨w2.heap.size,3,none⟩=some (.bool x64)/\∃ x65:Bool,(∀ w:World,Sem.run P (do eqGuard .eql 4 (.tmp 62) (.tmp 64) (.bool x62) (.bool x64);Go.binOp .eql 4 (.bool x62) (.bool x64):Sem Value) w=.ok (.bool x65) w) ∧
          ((x65=true->(Ending.returned (.tuple #[.int .i64 p,.int .i64 25])=Ending.returned (.tuple #[.int .i64 (d6 N l none [] 0).1,.int .i64 (d6 N l none [] 0).2])/\w.grownBy W none)) ∧
           (x65=false->∃ x69:Int,World.cell? W ⟨w2.heap.size,1,none⟩=some (.int .u32 x69)/\∃ x69_1:Int,World.cell? W ⟨w2.heap.size,2,none⟩=some (.int .u32 x69_1)/\∃ x71:Bool,World.cell? W ⟨w2.heap.size,3,none⟩=some (.bool x71)/\∃ wv_4:World,Sem.run P (Instr.mapUpdate 114 (.map (some w0.heap.size)) (.agg #[.int .u32 x69,.int .u32 x69_1]) (.bool x71)) W=.ok () wv_4/\(-9223372036854775808<=(p:Int)+1/\(p:Int)+1<=9223372036854775807)/\∃ m_1:Nat,m_1<l.length-p/\∃ (p':Nat) (now:List Edge) (L:List (Edge×Bool)),(p:Int)+1=(p':Int)/\p'<=l.length/\m_1=l.length-p'/\ri now/\qnj wv_4 w0.heap.size L/\nv L now ∧
              d6 N l none [] 0=d6 N (l.drop p') (if p'=0 then none else l[p'-1]?) now p'/\w.grownBy wv_4 none/\wv_4.heap[w.heap.size]?=some (.cells #[.int .u64 N,.slice A n c] 25 (0,0)))):=by
      intro W gW hbef
      have bEW:=ai bE4 gW
      have hMW:=hM4.kept gW
      have hgW:=ab hg4 gW
      have okk:qaa (l[p].u,l[p].v):=⟨hbe.1,hbe.2⟩
      refine⟨_,aa bEW 1,_,aa bEW 2,_,lookE hMW okk,_,aa bEW 3,_,fun w=>qc2 _ _ _ _ w,fun h5=>?_,fun h5=>?_⟩
      · have:=(hth.turn (e:=l[p]) hrise).2 (of_decide_eq_true h5)
        rw[hgo,this]
        rw[if_neg (by rw[hbef];simp)]
        exact⟨rfl,hgW⟩
      · have hne:cr now l[p]≠none:=fun h=>of_decide_eq_false h5 ((hth.turn (e:=l[p]) hrise).1 h)
        obtain⟨x,hx⟩:∃ x,cr now l[p]=some x:=by
          cases hq:cr now l[p]with
          | none=>exact absurd hq hne
          | some x=>exact⟨x,rfl⟩
        obtain⟨W2,k1,k2,k3⟩:=fd.update qq7 Tryz.underlying114 hMW okk l[p].add
        refine⟨_,aa bEW 1,_,aa bEW 2,_,aa bEW 3,W2,k1,⟨by omega,by omega⟩,l.length-(p+1),by omega,p+1,x,xv L (l[p].u,l[p].v) l[p].add,by omega,by omega,rfl,(ki hx).1,k2,hth.upd hx,?_,ax hgW k3 (fun k hk=>by cases hk;omega),?_⟩
        · rw[hgo,if_neg (by rw[hbef];simp),hx]
          simp[lp]
        · rw[k3.block _ (by have:=hgW.size;have:=(Array.getElem?_eq_some_iff.1 (ai bH4 gW)).1;omega) (by simp;omega)]
          exact ai bH4 gW
    refine⟨fun hpos=>?_,fun hz=>?_⟩
    · have gd:=aj (af w4 none)
      obtain⟨a',q1,q2,q3,q4,q5⟩:=jm (hr.kept_none (ab hg4 gd)) (show p-1<l.length by omega)
      refine⟨_,_,_,aa (ai bH4 gd) 1,by omega,a',q1,by omega,by omega,_,q2,_,q3,_,q4,_,q5,_,aa (ai bE4 gd) 0,_,aa (ai bE4 gd) 1,_,aa (ai bE4 gd) 2,_,aa (ai bE4 gd) 3,(vf l[p-1] l[p]).mono fun ev w5 hh=>?_⟩
      obtain⟨rfl,g5⟩:=hh
      have hpr:(if p=0 then none else l[p-1]?:Option Evt)=some l[p-1]:=by rw[if_neg (by omega)];exact List.getElem?_eq_getElem (by omega)
      refine⟨_,rfl,fun h4=>⟨?_,ab hg4 (ab gd g5)⟩,fun h4=>last _ (aj (ab gd g5)) ?_⟩
      · rw[hgo,if_pos (by rw[hpr];exact h4)]
      · rw[hpr];show br l[p-1] l[p]=true;simpa using h4
    · refine last _ (aj (aj (af w4 none))) ?_
      rw[if_pos (by omega)];rfl
  · have:p=l.length:=by omega
    subst this
    rw[List.drop_length]at hgo
    refine⟨?_,hg⟩
    rw[hgo];rfl
theorem OkH.times{N:Int}{l:List Evt}{p:Option Evt}{now:List Edge}(h:OkH N l p now):qbh l:=by
 have key:∀ {l:List Evt} {p:Option Evt} {now:List Edge},OkH N l p now->qbh l/\∀ q,p=some q->∀ e∈l,br q e=true:=by
  intro l
  induction l with
  | nil=>intro p now _;exact⟨List.Pairwise.nil,fun _ _ e he=>by simp at he⟩
  | cons e l ih =>
   intro p now h
   obtain⟨_,_,h3,x,_,h'⟩:=h
   obtain⟨k1,k2⟩:=ih h'
   refine⟨List.pairwise_cons.2 ⟨fun a ha=>k2 e rfl a ha,k1⟩,fun q hq a ha=>?_⟩
   rcases List.mem_cons.1 ha with rfl | ha
   ·exact h3 q hq
   ·exact vn (h3 q hq) (k2 e rfl a ha)
 exact(key h).1
theorem qbh.le{l:List Evt}(h:qbh l){i j:Nat}(hij:i<=j)(hj:j<l.length):l[i].t<=l[j].t:=by
 by_cases e:i=j
 ·subst e;exact Int.le_refl _
 ·have:=List.pairwise_iff_getElem.1 h i j (by omega) hj (by omega)
  rw[eu]at this;omega
end Go.Proofs.YtlieaecnllkefaaGreat
