/- Own texts, packed: V1, VX, V2, V3, V4, V5, V6, V7, V8. -/
import Derived.WalkKit
import Derived.Still
import Derived.Laws.World
import Derived.Laws.NewBlocks
import Derived.Laws.Rows
import Derived.Deep.LoopGhost
/-! The own library V, part 1: a region that draws its order is walked in the order of the text, whatever its operations are: operations that leave the world alone commute with all others, operations that act are kept in one order. -/
namespace Go.V
abbrev OA:=Option Addr
abbrev dT:=Nat->Nat
def cM(P:Program)(o:Oper)(a:Act)(w:World)(v:Value):Prop :=
 (execOp a.eval o).run P w=.ok (.value v) w∨((execOp a.eval o).run P w=.ok .skip w/\v=undef)
theorem cM.unique{P:Program}{o:Oper}{a:Act}{w:World}{v u:Value}(h:cM P o a w v)(k:cM P o a w u):v=u:=by
 rcases h with h | ⟨h,rfl⟩ <;>rcases k with k | ⟨k,rfl⟩ <;>rw[h]at k <;>simp at k <;>first | exact k | rfl
def xP:Exit->Act->World->Prop:=fun _ _ _=>False
def aP(P:Program)(ops:Array Oper)(C:World->Prop)(kd:Nat)(o:Oper)(K:Act->World->Prop)(a:Act)(w:World):Prop :=
 if Region.wanted o (yielded ops a.tmps) then
  match kd with
  | 0=>∃ v,(∀ w',C w'->cM P o a w' v)/\K (a.put o.dst v) w
  | 1=>∃ v,cM P o a w v/\K (a.put o.dst v) w
  | _=>o.wp P a w (fun a' w'=>(∃ u,a'=a.put o.dst u)/\C w'/\K a' w') xP
 else K (a.put o.dst undef) w
def cN(P:Program)(ops:Array Oper)(C:World->Prop)(kd:dT)(Q:Act->World->Prop):List (Nat×Oper)->Act->World->Prop
 | [],a,w=>Q a w
 | (i,o) ::rest,a,w=>aP P ops C (kd i) o (cN P ops C kd Q rest) a w
section
variable {P : Program} {ops : Array Oper} {C : World → Prop} {K K' : Act → World → Prop} {a : Act} {w : World}
theorem sG{k:Nat}{o:Oper}(h:∀ a w,K a w->K' a w)(hh:aP P ops C k o K a w):aP P ops C k o K' a w:=by
 unfold aP at *;split
 ·rename_i hw;simp only[hw,if_true]at hh;split at hh
  ·obtain⟨v,h1,h2⟩:=hh;exact⟨v,h1,h _ _ h2⟩
  ·obtain⟨v,h1,h2⟩:=hh;exact⟨v,h1,h _ _ h2⟩
  ·exact Oper.wp_mono (fun a w ⟨h1,h2,h3⟩=>⟨h1,h2,h _ _ h3⟩) hh
 ·rename_i hw;simp only[hw]at hh;exact h _ _ hh
theorem pO{k:Nat}{o:Oper}(hC:C w)(h:∀ a w,C w->K a w->K' a w)(hh:aP P ops C k o K a w):aP P ops C k o K' a w:=by
 unfold aP at *;split
 ·rename_i hw;simp only[hw,if_true]at hh;split at hh
  ·obtain⟨v,h1,h2⟩:=hh;exact⟨v,h1,h _ _ hC h2⟩
  ·obtain⟨v,h1,h2⟩:=hh;exact⟨v,h1,h _ _ hC h2⟩
  ·exact Oper.wp_mono (fun a w ⟨h1,h2,h3⟩=>⟨h1,h2,h _ _ h2 h3⟩) hh
 ·rename_i hw;simp only[hw]at hh;exact h _ _ hC hh
theorem iD{kd:dT}{Q Q':Act->World->Prop}(hQ:∀ a w,Q a w->Q' a w):∀ (l:List (Nat×Oper)) (a:Act) (w:World),cN P ops C kd Q l a w->cN P ops C kd Q' l a w
 | [],_,_,h=>hQ _ _ h
 | (_,_) ::l,_,_,h=>sG (fun a w=>iD hQ l a w) h
theorem yR{f:FuncId}{args:Array Value}{R:Ending->World->Prop}(h:Calls P f args w R):∃ e w',R e w':=by
 obtain⟨e,w',_,h,_⟩:=h [];exact⟨e,w',h⟩
theorem Ce{o:Oper}(h:o.wp P a w K xP):∃ a' w',K a' w':=by
 unfold Oper.wp at h;generalize (execOp a.eval o).run P w=r at *;cases r with
 | ok n w' =>
  cases n <;>simp only[Oper.upon]at h
  case value v=>exact⟨_,_,h⟩
  case skip=>exact⟨_,_,h⟩
  case defer d=>exact⟨_,_,h⟩
  case enter f args =>
   obtain⟨e,w'',h⟩:=yR h;cases e with
   | returned v=>exact⟨_,_,h⟩
   | panicked c=>exact h.elim
   | outgrown=>obtain⟨_,_,h⟩:=h;exact h.elim
  case row s args =>
   obtain⟨v,w'',h,_⟩:=h default [];exact⟨_,_,h⟩
 | halt x w'=>cases x <;>simp only[Oper.upon]at h;exact h.elim
theorem C2{o:Oper}{d:Option Tmp}{v:Value}(hs:∀ cs b,o.op≠.select cs b)(h1:∀ t,d=some t->t ∉ o.looksAt ops)(h2:∀ t,d=some t->o.dst≠some t)
    (h:o.wp P (a.put d v) w (fun a' w'=>(∃ u,a'=(a.put d v).put o.dst u)/\K a' w') xP) :
    o.wp P a w (fun a' w'=>(∃ u,a'=a.put o.dst u)/\K (a'.put d v) w') xP:=by
  unfold Oper.wp at *;rw[execOp_put (ops:=ops) o hs a d v h1]at h;generalize (execOp a.eval o).run P w=r at *;have key:∀ u w',(∃ u',(a.put d v).put o.dst u=(a.put d v).put o.dst u')/\K ((a.put d v).put o.dst u) w'->(∃ u',a.put o.dst u=a.put o.dst u')/\K ((a.put o.dst u).put d v) w':=by
    rintro u w' ⟨_,hk⟩;rw[Act.put_comm a v u h2]at hk;exact⟨⟨u,rfl⟩,hk⟩
  cases r with
  | ok n w' =>
    cases n <;>simp only[Oper.upon]at h ⊢
    case value u=>exact key _ _ h
    case skip=>exact key _ _ h
    case defer dd =>
      obtain⟨⟨u,hu⟩,hk⟩:=h;exfalso;have:dd ::(a.put d v).defers=((a.put d v).put o.dst u).defers:=by rw[← hu];cases o.dst <;>rfl
      have e:((a.put d v).put o.dst u).defers=(a.put d v).defers:=by cases o.dst <;>rfl
      rw[e]at this;exact absurd this (by simp)
    case enter f args =>
      refine h.mono ?_;intro e w'' he;cases e with
      | returned u=>exact key _ _ he
      | panicked c=>exact he
      | outgrown=>exact he
    case row s args=>exact h.mono fun u w'' he=>key _ _ he
  | halt x w'=>cases x <;>simp only[Oper.upon]at h ⊢;exact h
theorem cM.of_put{o:Oper}{d:Option Tmp}{v u:Value}{w:World}(hs:∀ cs b,o.op≠.select cs b)(h1:∀ t,d=some t->t ∉ o.looksAt ops):cM P o (a.put d v) w u↔cM P o a w u:=by
 unfold cM;rw[execOp_put (ops:=ops) o hs a d v h1]
def jN(x y:Nat):Bool:=x ==0 || y ==0 || (x ==1 && y ==1)
theorem dW{k:Nat}{o:Oper}(hk:k=0∨k=1)(h:aP P ops C k o K a w):
    ∃ v,((Region.wanted o (yielded ops a.tmps)=true/\(if k=0 then ∀ w',C w'->cM P o a w' v else cM P o a w v))∨(Region.wanted o (yielded ops a.tmps)=false/\v=undef))/\K (a.put o.dst v) w:=by
  unfold aP at h;by_cases hw:Region.wanted o (yielded ops a.tmps)=true
  · simp only[hw,if_true]at h;rcases hk with rfl | rfl
    · obtain⟨v,h1,h2⟩:=h;exact⟨v,.inl ⟨hw,by simpa using h1⟩,h2⟩
    · obtain⟨v,h1,h2⟩:=h;exact⟨v,.inl ⟨hw,by simpa using h1⟩,h2⟩
  · simp only[hw]at h;exact⟨undef,.inr ⟨by simpa using hw,rfl⟩,h⟩
theorem bX{k:Nat}{o:Oper}(hk:k=0∨k=1){v:Value}
    (h:(Region.wanted o (yielded ops a.tmps)=true/\(if k=0 then ∀ w',C w'->cM P o a w' v else cM P o a w v))∨(Region.wanted o (yielded ops a.tmps)=false/\v=undef)) (hK:K (a.put o.dst v) w) :
    aP P ops C k o K a w:=by
  unfold aP;rcases h with⟨hw,h⟩ | ⟨hw,rfl⟩
  · simp only[hw,if_true];rcases hk with rfl | rfl
    · exact⟨v,by simpa using h,hK⟩
    · exact⟨v,by simpa using h,hK⟩
  · simp only[hw];exact hK
theorem fV{k:Nat}{o:Oper}(hk:¬ (k=0∨k=1)):aP P ops C k o K a w =
    (if Region.wanted o (yielded ops a.tmps) then o.wp P a w (fun a' w'=>(∃ u,a'=a.put o.dst u)/\C w'/\K a' w') xP else K (a.put o.dst undef) w):=by
  unfold aP;split
  · split
    · omega
    · omega
    · rfl
  · rfl
theorem Cj {i j:Nat} {oi oj:Oper} (hC:C w) (Ka:oi.apart ops oj=true) (hc:jN i j=true)
    (GC:∀ cs b,oi.op≠.select cs b) (ET:∀ cs b,oj.op≠.select cs b)
    (h:aP P ops C i oi (aP P ops C j oj K) a w):aP P ops C j oj (aP P ops C i oi K) a w:=by
  obtain⟨h1,h2,h3⟩:=Oper.apart_spec Ka;have h4:∀ d,oj.dst=some d->oi.dst≠some d:=fun d hd he=>h2 d he hd;have wi:∀ v,Region.wanted oi (yielded ops (a.put oj.dst v).tmps)=Region.wanted oi (yielded ops a.tmps):=fun v=>wanted_put oi a oj.dst v h3;have wj:∀ v,Region.wanted oj (yielded ops (a.put oi.dst v).tmps)=Region.wanted oj (yielded ops a.tmps):=fun v=>wanted_put oj a oi.dst v h1;by_cases qi:i=0∨i=1
  · obtain⟨v,hv,hn⟩:=dW qi h;clear h;by_cases qj:j=0∨j=1
    · obtain⟨u,hu,hn⟩:=dW qj hn;refine bX (v:=u) qj ?_ (bX (v:=v) qi ?_ ?_)
      · simp only[wj,cM.of_put (ops:=ops) ET h1]at hu;exact hu
      · simp only[wi,cM.of_put (ops:=ops) GC h3];exact hv
      · rw[Act.put_comm a u v h4];exact hn
    · -- i quiet, j acts: then i is of kind 0
      have JW:i=0:=by
        simp only[jN,Bool.or_eq_true,Bool.and_eq_true,beq_iff_eq]at hc;omega
      subst JW;rw[fV qj]at hn ⊢;rw[wj]at hn;by_cases hw:Region.wanted oj (yielded ops a.tmps)=true
      · rw[if_pos hw]at hn ⊢;have h':=C2 (ops:=ops) (K:=fun a' w'=>C w'/\K a' w') ET h1 h2 hn;refine Oper.wp_mono ?_ h';rintro a' w' ⟨⟨u,rfl⟩,Gs,hK⟩;refine⟨⟨u,rfl⟩,Gs,bX (.inl rfl) (v:=v) ?_ hK⟩;simp only[wi,cM.of_put (ops:=ops) GC h3];simpa using hv
      · rw[if_neg hw]at hn ⊢;refine bX (.inl rfl) (v:=v) ?_ ?_
        · simp only[wi,cM.of_put (ops:=ops) GC h3];exact hv
        · rw[Act.put_comm a undef v h4];exact hn
  · -- i acts: j is of kind 0
    have JV:j=0:=by
      simp only[jN,Bool.or_eq_true,Bool.and_eq_true,beq_iff_eq]at hc;omega
    subst JV;rw[fV qi]at h;by_cases hw:Region.wanted oi (yielded ops a.tmps)=true
    · rw[if_pos hw]at h;have hx:=h;clear h;obtain⟨a',w',⟨u,rfl⟩,Gs,hq⟩:=Ce hx;obtain⟨v,hv,_⟩:=dW (.inl rfl) hq;simp only[wj,cM.of_put (ops:=ops) ET h1,if_true]at hv;refine bX (.inl rfl) (v:=v) (by simpa using hv) ?_;rw[fV qi,wi,if_pos hw];unfold Oper.wp at hx ⊢;rw[execOp_put (ops:=ops) oi GC a oj.dst v h3]
      have key:∀(u:Value)(w'':World),((∃ u',a.put oi.dst u=a.put oi.dst u')/\C w''/\aP P ops C 0 oj K (a.put oi.dst u) w'') →
          (∃ u',(a.put oj.dst v).put oi.dst u=(a.put oj.dst v).put oi.dst u')/\C w''/\K ((a.put oj.dst v).put oi.dst u) w'':=by
        rintro u w'' ⟨_,Kl,hq⟩;obtain⟨v',Gz,Eo⟩:=dW (.inl rfl) hq;simp only[wj,cM.of_put (ops:=ops) ET h1,if_true]at Gz;have Jp:v'=v:=by
          rcases hv with⟨ha,hv⟩ | ⟨ha,rfl⟩ <;>rcases Gz with⟨hb,Gz⟩ | ⟨hb,rfl⟩
          · exact(Gz w hC).unique (hv w hC)
          · rw[ha]at hb;cases hb
          · rw[ha]at hb;cases hb
          · rfl
        subst Jp;exact⟨⟨u,rfl⟩,Kl,by rw[Act.put_comm a _ _ h4];exact Eo⟩
      generalize (execOp a.eval oi).run P w=r at *;cases r with
      | ok n w' =>
        cases n <;>simp only[Oper.upon]at hx ⊢
        case value u=>exact key _ _ hx
        case skip=>exact key _ _ hx
        case defer dd =>
          obtain⟨⟨u,hu⟩,_⟩:=hx;exfalso;have:dd ::a.defers=(a.put oi.dst u).defers:=by rw[← hu];cases oi.dst <;>rfl
          have e:(a.put oi.dst u).defers=a.defers:=by cases oi.dst <;>rfl
          rw[e]at this;exact absurd this (by simp)
        case enter f args =>
          refine hx.mono ?_;intro e w'' he;cases e with
          | returned u=>exact key _ _ he
          | panicked c=>exact he
          | outgrown=>obtain⟨_,_,he⟩:=he;exact he.elim
        case row s args=>exact hx.mono fun u w'' he=>key _ _ he
      | halt x w'=>cases x <;>simp only[Oper.upon]at hx ⊢;exact hx
    · rw[if_neg hw]at h;obtain⟨v,hv,hK⟩:=dW (.inl rfl) h;simp only[wj,cM.of_put (ops:=ops) ET h1]at hv;refine bX (.inl rfl) hv ?_;rw[fV qi,wi,if_neg hw];rw[Act.put_comm a _ _ h4];exact hK
theorem sP{kd:dT}{Q:Act->World->Prop}{j:Nat}{oj:Oper}{B:List (Nat×Oper)}(ET:∀ cs b,oj.op≠.select cs b):
    ∀ (A:List (Nat×Oper)),(∀ x∈A,x.2.apart ops oj=true/\jN (kd x.1) (kd j)=true/\∀ cs b,x.2.op≠.select cs b) →
    ∀(a:Act)(w:World),C w->cN P ops C kd Q (A++(j,oj) ::B) a w->aP P ops C (kd j) oj (cN P ops C kd Q (A++B)) a w
  | [],_,_,_,_,h=>h
  | (i,oi) ::A,hA,a,w,hC,h=>by
    have h0:=hA (i,oi) (by simp);refine Cj hC h0.1 h0.2.1 h0.2.2 ET ?_;have:∀ a w,C w->cN P ops C kd Q (A++(j,oj) ::B) a w->aP P ops C (kd j) oj (cN P ops C kd Q (A++B)) a w :=
      fun a w hC h=>sP ET A (fun x hx=>hA x (by simp[hx])) a w hC h
    simp only[List.cons_append,cN]at h;exact pO hC this h
theorem wT{o:Oper}{Q:Exit->Act->World->Prop}(h:o.wp P a w K xP):o.wp P a w K Q:=by
 unfold Oper.wp at *;generalize (execOp a.eval o).run P w=r at *;cases r with
 | ok n w' =>
  cases n <;>simp only[Oper.upon]at h ⊢
  case enter f args =>
   refine h.mono ?_;intro e w'' he;cases e with
   | returned u=>exact he
   | panicked c=>exact he.elim
   | outgrown=>obtain⟨_,_,he⟩:=he;exact he.elim
  all_goals exact h
 | halt x w'=>cases x <;>simp only[Oper.upon]at h ⊢;exact h.elim
theorem fF{j:Nat}{o:Oper}{k:Nat}{Q:Exit->Act->World->Prop}(hj:ops[j]?=some o)(hC:C w)(hK:∀ a w,C w->K a w->K' a w)(h:aP P ops C k o K a w):wpOp P ops Q j K' a w:=by
 unfold wpOp;simp only[hj];unfold aP at h;split
 ·rename_i hw;simp only[hw,if_true]at h;left;split at h
  ·obtain⟨v,h1,h2⟩:=h;unfold Oper.wp;rcases h1 w hC with h3 | ⟨h3,rfl⟩ <;>rw[h3] <;>exact hK _ _ hC h2
  ·obtain⟨v,h1,h2⟩:=h;unfold Oper.wp;rcases h1 with h3 | ⟨h3,rfl⟩ <;>rw[h3] <;>exact hK _ _ hC h2
  ·exact wT (Oper.wp_mono (fun a' w' ⟨_,h1,h2⟩=>hK _ _ h1 h2) h)
 ·rename_i hw;simp only[hw]at h;exact hK _ _ hC h
def eT:Nat->List Oper->List (Nat×Oper)
 | _,[]=>[]
 | k,o ::l=>(k,o) ::eT (k+1) l
theorem dF{i:Nat}{o:Oper}:∀ {k:Nat} {l:List Oper},(i,o)∈eT k l↔k<=i/\l[i-k]?=some o
 | k,[]=>by simp[eT]
 | k,x ::l=>by
  simp only[eT,List.mem_cons,Prod.mk.injEq,dF (k:=k+1) (l:=l)];constructor
  ·rintro(⟨rfl,rfl⟩ | ⟨h1,h2⟩)
   ·simp
   ·refine⟨by omega,?_⟩;rw[show i-k=(i-(k+1))+1 by omega];simpa using h2
  ·rintro⟨h1,h2⟩;rcases Nat.eq_or_lt_of_le h1 with h | h
   ·subst h;left;simp at h2;exact⟨rfl,h2.symm⟩
   ·right;refine⟨by omega,?_⟩;rw[show i-k=(i-(k+1))+1 by omega]at h2;simpa using h2
theorem fY:∀(k:Nat)(l:List Oper),(eT k l).Pairwise (fun x y=>x.1<y.1)
 | _,[]=>List.Pairwise.nil
 | k,o ::l=>by
  simp only[eT];refine List.Pairwise.cons ?_ (fY (k+1) l);rintro⟨i,oi⟩ hm;have:=(dF.1 hm).1;show k<i;omega
abbrev dI:=List (Nat×Nat×Nat)
def jZ(R:dI)(j i:Nat):Bool:=R.any fun t=>t.1 ==j && t.2.1 ==i
def edgeB(o:Oper)(m:Nat):Bool:=o.after.any fun e=>Region.binds .any e && e.on ==m
def kO(ops:List Oper)(R:dI):Bool :=
 R.all fun t=>decide (t.2.2<t.1) && (match ops[t.1]? with | some o=>edgeB o t.2.2 | none=>false) && (t.2.2 ==t.2.1 || jZ R t.2.2 t.2.1)
def mU(ops:Array Oper)(kd:dT)(R:dI)(x y:Nat×Oper):Bool:=(x.2.apart ops y.2 && jN (kd x.1) (kd y.1)) || jZ R y.1 x.1
def Ca(l:List (Nat×Oper)):Bool:=l.all fun x=>x.2.after.all fun e=>!Region.binds .any e || decide (e.on<x.1)
def sV(ops:Array Oper)(kd:dT)(R:dI):List (Nat×Oper)->Bool
 | []=>true
 | x ::l=>l.all (mU ops kd R x) && sV ops kd R l
def AF(ops:List Oper)(kd:dT)(R:dI):Bool :=
 Region.noSelect ops.toArray && Ca (eT 0 ops) && kO ops R && sV ops.toArray kd R (eT 0 ops)
theorem mT{kd:dT}{R:dI}:∀ {l:List (Nat×Oper)},sV ops kd R l=true->l.Pairwise (fun x y=>mU ops kd R x y=true)
 | [],_=>List.Pairwise.nil
 | x ::l,h=>by
  simp only[sV,Bool.and_eq_true,List.all_eq_true]at h;exact List.Pairwise.cons h.1 (mT h.2)
def Cd(ops:List Oper)(listed:Array Bool):Prop:=∀ j o,ops[j]?=some o->listed.getD j true=true->∀ e∈o.after,Region.binds .any e=true->listed.getD e.on false=true
theorem lW {l:List Oper} {R:dI} (hR:kO l R=true) {listed:Array Bool} (hd:Cd l listed) {i:Nat} (hi:listed.getD i false=false) :
    ∀(j:Nat),jZ R j i=true->listed.getD j true=false/\j ∉ Region.ready .any l.toArray listed:=by
  intro j
  induction j using Nat.strongRecOn with
  | _ j ih =>
    intro hw;obtain⟨⟨j',i',m⟩,hm,he⟩:=List.any_eq_true.1 hw;simp only[Bool.and_eq_true,beq_iff_eq]at he;obtain⟨rfl,rfl⟩:=he;have h:=List.all_eq_true.1 hR _ hm;simp only[Bool.and_eq_true,decide_eq_true_eq,Bool.or_eq_true,beq_iff_eq]at h;obtain⟨⟨Dp,he⟩,hc⟩:=h;cases ho:l[j']? with
    | none=>rw[ho]at he;simp at he
    | some o =>
      rw[ho]at he;obtain⟨e,Gi,hb⟩:=Array.any_eq_true'.1 he;simp only[Bool.and_eq_true,beq_iff_eq]at hb;have Ir:listed.getD m false=false:=by
        rcases hc with rfl | hc
        · exact hi
        · have:=(ih m Dp hc).1;rcases Nat.lt_or_ge m listed.size with h' | h'
          · simp[h']at this ⊢;exact this
          · simp[Array.getElem?_eq_none h']
      constructor
      · cases hj:listed.getD j' true with
        | false=>rfl
        | true =>
          have:=hd j' o ho hj e Gi hb.1;rw[hb.2,Ir]at this;cases this
      · intro hr;obtain⟨_,o',Fe,Dr⟩:=mem_ready.1 hr;have:o'=o:=by
          have:l[j']?=some o':=by simpa using Fe
          rw[ho]at this;exact(Option.some.inj this).symm
        subst this;have:=Dr e Gi hb.1;rw[hb.2,Ir]at this;cases this
theorem sB {l :List Oper} {kd:dT} {R:dI} {Qn:Act->World->Prop} {Q:Exit->Act->World->Prop} (hB:AF l kd R=true) (hQ:∀ a w,C w->Qn a w->Q .normal a w) :
    ∀ (n:Nat) (L:List (Nat×Oper)) (listed:Array Bool) (a:Act) (w:World),L.length=n->C w->listed.size=l.length->L.Pairwise (fun x y=>x.1<y.1/\mU l.toArray kd R x y=true) →
      (∀ i o,(i,o)∈L↔(l[i]?=some o/\listed.getD i true=false))->Cd l listed->cN P l.toArray C kd Qn L a w->wpAny P .any l.toArray Q n listed a w:=by
  have I0:=hB;simp only[AF,Bool.and_eq_true]at I0;obtain⟨⟨⟨Es,DW⟩,Ds⟩,_⟩:=I0;have DT:=Region.noSelect_spec Es;intro n
  induction n with
  | zero =>
    intro L listed a w hL hC hs hp hm hd h;obtain rfl:L=[]:=List.length_eq_zero_iff.1 hL;refine⟨?_,hQ _ _ hC h⟩;refine List.eq_nil_iff_forall_not_mem.2 fun j hj=>?_;obtain⟨hu,o,ho,_⟩:=mem_ready.1 hj;have:=(hm j o).2 ⟨by simpa using ho,hu⟩;cases this
  | succ n ih =>
    intro L listed a w hL hC hs hp hm hd h;constructor
    · intro hr;exfalso;cases L with
      | nil=>simp at hL
      | cons x L =>
        obtain⟨i,oi⟩:=x;have hi:=(hm i oi).1 (by simp);have:i∈Region.ready .any l.toArray listed:=by
          refine mem_ready.2 ⟨hi.2,oi,by simpa using hi.1,fun e he hb=>?_⟩;have h1:=List.all_eq_true.1 DW (i,oi) (dF.2 ⟨Nat.zero_le _,by simpa using hi.1⟩);have h2:=Array.all_eq_true'.1 h1 e he;simp only[hb,Bool.not_true,Bool.false_or,decide_eq_true_eq]at h2;cases hl:listed.getD e.on true with
          | true =>
            have Dp:i<l.length:=(List.getElem?_eq_some_iff.1 hi.1).1;have:e.on<listed.size:=by omega
            simp[this]at hl ⊢;exact hl
          | false =>
            exfalso;have Dp:i<l.length:=(List.getElem?_eq_some_iff.1 hi.1).1;have GF:=(hm e.on (l[e.on]'(by omega))).2 ⟨by simp,hl⟩;rcases List.mem_cons.1 GF with h3 | h3
            · simp only[Prod.mk.injEq]at h3;omega
            · have:=(List.pairwise_cons.1 hp).1 _ h3;simp only at this;omega
        rw[hr]at this;cases this
    · intro j hj;obtain⟨hu,oj,Ev,Dr⟩:=mem_ready.1 hj;have DG:l[j]?=some oj:=by simpa using Ev
      have DJ:=(hm j oj).2 ⟨DG,hu⟩;obtain⟨A,B,rfl⟩:=List.append_of_mem DJ;have DU:=List.pairwise_append.1 hp;have hA :∀ x∈A,x.2.apart l.toArray oj=true/\jN (kd x.1) (kd j)=true/\∀ cs b,x.2.op≠.select cs b:=by
        rintro⟨i,oi⟩ hx;have hi:=(hm i oi).1 (by simp[hx]);have h1:=(DU.2.2 (i,oi) hx (j,oj) (by simp)).2;simp only[mU,Bool.or_eq_true,Bool.and_eq_true]at h1;refine⟨?_,?_,fun cs b=>DT i oi cs b (by simpa using hi.1)⟩
        all_goals
          rcases h1 with h1 | h1
          · first | exact h1.1 | exact h1.2
          · exfalso;have Hr:listed.getD i false=false:=by
              have:=hi.2;rcases Nat.lt_or_ge i listed.size with h' | h'
              · simp[h']at this ⊢;exact this
              · simp[Array.getElem?_eq_none h']
            exact(lW Ds hd Hr j h1).2 hj
      have DO:=sP (DT j oj · · Ev) A hA a w hC h;refine fF Ev hC (fun a' w' Gt hK=>?_) DO;have EH:j<listed.size:=by
        rw[hs];exact(List.getElem?_eq_some_iff.1 DG).1
      have Dq:∀ x,x∈A∨x∈B->x.1≠j:=by
        rintro x (hx | hx)
        · have:=(DU.2.2 x hx (j,oj) (by simp)).1;simp only at this;omega
        · have:=(List.pairwise_cons.1 DU.2.1).1 x hx;simp only at this;omega
      refine ih (A++B) (listed.setIfInBounds j true) a' w' (by simp at hL ⊢;omega) Gt (by simpa using hs) ?_ ?_ ?_ hK
      · refine List.pairwise_append.2 ⟨DU.1,(List.pairwise_cons.1 DU.2.1).2,fun x hx y hy=>DU.2.2 x hx y (by simp[hy])⟩
      · intro i o;constructor
        · intro hx;have DP:(i,o)∈A∨(i,o)∈B:=by simpa using hx
          have h1:=(hm i o).1 (by simp only[List.mem_append,List.mem_cons];rcases DP with h | h <;>simp[h]);refine⟨h1.1,?_⟩;have:=Dq _ DP;simp only at this;rw[getD_set_ne true (fun h=>this h.symm)];exact h1.2
        · rintro⟨h1,h2⟩;by_cases DH:j=i
          · subst DH;simp[EH]at h2
          · rw[getD_set_ne true DH]at h2;have:=(hm i o).2 ⟨h1,h2⟩;simp only[List.mem_append,List.mem_cons,Prod.mk.injEq]at this ⊢;rcases this with h | ⟨h,_⟩ | h
            · exact .inl h
            · exact absurd h.symm DH
            · exact .inr h
      · intro i o ho hl e he hb;by_cases DH:j=i
        · subst DH;have:o=oj:=Option.some.inj (ho.symm.trans DG);subst this;exact getD_set_true (Dr e he hb)
        · rw[getD_set_ne true DH]at hl;exact getD_set_true (hd i o ho hl e he hb)
theorem jT{id:Nat}{Q:Exit->Act->World->Prop}{l:List Oper}{kd:dT}{R:dI}(hm:P.follows .mixedOrders=true)(hB:AF l kd R=true)(hC:C w.drew)
    (h:cN P l.toArray C kd (fun a w=>C w->Q .normal a w) (eT 0 l) a w.drew):(Code.region id l.toArray true).wp P Q a w:=by
  refine wp_region_any hm ?_;have hp:=fY 0 l;have Eu:(eT 0 l).Pairwise (fun x y=>mU l.toArray kd R x y=true):=by
    simp only[AF,Bool.and_eq_true]at hB;exact mT hB.2
  have Dx:∀ k (l:List Oper),(eT k l).length=l.length:=by
    intro k l
    induction l generalizing k with
    | nil=>rfl
    | cons o l ih=>simp[eT,ih]
  refine sB (C:=C) (Qn:=fun a w=>C w->Q .normal a w) hB (fun a w hC h=>h hC) l.toArray.size (eT 0 l) _ a _ (by simp[Dx]) hC (by simp) (hp.imp₂ (fun _ _ h1 h2=>⟨h1,h2⟩) Eu) ?_ ?_ h
  · intro i o;rw[dF];simp only[Nat.zero_le,true_and,Nat.sub_zero];constructor
    · intro h;refine⟨h,?_⟩;have:=(List.getElem?_eq_some_iff.1 h).1;simp[this]
    · exact fun h=>h.1
  · intro j o ho hl;have:=(List.getElem?_eq_some_iff.1 ho).1;simp[this]at hl
theorem nQ{Q:Exit->Act->World->Prop}{l:List Oper}{kd:dT}(hQ:∀ a w,C w->K a w->Q .normal a w):
    ∀(r:List Oper)(k:Nat)(a:Act)(w:World),(∀ j,r[j]?=l[k+j]?)->k+r.length=l.length->C w->cN P l.toArray C kd K (eT k r) a w->wpOps P l.toArray Q (List.range' k r.length) a w
  | [],_,_,_,_,_,hC,h=>hQ _ _ hC h
  | o ::r,k,a,w,hl,Dx,hC,h=>by
    have h0:l[k]?=some o:=by simpa using(hl 0).symm
    simp only[List.length_cons,List.range'_succ];rw[wpOps_cons];refine fF (by simpa using h0) hC (fun a' w' Gt hK=>?_) h;exact nQ hQ r (k+1) a' w' (fun j=>by have:=hl (j+1);simpa[Nat.add_assoc,Nat.add_comm 1 j]using this) (by simp at Dx;omega) Gt hK
theorem pM{id:Nat}{Q:Exit->Act->World->Prop}{l:List Oper}{kd:dT}(hC:C w)
    (h:cN P l.toArray C kd (fun a w=>C w->Q .normal a w) (eT 0 l) a w):(Code.region id l.toArray false).wp P Q a w:=by
  refine wp_region ?_;have:=nQ (C:=C) (K:=fun a w=>C w->Q .normal a w) (Q:=Q) (l:=l) (kd:=kd) (fun a w hC h=>h hC) l 0 a w (by simp) (by simp) hC h;rw[List.range_eq_range'];simpa using this
end
end Go.V
/-! The own library V, part X: a region that draws its order and has operations that act and wait for no one another: one walk for each way in which these may come. -/
namespace Go.V
inductive XT where
 | leaf (L:List Nat)
 | split (p q:Nat) (x y:XT)
 | dead (L:List Nat)
def nP(S:List Nat)(j i:Nat):Prop:=∃ S1 S2,S=S1++j ::S2/\i∈S2
def factB(F:List (Nat×Nat))(R:dI)(x y:Nat):Bool :=
 F.any fun f=>f.1 ==x && (f.2 ==y || jZ R y f.2)
def BC(ops:Array Oper)(kd:dT)(R:dI)(F:List (Nat×Nat))(x y:Nat×Oper):Bool:=mU ops kd R x y || factB F R x.1 y.1
def sU(ops:Array Oper)(kd:dT)(R:dI)(F:List (Nat×Nat)):List (Nat×Oper)->Bool
 | []=>true
 | x ::l=>l.all (BC ops kd R F x) && sU ops kd R F l
def pick(ops:List Oper)(L:List Nat):List (Nat×Oper):=L.filterMap fun i=>(ops[i]?).map fun o=>(i,o)
def sW:List Nat->Bool
 | []=>true
 | x ::l=>!l.contains x && sW l
def CV(ops:List Oper)(kd:dT)(R:dI)(F:List (Nat×Nat))(L:List Nat):Bool :=
 sW L && (List.range ops.length).all (fun i=>L.contains i) && sU ops.toArray kd R F (pick ops L)
def zL(n:Nat)(F:List (Nat×Nat))(R:dI)(x y:Nat):Bool:=decide (x≠y) && decide (x<n) && decide (y<n) && (F.contains (x,y) || jZ R y x)
def zD(n:Nat)(F:List (Nat×Nat))(R:dI)(a:Nat):List Nat->Bool
 | []=>false
 | [z]=>zL n F R z a
 | y ::z ::l=>zL n F R y z && zD n F R a (z ::l)
def nV(ops:List Oper)(kd:dT)(R:dI):XT->List (Nat×Nat)->Bool
 | .leaf L,F=>CV ops kd R F L
 | .split p q x y,F=>decide (p≠q) && nV ops kd R x ((p,q) ::F) && nV ops kd R y ((q,p) ::F)
 | .dead L,F=>match L with
  | []=>false
  | a ::l=>zD ops.length F R a (a ::l)
def Cu(ops:List Oper)(kd:dT)(R:dI)(t:XT):Bool :=
 Region.noSelect ops.toArray && Ca (eT 0 ops) && kO ops R && nV ops kd R t []
def wpX(P:Program)(ops:List Oper)(C:World->Prop)(kd:dT)(Q:Act->World->Prop)(a:Act)(w:World):XT->Prop
 | .leaf L=>cN P ops.toArray C kd Q (pick ops L) a w
 | .split _ _ x y=>wpX P ops C kd Q a w x/\wpX P ops C kd Q a w y
 | .dead _=>True
section
variable {P : Program} {C : World → Prop} {a : Act} {w : World}
theorem mS{ops:Array Oper}{kd:dT}{R:dI}{F:List (Nat×Nat)}:∀ {l:List (Nat×Oper)},sU ops kd R F l=true->l.Pairwise (fun x y=>BC ops kd R F x y=true)
 | [],_=>List.Pairwise.nil
 | x ::l,h=>by
  simp only[sU,Bool.and_eq_true,List.all_eq_true]at h;exact List.Pairwise.cons h.1 (mS h.2)
theorem tF(ops:Array Oper)(fuel t:Nat)(listed:Array Bool):Region.linearise.go .any ops (fuel+1) t listed [] =
    match (Region.ready .any ops listed)[t % (Region.ready .any ops listed).length]? with
    | some i=>i ::Region.linearise.go .any ops fuel (t / (Region.ready .any ops listed).length) (listed.setIfInBounds i true) []
    | none=>[]:=by
  simp only[Region.linearise.go]
  change (match (Region.ready .any ops listed)[t % (Region.ready .any ops listed).length]? with
      | some i=>Region.linearise.go .any ops fuel (t / (Region.ready .any ops listed).length) (listed.setIfInBounds i true) [i]
      | none=>[].reverse)=_
  split
  · rw[linearise_go_acc];rfl
  · rfl
theorem tE(ops:Array Oper)(t:Nat)(listed:Array Bool):Region.linearise.go .any ops 0 t listed []=[]:=by simp[Region.linearise.go]
theorem xL{l:List Oper}{listed:Array Bool}{t:Nat}(Dq:Region.ready .any l.toArray listed≠[]):∃ j,(Region.ready .any l.toArray listed)[t % (Region.ready .any l.toArray listed).length]?=some j/\j∈Region.ready .any l.toArray listed:=by
 have DQ:0<(Region.ready .any l.toArray listed).length:=List.length_pos_iff.2 Dq;have Dp:=Nat.mod_lt t DQ;exact⟨_,List.getElem?_eq_getElem Dp,List.getElem_mem Dp⟩
theorem CG {l :List Oper} (DW:Ca (eT 0 l)=true):∀ (n t:Nat) (L:List (Nat×Oper)) (listed:Array Bool),L.length=n->listed.size=l.length->L.Pairwise (fun x y=>x.1<y.1) →
    (∀ i o,(i,o)∈L↔(l[i]?=some o/\listed.getD i true=false))->(Region.linearise.go .any l.toArray n t listed []).Perm (L.map Prod.fst):=by
  intro n
  induction n with
  | zero =>
    intro t L listed hL hs hp hm;obtain rfl:L=[]:=List.length_eq_zero_iff.1 hL;rw[tE];exact List.Perm.refl _
  | succ n ih =>
    intro t L listed hL hs hp hm;have Dq : Region.ready .any l.toArray listed≠[]:=by
      intro hr;cases L with
      | nil=>simp at hL
      | cons x L =>
        obtain⟨i,oi⟩:=x;have hi:=(hm i oi).1 (by simp);have:i∈Region.ready .any l.toArray listed:=by
          refine mem_ready.2 ⟨hi.2,oi,by simpa using hi.1,fun e he hb=>?_⟩;have h1:=List.all_eq_true.1 DW (i,oi) (dF.2 ⟨Nat.zero_le _,by simpa using hi.1⟩);have h2:=Array.all_eq_true'.1 h1 e he;simp only[hb,Bool.not_true,Bool.false_or,decide_eq_true_eq]at h2;cases hl:listed.getD e.on true with
          | true =>
            have Dp:i<l.length:=(List.getElem?_eq_some_iff.1 hi.1).1;have:e.on<listed.size:=by omega
            simp[this]at hl ⊢;exact hl
          | false =>
            exfalso;have Dp:i<l.length:=(List.getElem?_eq_some_iff.1 hi.1).1;have GF:=(hm e.on (l[e.on]'(by omega))).2 ⟨by simp,hl⟩;rcases List.mem_cons.1 GF with h3 | h3
            · simp only[Prod.mk.injEq]at h3;omega
            · have:=(List.pairwise_cons.1 hp).1 _ h3;simp only at this;omega
        rw[hr]at this;cases this
    obtain⟨j,JU,hj⟩:=xL (t:=t) Dq;rw[tF,JU];obtain⟨hu,oj,Ev,Dr⟩:=mem_ready.1 hj;have DG:l[j]?=some oj:=by simpa using Ev
    have DJ:=(hm j oj).2 ⟨DG,hu⟩;obtain⟨A,B,rfl⟩:=List.append_of_mem DJ;have DU:=List.pairwise_append.1 hp;have EH:j<listed.size:=by
      rw[hs];exact(List.getElem?_eq_some_iff.1 DG).1
    have Hg:∀ x,x∈A∨x∈B->x.1≠j:=by
      rintro x (hx | hx)
      · have:=DU.2.2 x hx (j,oj) (by simp);simp only at this;omega
      · have:=(List.pairwise_cons.1 DU.2.1).1 x hx;simp only at this;omega
    have Hb :=ih (t / (Region.ready .any l.toArray listed).length) (A++B) (listed.setIfInBounds j true) (by simp at hL ⊢;omega) (by simpa using hs)
      (List.pairwise_append.2 ⟨DU.1,(List.pairwise_cons.1 DU.2.1).2,fun x hx y hy=>DU.2.2 x hx y (by simp[hy])⟩) (by
        intro i o;constructor
        · intro hx;have DP:(i,o)∈A∨(i,o)∈B:=by simpa using hx
          have h1:=(hm i o).1 (by simp only[List.mem_append,List.mem_cons];rcases DP with h | h <;>simp[h]);refine⟨h1.1,?_⟩;have:=Hg _ DP;simp only at this;rw[getD_set_ne true (fun h=>this h.symm)];exact h1.2
        · rintro⟨h1,h2⟩;by_cases DH:j=i
          · subst DH;simp[EH]at h2
          · rw[getD_set_ne true DH]at h2;have:=(hm i o).2 ⟨h1,h2⟩;simp only[List.mem_append,List.mem_cons,Prod.mk.injEq]at this ⊢;rcases this with h | ⟨h,_⟩ | h
            · exact .inl h
            · exact absurd h.symm DH
            · exact .inr h)
    rw[List.map_append,List.map_cons];refine(List.Perm.cons j Hb).trans ?_;rw[List.map_append];exact(List.perm_middle (a:=j)).symm
theorem nP.cons{S:List Nat}{j i k:Nat}(h:nP S j i):nP (k ::S) j i:=by
 obtain⟨S1,S2,rfl,h⟩:=h;exact⟨k ::S1,S2,rfl,h⟩
theorem mixS {l :List Oper} {kd:dT} {R:dI} {Qn:Act->World->Prop} {Q:Exit->Act->World->Prop} (Es:Region.noSelect l.toArray=true) (Ds:kO l R=true) (hQ:∀ a w,C w->Qn a w->Q .normal a w) :
    ∀ (n t:Nat) (L:List (Nat×Oper)) (listed:Array Bool) (a:Act) (w:World),L.length=n->C w->listed.size=l.length →
      (Region.linearise.go .any l.toArray n t listed []).Perm (L.map Prod.fst)->(L.map Prod.fst).Nodup →
      L.Pairwise (fun x y=>mU l.toArray kd R x y=true∨¬ nP (Region.linearise.go .any l.toArray n t listed []) y.1 x.1) →
      (∀ i o,(i,o)∈L↔(l[i]?=some o/\listed.getD i true=false))->Cd l listed->cN P l.toArray C kd Qn L a w->wpOps P l.toArray Q (Region.linearise.go .any l.toArray n t listed []) a w:=by
  have DT:=Region.noSelect_spec Es;intro n
  induction n with
  | zero =>
    intro t L listed a w hL hC hs Dy DZ hp hm hd h;obtain rfl:L=[]:=List.length_eq_zero_iff.1 hL;rw[tE];exact hQ _ _ hC h
  | succ n ih =>
    intro t L listed a w hL hC hs Dy DZ hp hm hd h;rw[tF]at Dy hp ⊢;cases hi:(Region.ready .any l.toArray listed)[t % (Region.ready .any l.toArray listed).length]? with
    | none =>
      rw[hi]at Dy;have:=Dy.length_eq;simp at this;omega
    | some j =>
      rw[hi]at Dy hp;simp only at Dy hp ⊢;have hj:j∈Region.ready .any l.toArray listed:=List.mem_of_getElem? hi;obtain⟨hu,oj,Ev,Dr⟩:=mem_ready.1 hj;have DG:l[j]?=some oj:=by simpa using Ev
      have DJ:=(hm j oj).2 ⟨DG,hu⟩;obtain⟨A,B,rfl⟩:=List.append_of_mem DJ;have DU:=List.pairwise_append.1 hp;have Et:(Region.linearise.go .any l.toArray n (t / (Region.ready .any l.toArray listed).length) (listed.setIfInBounds j true) []).Perm ((A++B).map Prod.fst):=by
        have h1:(j ::Region.linearise.go .any l.toArray n (t / (Region.ready .any l.toArray listed).length) (listed.setIfInBounds j true) []).Perm (j ::(A++B).map Prod.fst):=by
          refine Dy.trans ?_;rw[List.map_append,List.map_cons,List.map_append];exact List.perm_middle (a:=j)
        exact h1.cons_inv
      have FR:j ∉ (A++B).map Prod.fst/\((A++B).map Prod.fst).Nodup:=by
        have:(j ::(A++B).map Prod.fst).Nodup:=by
          refine List.Perm.nodup_iff ?_ |>.1 DZ;rw[List.map_append,List.map_cons,List.map_append];exact List.perm_middle (a:=j)
        exact List.nodup_cons.1 this
      have Dq:∀ x,x∈A∨x∈B->x.1≠j:=by
        intro x hx e;exact FR.1 (List.mem_map.2 ⟨x,by simpa using hx,e⟩)
      have hA : ∀ x∈A,x.2.apart l.toArray oj=true/\jN (kd x.1) (kd j)=true/\∀ cs b,x.2.op≠.select cs b:=by
        rintro⟨i,oi⟩ hx;have IB:=(hm i oi).1 (by simp[hx]);have h1:=DU.2.2 (i,oi) hx (j,oj) (by simp);have Fp :(oi.apart l.toArray oj && jN (kd i) (kd j))=true:=by
          rcases h1 with h1 | h1
          · simp only[mU,Bool.or_eq_true]at h1;rcases h1 with h1 | h1
            · exact h1
            · exfalso;have Hr:listed.getD i false=false:=by
                have:=IB.2;rcases Nat.lt_or_ge i listed.size with h' | h'
                · simp[h']at this ⊢;exact this
                · simp[Array.getElem?_eq_none h']
              exact(lW Ds hd Hr j h1).2 hj
          · exfalso;refine h1 ⟨[],_,rfl,?_⟩;refine Et.symm.subset (List.mem_map.2 ⟨(i,oi),by simp[hx],rfl⟩)
        simp only[Bool.and_eq_true]at Fp;exact⟨Fp.1,Fp.2,fun cs b=>DT i oi cs b (by simpa using IB.1)⟩
      have DO:=sP (DT j oj · · Ev) A hA a w hC h;rw[wpOps_cons];refine fF Ev hC (fun a' w' Gt hK=>?_) DO;have EH:j<listed.size:=by
        rw[hs];exact(List.getElem?_eq_some_iff.1 DG).1
      refine ih _ (A++B) (listed.setIfInBounds j true) a' w' (by simp at hL ⊢;omega) Gt (by simpa using hs) Et FR.2 ?_ ?_ ?_ hK
      · have Kn:=List.pairwise_append.2 ⟨DU.1,(List.pairwise_cons.1 DU.2.1).2,fun x hx y hy=>DU.2.2 x hx y (by simp[hy])⟩;refine Kn.imp ?_;rintro x y (h1 | h1)
        · exact .inl h1
        · exact .inr fun h2=>h1 h2.cons
      · intro i o;constructor
        · intro hx;have DP:(i,o)∈A∨(i,o)∈B:=by simpa using hx
          have h1:=(hm i o).1 (by simp only[List.mem_append,List.mem_cons];rcases DP with h | h <;>simp[h]);refine⟨h1.1,?_⟩;have:=Dq _ DP;simp only at this;rw[getD_set_ne true (fun h=>this h.symm)];exact h1.2
        · rintro⟨h1,h2⟩;by_cases DH:j=i
          · subst DH;simp[EH]at h2
          · rw[getD_set_ne true DH]at h2;have:=(hm i o).2 ⟨h1,h2⟩;simp only[List.mem_append,List.mem_cons,Prod.mk.injEq]at this ⊢;rcases this with h | ⟨h,_⟩ | h
            · exact .inl h
            · exact absurd h.symm DH
            · exact .inr h
      · intro i o ho hl e he hb;by_cases DH:j=i
        · subst DH;have:o=oj:=Option.some.inj (ho.symm.trans DG);subst this;exact getD_set_true (Dr e he hb)
        · rw[getD_set_ne true DH]at hl;exact getD_set_true (hd i o ho hl e he hb)
theorem Ah{y:Nat}:∀ {A A' B B':List Nat},(A++y ::B).Nodup->A++y ::B=A'++y ::B'->B=B'
 | [],[],B,B',_,h=>by simpa using h
 | [],x ::A',B,B',hn,h=>by
  simp only[List.nil_append,List.cons_append,List.cons.injEq]at h;obtain⟨rfl,rfl⟩:=h;have:=(List.nodup_cons.1 hn).1;exact absurd (by simp) this
 | x ::A,[],B,B',hn,h=>by
  simp only[List.nil_append,List.cons_append,List.cons.injEq]at h;obtain⟨rfl,_⟩:=h;have:=(List.nodup_cons.1 hn).1;exact absurd (by simp) this
 | x ::A,x' ::A',B,B',hn,h=>by
  simp only[List.cons_append,List.cons.injEq]at h;exact Ah (List.nodup_cons.1 hn).2 h.2
theorem nP.trans{S:List Nat}(hn:S.Nodup){m y x:Nat}(h:nP S m y)(h':nP S y x):nP S m x:=by
 obtain⟨S1,S2,rfl,h1⟩:=h;obtain⟨T1,T2,h2,h3⟩:=h';obtain⟨U1,U2,rfl⟩:=List.append_of_mem h1;have e:(S1++m ::U1)++y ::U2=T1++y ::T2:=by rw[← h2];simp
 have Ec:((S1++m ::U1)++y ::U2).Nodup:=by rw[e,← h2];exact hn
 have:=Ah Ec e;subst this;exact⟨S1,U1++y ::U2,rfl,by simp[h3]⟩
theorem nP.irrefl{S:List Nat}(hn:S.Nodup){x:Nat}(h:nP S x x):False:=by
 obtain⟨S1,S2,rfl,h1⟩:=h;have:=(List.nodup_append.1 hn).2.1;exact(List.nodup_cons.1 this).1 h1
theorem nP.total{S:List Nat}{x y:Nat}(hx:x∈S)(hy:y∈S)(Dq:x≠y):nP S x y∨nP S y x:=by
 obtain⟨S1,S2,rfl⟩:=List.append_of_mem hx;rcases List.mem_append.1 hy with h | h
 ·obtain⟨T1,T2,rfl⟩:=List.append_of_mem h;exact .inr ⟨T1,T2++x ::S2,by simp,by simp⟩
 ·rcases List.mem_cons.1 h with h | h
  ·exact absurd h.symm Dq
  ·exact .inl ⟨S1,S2,rfl,h⟩
theorem qM{S:List Nat}(hn:S.Nodup){n:Nat}{F:List (Nat×Nat)}{R:dI}(hl:∀ x y,zL n F R x y=true->nP S x y){a:Nat}:∀ {z:Nat} {l:List Nat},zD n F R a (z ::l)=true->nP S z a
 | z,[],h=>hl _ _ h
 | z,y ::l,h=>by
  simp only[zD,Bool.and_eq_true]at h;exact nP.trans hn (hl _ _ h.1) (qM hn hl h.2)
theorem vM {l :List Oper} {R:dI} (Ds:kO l R=true) {y m:Nat} (hw:jZ R y m=true):∀(n t:Nat)(listed:Array Bool),listed.size=l.length->Cd l listed->listed.getD m false=false->(m<l.length) →
    y∈Region.linearise.go .any l.toArray n t listed []->nP (Region.linearise.go .any l.toArray n t listed []) m y:=by
  intro n
  induction n with
  | zero=>intro t listed _ _ _ _ h;rw[tE]at h;cases h
  | succ n ih =>
    intro t listed hs hd hm It h;rw[tF]at h ⊢;cases hi:(Region.ready .any l.toArray listed)[t % (Region.ready .any l.toArray listed).length]? with
    | none=>rw[hi]at h;cases h
    | some j =>
      rw[hi]at h;simp only at h ⊢;have hj:j∈Region.ready .any l.toArray listed:=List.mem_of_getElem? hi;obtain⟨hu,oj,Ev,Dr⟩:=mem_ready.1 hj;have DG:l[j]?=some oj:=by simpa using Ev
      rcases List.mem_cons.1 h with e | h'
      · exfalso;rw[← e]at hj;exact(lW Ds hd hm y hw).2 hj
      · by_cases Iu:m=j
        · subst Iu;exact⟨[],_,rfl,h'⟩
        · refine(ih _ (listed.setIfInBounds j true) (by simpa using hs) ?_ ?_ It h').cons
          · intro i o ho hl e he hb;by_cases DH:j=i
            · subst DH;have:o=oj:=Option.some.inj (ho.symm.trans DG);subst this;exact getD_set_true (Dr e he hb)
            · rw[getD_set_ne true DH]at hl;exact getD_set_true (hd i o ho hl e he hb)
          · rw[getD_set_ne false (fun h=>Iu h.symm)];exact hm
theorem lC{l:List Oper}{L:List Nat}{i:Nat}{o:Oper}:(i,o)∈pick l L↔i∈L/\l[i]?=some o:=by
 simp only[pick,List.mem_filterMap];constructor
 ·rintro⟨j,hj,h⟩;cases ho:l[j]? with
  | none=>rw[ho]at h;cases h
  | some o' =>
   rw[ho]at h;simp only[Option.map_some,Option.some.injEq,Prod.mk.injEq]at h;obtain⟨rfl,rfl⟩:=h;exact⟨hj,ho⟩
 ·rintro⟨h1,h2⟩;exact⟨i,h1,by rw[h2];rfl⟩
theorem mV:∀ {L:List Nat},sW L=true->L.Nodup
 | [],_=>List.nodup_nil
 | x ::l,h=>by
  simp only[sW,Bool.and_eq_true,Bool.not_eq_true']at h;refine List.nodup_cons.2 ⟨?_,mV h.2⟩;intro hm;have:=h.1;rw[List.contains_iff_mem.2 hm]at this;cases this
theorem oP{l:List Oper}:∀ {L:List Nat},L.Nodup->((pick l L).map Prod.fst).Nodup
 | [],_=>List.nodup_nil
 | x ::L,h=>by
  have h':=List.nodup_cons.1 h;have ih:=oP (l:=l) h'.2;unfold pick;simp only[List.filterMap_cons];cases ho:l[x]? with
  | none=>exact ih
  | some o =>
   simp only[Option.map_some,List.map_cons];refine List.nodup_cons.2 ⟨?_,ih⟩;intro hm;obtain⟨⟨i,o'⟩,h1,h2⟩:=List.mem_map.1 hm;simp only at h2;subst h2;exact h'.1 (lC.1 h1).1
theorem jL:∀(k:Nat)(l:List Oper),(eT k l).length=l.length
 | k,[]=>rfl
 | k,o ::l=>by simp[eT,jL (k+1) l]
theorem mO {id:Nat} {Q:Exit->Act->World->Prop} {l:List Oper} {kd:dT} {R:dI} {tr:XT} (hm:P.follows .mixedOrders=true) (hB:Cu l kd R tr=true) (hC:C w.drew)
    (h:wpX P l C kd (fun a w=>C w->Q .normal a w) a w.drew tr):(Code.region id l.toArray true).wp P Q a w:=by
  simp only[Cu,Bool.and_eq_true]at hB;obtain⟨⟨⟨Es,DW⟩,Ds⟩,FH⟩:=hB;refine wp_region_draw fun t=>?_;simp only[Region.schedule,hm,Bool.true_or,if_true];have EK:l.toArray.size=l.length:=by simp
  have FG:∀ i o,l[i]?=some o->(Array.replicate l.length false).getD i true=false:=by
    intro i o ho;have:=(List.getElem?_eq_some_iff.1 ho).1;simp[this]
  have Ey:Cd l (Array.replicate l.length false):=by
    intro j o ho hl;have:=(List.getElem?_eq_some_iff.1 ho).1;simp[this]at hl
  have Dy:=CG DW l.length t (eT 0 l) (Array.replicate l.length false) (jL 0 l) (by simp) (fY 0 l) (by
    intro i o;rw[dF];simp only[Nat.zero_le,true_and,Nat.sub_zero];exact⟨fun h=>⟨h,FG i o h⟩,fun h=>h.1⟩)
  have Gg:((eT 0 l).map Prod.fst).Nodup:=by
    rw[List.Nodup,List.pairwise_map];exact(fY 0 l).imp (fun h=>by omega)
  have Gr:(Region.linearise.go .any l.toArray l.length t (Array.replicate l.length false) []).Nodup:=Dy.nodup_iff.2 Gg;have Dr:∀ i,i<l.length->i∈Region.linearise.go .any l.toArray l.length t (Array.replicate l.length false) []:=by
    intro i hi;refine Dy.symm.subset (List.mem_map.2 ⟨(i,l[i]),dF.2 ⟨Nat.zero_le _,by simp⟩,rfl⟩)
  have key:∀ (tr:XT) (F:List (Nat×Nat)),nV l kd R tr F=true->(∀ f∈F,¬ nP (Region.linearise.go .any l.toArray l.length t (Array.replicate l.length false) []) f.2 f.1) →
      wpX P l C kd (fun a w=>C w->Q .normal a w) a w.drew tr->wpOps P l.toArray Q (Region.linearise.go .any l.toArray l.length t (Array.replicate l.length false) []) a w.drew:=by
    intro tr
    induction tr with
    | leaf L =>
      intro F hT hF hX;simp only[nV,CV,Bool.and_eq_true]at hT;obtain⟨⟨hn,HA⟩,Fc⟩:=hT;have DZ:=oP (l:=l) (mV hn);have DJ:∀ i o,(i,o)∈pick l L↔l[i]?=some o:=by
        intro i o;rw[lC];refine⟨fun h=>h.2,fun h=>⟨?_,h⟩⟩;have hi:=(List.getElem?_eq_some_iff.1 h).1;have:=List.all_eq_true.1 HA i (List.mem_range.2 hi);exact List.contains_iff_mem.1 this
      have FQ:((eT 0 l).map Prod.fst).Perm ((pick l L).map Prod.fst):=by
        refine(List.perm_ext_iff_of_nodup Gg DZ).2 fun i=>?_;simp only[List.mem_map];constructor
        · rintro⟨⟨i',o⟩,h1,rfl⟩;exact⟨(i',o),(DJ _ _).2 (by simpa using(dF.1 h1).2),rfl⟩
        · rintro⟨⟨i',o⟩,h1,rfl⟩;exact⟨(i',o),dF.2 ⟨Nat.zero_le _,by simpa using(DJ _ _).1 h1⟩,rfl⟩
      have Dx:(pick l L).length=l.length:=by
        have:=FQ.length_eq;simp only[List.length_map,jL]at this;exact this.symm
      refine mixS (C:=C) (Qn:=fun a w=>C w->Q .normal a w) Es Ds (fun a w hC h=>h hC) l.length t (pick l L) _ a _ Dx hC (by simp) (Dy.trans FQ) DZ ?_ ?_ Ey hX
      · refine(mS Fc).imp ?_;rintro⟨x,ox⟩ ⟨y,oy⟩ h1;simp only[BC,Bool.or_eq_true]at h1;rcases h1 with h1 | h1
        · exact .inl h1
        · right;obtain⟨⟨f1,f2⟩,hf,he⟩:=List.any_eq_true.1 h1;simp only[Bool.and_eq_true,beq_iff_eq,Bool.or_eq_true]at he;obtain⟨rfl,he⟩:=he;have Hh:=hF _ hf;simp only at Hh;rcases he with rfl | he
          · exact Hh
          · intro hb;refine Hh (nP.trans Gr ?_ hb)
            -- y waits for f2
            obtain⟨⟨j',i',m'⟩,GF,Gi⟩:=List.any_eq_true.1 he;simp only[Bool.and_eq_true,beq_iff_eq]at Gi;obtain⟨rfl,rfl⟩:=Gi;have H0:j'∈Region.linearise.go .any l.toArray l.length t (Array.replicate l.length false) []:=by
              obtain⟨S1,S2,e1,_⟩:=hb;rw[e1];simp
            have EO:j'<l.length:=by
              obtain⟨⟨i2,o2⟩,h2,h3⟩:=List.mem_map.1 (Dy.subset H0);have h4:=(dF.1 h2).2;have:=(List.getElem?_eq_some_iff.1 h4).1;simp only at h3;omega
            have Dp:i'<l.length:=by
              -- what is waited for comes ahead in the text
              have:∀ j,j<l.length->jZ R j i'=true->i'<l.length:=by
                intro j
                induction j using Nat.strongRecOn with
                | _ j ih2 =>
                  intro hj hw;obtain⟨⟨j1,i1,m1⟩,JM,ID⟩:=List.any_eq_true.1 hw;simp only[Bool.and_eq_true,beq_iff_eq]at ID;obtain⟨rfl,rfl⟩:=ID;have h2:=List.all_eq_true.1 Ds _ JM;simp only[Bool.and_eq_true,decide_eq_true_eq,Bool.or_eq_true,beq_iff_eq]at h2;obtain⟨⟨Dp,_⟩,hc⟩:=h2;rcases hc with h3 | hc
                  · omega
                  · exact ih2 m1 Dp (by omega) hc
              exact this j' EO he
            refine vM Ds he l.length t _ (by simp) Ey ?_ Dp H0;simp[Dp]
      · intro i o;rw[DJ];exact⟨fun h=>⟨h,FG i o h⟩,fun h=>h.1⟩
    | split p q x y ihx ihy =>
      intro F hT hF hX;simp only[nV,Bool.and_eq_true,decide_eq_true_eq]at hT;obtain⟨⟨KI,hx⟩,hy⟩:=hT;by_cases hb:nP (Region.linearise.go .any l.toArray l.length t (Array.replicate l.length false) []) q p
      · refine ihy ((q,p) ::F) hy ?_ hX.2;intro f hf;rcases List.mem_cons.1 hf with e | e
        · subst e;exact fun h=>nP.irrefl Gr (nP.trans Gr h hb)
        · exact hF f e
      · refine ihx ((p,q) ::F) hx ?_ hX.1;intro f hf;rcases List.mem_cons.1 hf with e | e
        · subst e;exact hb
        · exact hF f e
    | dead L =>
      intro F hT hF hX;simp only[nV]at hT;cases L with
      | nil=>cases hT
      | cons z r =>
        refine(nP.irrefl Gr (qM Gr (fun x y Ia=>?_) hT)).elim;simp only[zL,Bool.and_eq_true,decide_eq_true_eq,Bool.or_eq_true]at Ia;obtain⟨⟨⟨Dq,hx⟩,hy⟩,h1 | h1⟩:=Ia
        · exact(nP.total (Dr x hx) (Dr y hy) Dq).resolve_right (hF (x,y) (List.contains_iff_mem.1 h1))
        · exact vM Ds h1 l.length t _ (by simp) Ey (by simp[hx]) hx (Dr y hy)
  have h1:=key tr [] FH (by simp) h;have h2:wpOps P l.toArray Q (Region.linearise.go .any l.toArray l.toArray.size t (Array.replicate l.toArray.size false) []) a w.drew:=by rw[EK];exact h1
  exact h2
end
end Go.V
/-! The own library V, part 2: what must hold for one operation to go through, and what then stands in its slot. -/
namespace Go.V
/-! ### Types, in short -/
inductive LD where
 | int (k:IntKind) | bool | str | ptr (e:Nat) | slice (e:Nat) | arr (n e:Nat) | map (k e:Nat) | struct (fs:List (Nat×Nat)) | tup (ts:List Nat) | other
inductive Sh where
 | int (k:IntKind) | bool | str | slice | ptr | map | any | addr | cst (x:Value)
structure TE where
 ld:LD
 size:Nat
 bytes:Nat
 zero:Value
 shs:List Sh
def oV:TypeDesc->LD
 | .int k=>.int k
 | .bool=>.bool
 | .string=>.str
 | .pointer e=>.ptr e
 | .slice e=>.slice e
 | .array n e=>.arr n e
 | .map k e=>.map k e
 | .struct fs=>.struct (fs.toList.map fun f=>(f.offset,f.type))
 | .tuple ts=>.tup ts.toList
 | _=>.other
abbrev pJ:=List (Nat×TE)
def tf:pJ->Nat->Option TE
 | [],_=>none
 | (i,e) ::r,t=>bif Nat.beq i t then some e else tf r t
def TyOk(P:Program)(e:Nat×TE):Prop :=
 (P.info? e.1).map (fun i=>(i.size,i.bytes,i.zero))=some (e.2.size,e.2.bytes,some e.2.zero)/\(P.underlying e.1).map oV=some e.2.ld
def nN(P:Program)(T:pJ):Prop:=∀ e∈T,TyOk P e
theorem Bm:∀ {T:pJ} {t:Nat} {e:TE},tf T t=some e->(t,e)∈T
 | (i,x) ::r,t,e,h=>by
  unfold tf at h;cases hb:Nat.beq i t with
  | true =>
   rw[hb]at h;have:i=t:=Nat.eq_of_beq_eq_true hb;subst this;simp at h;subst h;exact List.mem_cons_self
  | false =>
   rw[hb]at h;exact List.mem_cons_of_mem _ (Bm h)
structure Ty(P:Program)(t:Nat)(e:TE):Prop where
 info:∃ i,P.info? t=some i/\i.size=e.size/\i.bytes=e.bytes/\i.zero=some e.zero
 und:∃ d,P.underlying t=some d/\oV d=e.ld
theorem nN.get{P:Program}{T:pJ}(h:nN P T){t:Nat}{e:TE}(ht:tf T t=some e):Ty P t e:=by
 obtain⟨h1,h2⟩:=h _ (Bm ht);obtain⟨i,hi,he⟩:=Option.map_eq_some_iff.1 h1;obtain⟨d,hd,hl⟩:=Option.map_eq_some_iff.1 h2;simp only[Prod.mk.injEq]at he;exact⟨⟨i,hi,he.1,he.2.1,he.2.2⟩,d,hd,hl⟩
section
variable {P : Program} {t : Nat} {e : TE} (w : World)
theorem Ty.sizeOf(h:Ty P t e):(Go.sizeOf t).run P w=.ok e.size w:=by
 obtain⟨i,hi,h1,_⟩:=h.info;simp[Go.sizeOf,typeInfo,program,Sem.run,hi,h1]
theorem Ty.zeroValue(h:Ty P t e):(Go.zeroValue t).run P w=.ok e.zero w:=by
 obtain⟨i,hi,_,_,h1⟩:=h.info;simp[Go.zeroValue,typeInfo,program,Sem.run,hi,h1]
theorem Ty.run_und{d:TypeDesc}(hd:P.underlying t=some d):(Go.underlying t).run P w=.ok d w:=by
 simp[Go.underlying,program,Sem.run,hd]
theorem Ty.slice(h:Ty P t e){x:Nat}(hl:e.ld=.slice x):P.underlying t=some (.slice x):=by
 obtain⟨d,hd,h1⟩:=h.und;rw[hl]at h1;cases d <;>simp[oV]at h1;subst h1;exact hd
theorem Ty.ptr(h:Ty P t e){x:Nat}(hl:e.ld=.ptr x):P.underlying t=some (.pointer x):=by
 obtain⟨d,hd,h1⟩:=h.und;rw[hl]at h1;cases d <;>simp[oV]at h1;subst h1;exact hd
theorem Ty.arr(h:Ty P t e){n x:Nat}(hl:e.ld=.arr n x):P.underlying t=some (.array n x):=by
 obtain⟨d,hd,h1⟩:=h.und;rw[hl]at h1;cases d <;>simp[oV]at h1;obtain⟨rfl,rfl⟩:=h1;exact hd
theorem Ty.map(h:Ty P t e){n x:Nat}(hl:e.ld=.map n x):P.underlying t=some (.map n x):=by
 obtain⟨d,hd,h1⟩:=h.und;rw[hl]at h1;cases d <;>simp[oV]at h1;obtain⟨rfl,rfl⟩:=h1;exact hd
theorem Ty.struct(h:Ty P t e){fs:List (Nat×Nat)}(hl:e.ld=.struct fs):∃ a,P.underlying t=some (.struct a)/\a.toList.map (fun f=>(f.offset,f.type))=fs:=by
 obtain⟨d,hd,h1⟩:=h.und;rw[hl]at h1;cases d <;>simp[oV]at h1;exact⟨_,hd,h1⟩
theorem Ty.int(h:Ty P t e){k:IntKind}(hl:e.ld=.int k):P.underlying t=some (.int k):=by
 obtain⟨d,hd,h1⟩:=h.und;rw[hl]at h1;cases d <;>simp[oV]at h1;subst h1;exact hd
theorem Ty.str(h:Ty P t e)(hl:e.ld=.str):P.underlying t=some .string:=by
 obtain⟨d,hd,h1⟩:=h.und;rw[hl]at h1;cases d <;>simp[oV]at h1;exact hd
def LD.agg:LD->Bool
 | .struct _ | .arr _ _=>true
 | _=>false
theorem Ty.isAgg(h:Ty P t e):(Go.isAgg t).run P w=.ok e.ld.agg w:=by
 obtain⟨d,hd,h1⟩:=h.und;simp only[Go.isAgg,Sem.run_bind,Ty.run_und w hd,Result.andThen_ok];rw[← h1];cases d <;>simp[oV,LD.agg]
end
/-! ### Slots -/
inductive SV where
 | un
 | v (x:Value)
 | b (c:Bool)
 | p (q:Prop) (d:Decidable q)
abbrev Fr:=Nat->SV
def upd(F:Fr)(d:Nat)(s:SV):Fr:=fun t=>bif Nat.beq t d then s else F t
def eS:SV->Value->Prop
 | .un,_=>True
 | .v x,y=>y=x
 | .b c,y=>y=.bool c
 | .p q d,y=>y=.bool (@decide q d)
def Ag(F:Fr)(a:Act):Prop:=∀ t,eS (F t) (a.tmps.getD t undef)
def ev(F:Fr):Operand->SV
 | .tmp t=>F t
 | .const x=>.v x
 | .global g=>.v (.pointer (some ⟨g,0,none⟩))
 | .func f=>.v (.func (.func f) #[] #[])
theorem Ag.ev{F:Fr}{a:Act}(h:Ag F a)(x:Operand):eS (ev F x) (a.eval x):=by
 cases x with
 | tmp t=>exact h t
 | _=>rfl
theorem Ag.put{F:Fr}{a:Act}{s:SV}{v:Value}{d n:Nat}(h:Ag F a)(hn:a.tmps.size=n)(hd:d<n)(hs:eS s v):Ag (upd F d s) (a.put (some d) v):=by
 intro t;unfold upd;cases hb:Nat.beq t d with
 | true =>
  have:t=d:=Nat.eq_of_beq_eq_true hb;subst this;simp[Act.put,hn,hd,hs]
 | false =>
  have Dq:d≠t:=fun e=>by subst e;simp at hb
  have:=h t;simp only[cond_false];simpa[Act.put,Array.getElem?_setIfInBounds_ne Dq]using this
def mk:Value->SV
 | .bool c=>.b c
 | x=>.v x
theorem eS.mk(x:Value):eS (mk x) x:=by cases x <;>rfl
/-! ### Reading operands -/
def vv(F:Fr)(x:Operand)(K:Value->Prop):Prop :=
 match ev F x with
 | .un=>False
 | .v a=>K a
 | .b c=>K (.bool c)
 | .p q d=>K (.bool (@decide q d))
theorem aJ{F:Fr}{a:Act}(h:Ag F a){x:Operand}{K:Value->Prop}(hk:vv F x K):K (a.eval x):=by
 have:=h.ev x;unfold vv at hk;split at hk
 ·exact hk.elim
 all_goals (rename_i he;rw[he]at this;simp only[eS]at this;rw[this];exact hk)
def wR(F:Fr):List Operand->(List Value->Prop)->Prop
 | [],K=>K []
 | x ::r,K=>vv F x fun v=>wR F r fun vs=>K (v ::vs)
theorem cF{F:Fr}{a:Act}(h:Ag F a):∀ {xs:List Operand} {K:List Value->Prop},wR F xs K->K (xs.map a.eval)
 | [],_,hk=>hk
 | x ::r,K,hk=>cF h (xs:=r) (K:=fun vs=>K (a.eval x ::vs)) (aJ h (x:=x) (K:=fun v=>wR F r fun vs=>K (v ::vs)) hk)
def Dn(F:Fr):List (Nat×Operand)->(List (Nat×Value)->Prop)->Prop
 | [],K=>K []
 | (i,x) ::r,K=>vv F x fun v=>Dn F r fun vs=>K ((i,v) ::vs)
theorem kP{F:Fr}{a:Act}(h:Ag F a):∀ {xs:List (Nat×Operand)} {K:List (Nat×Value)->Prop},Dn F xs K->K (xs.map fun p=>(p.1,a.eval p.2))
 | [],_,hk=>hk
 | (i,x) ::r,K,hk=>kP h (xs:=r) (K:=fun vs=>K ((i,a.eval x) ::vs)) (aJ h (x:=x) (K:=fun v=>Dn F r fun vs=>K ((i,v) ::vs)) hk)
def fT(F:Fr)(x:Operand)(K:IntKind->Int->Prop):Prop :=
 match ev F x with
 | .v (.int k n)=>K k n
 | _=>False
theorem aW{F:Fr}{a:Act}(h:Ag F a){x:Operand}{K:IntKind->Int->Prop}(hk:fT F x K):∃ k n,a.eval x=.int k n/\K k n:=by
 have:=h.ev x;unfold fT at hk;split at hk
 ·rename_i k n he;rw[he]at this;exact⟨k,n,this,hk⟩
 ·exact hk.elim
def wX(F:Fr)(x:Operand)(K:Addr->Prop):Prop :=
 match ev F x with
 | .v (.pointer (some p))=>K p
 | _=>False
theorem gL{F:Fr}{a:Act}(h:Ag F a){x:Operand}{K:Addr->Prop}(hk:wX F x K):∃ p,a.eval x=.pointer (some p)/\K p:=by
 have:=h.ev x;unfold wX at hk;split at hk
 ·rename_i p he;rw[he]at this;exact⟨p,this,hk⟩
 ·exact hk.elim
/-! ### Whole numbers -/
def aI:IntKind->Int->Prop
 | .i8,z=>-128<=z/\z<=127
 | .i16,z=>-32768<=z/\z<=32767
 | .i32,z=>-2147483648<=z/\z<=2147483647
 | .i64,z=>-9223372036854775808<=z/\z<=9223372036854775807
 | .u8,z=>0<=z/\z<=255
 | .u16,z=>0<=z/\z<=65535
 | .u32,z=>0<=z/\z<=4294967295
 | .u64,z=>0<=z/\z<=18446744073709551615
theorem dM{k:IntKind}{z:Int}(h:aI k z):k.wrap z=z:=by
 cases k <;>simp only[aI]at h <;>simp only[IntKind.wrap,IntKind.bits,IntKind.signed] <;>simp <;>omega
def jR(op:BinOp)(k:IntKind)(x y:Int):Int :=
 match op with
 | .and=>k.wrap ((BitVec.ofInt k.bits x &&& BitVec.ofInt k.bits y).toNat)
 | .or=>k.wrap ((BitVec.ofInt k.bits x ||| BitVec.ofInt k.bits y).toNat)
 | .xor=>k.wrap ((BitVec.ofInt k.bits x^^^BitVec.ofInt k.bits y).toNat)
 | _=>k.wrap ((BitVec.ofInt k.bits x &&& ~~~BitVec.ofInt k.bits y).toNat)
def CY(wr:Bool)(op:BinOp)(k:IntKind)(x y:Int)(K:SV->Prop):Prop :=
 match op with
 | .add=>bif wr then K (.v (.int k (k.wrap (x+y)))) else aI k (x+y)/\K (.v (.int k (x+y)))
 | .sub=>bif wr then K (.v (.int k (k.wrap (x-y)))) else aI k (x-y)/\K (.v (.int k (x-y)))
 | .mul=>bif wr then K (.v (.int k (k.wrap (x*y)))) else aI k (x*y)/\K (.v (.int k (x*y)))
 | .quo=>bif wr then y≠0/\K (.v (.int k (k.wrap (x.tdiv y)))) else(0<=x/\0<y/\aI k (x / y))/\K (.v (.int k (x / y)))
 | .rem=>bif wr then y≠0/\K (.v (.int k (x.tmod y))) else(0<=x/\0<y)/\K (.v (.int k (x % y)))
 | .and | .or | .xor | .andNot=>K (.v (.int k (jR op k x y)))
 | .eql=>K (.p (x=y) inferInstance)
 | .neq=>K (.p (x≠y) inferInstance)
 | .lss=>K (.p (x<y) inferInstance)
 | .leq=>K (.p (x<=y) inferInstance)
 | .gtr=>K (.p (x>y) inferInstance)
 | .geq=>K (.p (x≥y) inferInstance)
 | _=>False
def sop(wr:Bool)(op:BinOp)(k:IntKind)(x y:Int)(K:SV->Prop):Prop :=
 match op with
 | .shl=>bif wr then 0<=y/\K (.v (.int k (k.wrap (x*2^(min y.toNat k.bits))))) else(0<=y/\aI k (x*2^(min y.toNat k.bits)))/\K (.v (.int k (x*2^(min y.toNat k.bits))))
 | .shr=>0<=y/\K (.v (.int k (x / 2^(min y.toNat k.bits))))
 | _=>False
theorem vE{P:Program}{wr:Bool}{op:BinOp}{k:IntKind}{x y:Int}{t:TypeId}{K:SV->Prop}(h:CY wr op k x y K):
    ∃ s v,eS s v/\(∀ w,(binOp op t (.int k x) (.int k y)).run P w=.ok v w)/\K s:=by
  cases op <;>simp only[CY]at h
  case add=>cases wr with
    | true=>exact⟨.v _,_,(rfl:_=_),fun w=>by simp[binOp,Op.intArith],h⟩
    | false=>exact⟨.v _,_,(rfl:_=_),fun w=>by simp[binOp,Op.intArith,dM h.1],h.2⟩
  case sub=>cases wr with
    | true=>exact⟨.v _,_,(rfl:_=_),fun w=>by simp[binOp,Op.intArith],h⟩
    | false=>exact⟨.v _,_,(rfl:_=_),fun w=>by simp[binOp,Op.intArith,dM h.1],h.2⟩
  case mul=>cases wr with
    | true=>exact⟨.v _,_,(rfl:_=_),fun w=>by simp[binOp,Op.intArith],h⟩
    | false=>exact⟨.v _,_,(rfl:_=_),fun w=>by simp[binOp,Op.intArith,dM h.1],h.2⟩
  case quo=>cases wr with
    | true=>exact⟨.v _,_,(rfl:_=_),fun w=>by simp[binOp,Op.intDiv,h.1],h.2⟩
    | false =>
      simp only[cond_false]at h;obtain⟨⟨h1,h2,h3⟩,h4⟩:=h;refine⟨.v _,_,(rfl:_=_),fun w=>?_,h4⟩;simp[binOp,Op.intDiv,show y≠0 by omega,Int.tdiv_eq_ediv_of_nonneg h1,dM h3]
  case rem=>cases wr with
    | true=>exact⟨.v _,_,(rfl:_=_),fun w=>by simp[binOp,Op.intDiv,h.1],h.2⟩
    | false =>
      simp only[cond_false]at h;obtain⟨⟨h1,h2⟩,h4⟩:=h;refine⟨.v _,_,(rfl:_=_),fun w=>?_,h4⟩;simp[binOp,Op.intDiv,show y≠0 by omega,Int.tmod_eq_emod_of_nonneg h1]
  case and=>exact⟨.v _,_,(rfl:_=_),fun w=>by simp[binOp,Op.intBits,jR],h⟩
  case or=>exact⟨.v _,_,(rfl:_=_),fun w=>by simp[binOp,Op.intBits,jR],h⟩
  case xor=>exact⟨.v _,_,(rfl:_=_),fun w=>by simp[binOp,Op.intBits,jR],h⟩
  case andNot=>exact⟨.v _,_,(rfl:_=_),fun w=>by simp[binOp,Op.intBits,jR],h⟩
  case eql=>exact⟨.p _ _,_,(rfl:_=_),fun w=>by simp[binOp,Op.intCmp];rfl,h⟩
  case neq=>exact⟨.p _ _,_,(rfl:_=_),fun w=>by simp[binOp,Op.intCmp,bne];rfl,h⟩
  case lss=>exact⟨.p _ _,_,(rfl:_=_),fun w=>by simp[binOp,Op.intCmp],h⟩
  case leq=>exact⟨.p _ _,_,(rfl:_=_),fun w=>by simp[binOp,Op.intCmp],h⟩
  case gtr=>exact⟨.p _ _,_,(rfl:_=_),fun w=>by simp[binOp,Op.intCmp],h⟩
  case geq=>exact⟨.p _ _,_,(rfl:_=_),fun w=>by simp[binOp,Op.intCmp],h⟩
theorem Bs{P:Program}{wr:Bool}{op:BinOp}{k yk:IntKind}{x y:Int}{t:TypeId}{K:SV->Prop}(h:sop wr op k x y K):
    ∃ s v,eS s v/\(∀ w,(binOp op t (.int k x) (.int yk y)).run P w=.ok v w)/\K s:=by
  cases op <;>simp only[sop]at h
  case shl=>cases wr with
    | true =>
      simp only[cond_true]at h;exact⟨.v _,_,(rfl:_=_),fun w=>by simp[binOp,Op.shift,show ¬ y<0 by omega],h.2⟩
    | false =>
      simp only[cond_false]at h;exact⟨.v _,_,(rfl:_=_),fun w=>by simp[binOp,Op.shift,show ¬ y<0 by omega,dM h.1.2],h.2⟩
  case shr =>
    refine⟨.v _,_,(rfl:_=_),fun w=>?_,h.2⟩;have:(0:Int)<=2^(min y.toNat k.bits):=Int.pow_nonneg (by omega);simp[binOp,Op.shift,show ¬ y<0 by omega,Int.fdiv_eq_ediv_of_nonneg _ this]
end Go.V
/-! The own library V, part 3: operations that compute: what must hold for them, and what they yield. -/
namespace Go.V
/-! ### Something of a type -/
def yK(s:Sh)(K:SV->Value->Prop):Prop :=
 match s with
 | .int k=>∃ x:Int,K (.v (.int k x)) (.int k x)
 | .bool=>∃ c:Bool,K (.b c) (.bool c)
 | .str=>∃ x:ByteArray,K (.v (.string x)) (.string x)
 | .slice=>∃(A:OA)(n c:Nat),K (.v (.slice A n c)) (.slice A n c)
 | .ptr=>∃ a:OA,K (.v (.pointer a)) (.pointer a)
 | .map=>∃ r:Option Nat,K (.v (.map r)) (.map r)
 | .any=>∃ x:Value,K (.v x) x
 | .addr=>∃ a:Addr,K (.v (.pointer (some a))) (.pointer (some a))
 | .cst x=>K (.v x) x
def De:List Sh->(List Value->Prop)->Prop
 | [],K=>K []
 | s ::r,K=>yK s fun _ v=>De r fun vs=>K (v ::vs)
def zZ(te:TE)(K:SV->Value->Prop):Prop :=
 match te.ld with
 | .struct _ | .arr _ _=>De te.shs fun cs=>K (.v (.agg cs.toArray)) (.agg cs.toArray)
 | _=>yK (te.shs.headD .any) K
def vR(T:pJ):List Nat->(List Value->Prop)->Prop
 | [],K=>K []
 | t ::r,K=>match tf T t with
  | some te=>zZ te fun _ v=>vR T r fun vs=>K (v ::vs)
  | none=>False
def wS(T:pJ)(t:Nat)(K:SV->Value->Prop):Prop :=
 match tf T t with
 | some te=>(match te.ld with
  | .tup ts=>vR T ts fun vs=>K (.v (.tuple vs.toArray)) (.tuple vs.toArray)
  | _=>zZ te K)
 | none=>False
theorem hZ{s:Sh}{K:SV->Value->Prop}(h:yK s K):∃ x v,eS x v/\K x v:=by
 cases s <;>simp only[yK]at h
 case slice=>obtain⟨A,n,c,h⟩:=h;exact⟨.v _,_,(rfl:_=_),h⟩
 case bool=>obtain⟨c,h⟩:=h;exact⟨.b _,_,(rfl:_=_),h⟩
 case cst x=>exact⟨.v _,_,(rfl:_=_),h⟩
 all_goals (obtain⟨x,h⟩:=h;exact⟨.v _,_,(rfl:_=_),h⟩)
theorem mH:∀ {s:List Sh} {K:List Value->Prop},De s K->∃ vs,K vs
 | [],_,h=>⟨[],h⟩
 | s ::r,K,h=>by
  obtain⟨_,v,_,h⟩:=hZ h;obtain⟨vs,h⟩:=mH h;exact⟨v ::vs,h⟩
theorem pG{te:TE}{K:SV->Value->Prop}(h:zZ te K):∃ x v,eS x v/\K x v:=by
 unfold zZ at h;split at h
 ·obtain⟨vs,h⟩:=mH h;exact⟨.v _,_,(rfl:_=_),h⟩
 ·obtain⟨vs,h⟩:=mH h;exact⟨.v _,_,(rfl:_=_),h⟩
 ·exact hZ h
theorem kM{T:pJ}:∀ {s:List Nat} {K:List Value->Prop},vR T s K->∃ vs,K vs
 | [],_,h=>⟨[],h⟩
 | s ::r,K,h=>by
  unfold vR at h;split at h
  ·obtain⟨_,v,_,h⟩:=pG h;obtain⟨vs,h⟩:=kM h;exact⟨v ::vs,h⟩
  ·exact h.elim
theorem dG{T:pJ}{t:Nat}{K:SV->Value->Prop}(h:wS T t K):∃ x v,eS x v/\K x v:=by
 unfold wS at h;split at h
 ·split at h
  ·obtain⟨vs,h⟩:=kM h;exact⟨.v _,_,(rfl:_=_),h⟩
  ·exact pG h
 ·exact h.elim
/-! ### Small words -/
def bM(A:OA)(c l sz:Nat):OA:=if c=l then A else A.map (·.add (l*sz))
def mx(x y:Int):Int:=if y>x then y else x
def mn(x y:Int):Int:=if y<x then y else x
def bt(s:ByteArray)(i:Nat):Int:=((s.data.toList.getD i 0).toNat:Int)
def mxs(k:IntKind):Int->List Value->(Int->Prop)->Prop
 | x,[],K=>K x
 | x,.int _ y ::r,K=>mxs k (mx x y) r K
 | _,_,_=>False
def mns(k:IntKind):Int->List Value->(Int->Prop)->Prop
 | x,[],K=>K x
 | x,.int _ y ::r,K=>mns k (mn x y) r K
 | _,_,_=>False
def sS(i:Int):Nat->List Value->(SV->Prop)->Prop
 | _,[],_=>True
 | j,c ::r,K=>(i=(j:Int)->K (mk c))/\sS i (j+1) r K
def sT(sz:Nat)(cs:List Value)(i:Int):Nat->Nat->(SV->Prop)->Prop
 | _,0,_=>True
 | j,c+1,K=>(i=(j:Int)->K (.v (.agg ((cs.drop (j*sz)).take sz).toArray)))/\sT sz cs i (j+1) c K
def yZ(T:pJ):List (Nat×Nat)->(List (Nat×Nat)->Prop)->Prop
 | [],K=>K []
 | (o,t) ::r,K=>match tf T t with
  | some te=>yZ T r fun l=>K ((o,te.size) ::l)
  | none=>False
def tW(a:Addr)(i sz:Nat):Addr:=bif Nat.beq sz 1 then a.add i else a.add (i*sz)
theorem rY(a:Addr)(i sz:Nat):tW a i sz=a.add (i*sz):=by
 unfold tW;cases h:Nat.beq sz 1 with
 | true =>
  have:sz=1:=Nat.eq_of_beq_eq_true h;simp[this]
 | false=>rfl
def semP(ρ:Operand->Value)(o:Oper):Option (Sem Value) :=
 match o.op with
 | .binOp op t x y _=>some (do eqGuard op t x y (ρ x) (ρ y);Go.binOp op t (ρ x) (ρ y))
 | .unOp op _ x=>some (Op.unary op (ρ x))
 | .convert src dst x=>some (Go.convert src dst (ρ x))
 | .makeInterface t x=>some (Instr.makeInterface t (ρ x))
 | .typeAssert x t u ok=>some (Instr.typeAssert (ρ x) t u ok)
 | .makeMap t r=>some (Instr.makeMap t (r.map ρ))
 | .makeSlice t l c=>some (Instr.makeSlice t (ρ l) (ρ c))
 | .slice t x lo hi mx=>some (Instr.sliceAt t (ρ x) (lo.map ρ) (hi.map ρ) (mx.map ρ))
 | .index t x i=>some (Instr.index t (ρ x) (ρ i))
 | .lookup t x i ok=>some (Instr.lookup t (ρ x) (ρ i) ok)
 | .mapEntry t m k=>some (Instr.mapEntry t (ρ m) (ρ k))
 | .range t x=>some (Instr.range t (ρ x))
 | .next it s=>some (Instr.next (ρ it) s o.type)
 | .entry it=>some (Instr.entry (ρ it))
 | .call { callee:=.builtin .append,args,argTypes }=>some (Builtin.append_ argTypes o.type (args.map ρ))
 | .call { callee:=.builtin .copy,args,argTypes }=>some (Builtin.copy_ argTypes o.type (args.map ρ))
 | .call { callee:=.builtin .delete,args,argTypes }=>some (Builtin.delete_ argTypes o.type (args.map ρ))
 | .call { callee:=.builtin .clear,args,argTypes }=>some (Builtin.clear_ argTypes o.type (args.map ρ))
 | .call { callee:=.builtin .len,args,argTypes }=>some (Builtin.len_ argTypes o.type (args.map ρ))
 | _=>none
theorem Ay{P:Program}{ρ:Operand->Value}{o:Oper}{s:Sem Value}(h:semP ρ o=some s)(w:World):(execOp ρ o).run P w=(s.run P w).andThen fun v w'=>.ok (.value v) w':=by
 obtain⟨d,op,t,pos,after,g⟩:=o;have e:∀ x:Sem Value,(do pure (Next.value (← x)):Sem Next).run P w=(x.run P w).andThen fun v w'=>.ok (.value v) w':=fun x=>by simp
 have r:∀(b:Builtin)(args:Array Operand)(ts:Array TypeId),(execOp ρ ⟨d,.call ⟨.builtin b,args,ts⟩,t,pos,after,g⟩).run P w=(builtin b ts t (args.map fun | .const _=>true | _=>false) (args.map ρ)).run P w:=fun b args ts=>by
  simp only[execOp,resolve];rfl
 unfold semP at h;split at h
 case h_15 ho=>simp only at ho;cases ho;cases h;rw[r];exact e _
 case h_16 ho=>simp only at ho;cases ho;cases h;rw[r];exact e _
 case h_17 ho=>simp only at ho;cases ho;cases h;rw[r];exact e _
 case h_18 ho=>simp only at ho;cases ho;cases h;rw[r];exact e _
 case h_19 ho=>simp only at ho;cases ho;cases h;rw[r];exact e _
 case h_20=>cases h
 all_goals (rename_i ho;simp only at ho;cases ho;cases h;simp only[execOp];exact e _)
/-! ### Operations that compute -/
def aX(P:Program)(T:pJ)(wr:Bool)(o:Oper)(F:Fr)(K:SV->Prop):Prop :=
 match o.op with
 | .move x | .assign x=>K (ev F x)
 | .pick c a b=>(match ev F c with
  | .v (.bool true)=>K (ev F a)
  | .v (.bool false)=>K (ev F b)
  | _=>False)
 | .nilCheck x=>(match ev F x with
  | .v (.pointer p)=>∃ a,p=some a/\K (.v (.pointer (some a)))
  | .v (.func (.func g) f c)=>K (.v (.func (.func g) f c))
  | _=>False)
 | .binOp op t x y _=>(match op with
  | .shl | .shr=>fT F x fun k a=>fT F y fun _ b=>sop wr op k a b K
  | .eql | .neq=>(match ev F x,ev F y with
   | .v (.int k a),.v (.int k' b)=>if k=k' then CY wr op k a b K else False
   | .v (.pointer p),.v (.pointer none)=>(match tf T t with
    | some ⟨.ptr _,_,_,_,_⟩=>(match op with
     | .eql=>K (.p (p=none) inferInstance)
     | _=>K (.p (p≠none) inferInstance))
    | _=>False)
   | .v (.slice A _ _),.v (.slice none _ _)=>(match tf T t with
    | some ⟨.slice _,_,_,_,_⟩=>(match op with
     | .eql=>K (.p (A=none) inferInstance)
     | _=>K (.p (A≠none) inferInstance))
    | _=>False)
   | .v (.map r),.v (.map none)=>(match tf T t with
    | some ⟨.map _ _,_,_,_,_⟩=>(match op with
     | .eql=>K (.p (r=none) inferInstance)
     | _=>K (.p (r≠none) inferInstance))
    | _=>False)
   | _,_=>vv F x fun a=>vv F y fun b=>wS T o.type fun s v=>(∀ w,(do eqGuard op t x y a b;Go.binOp op t a b:Sem Value).run P w=.ok v w)/\K s)
  | _=>(match ev F x,ev F y with
   | .v (.int k a),.v (.int k' b)=>if k=k' then CY wr op k a b K else False
   | _,_=>vv F x fun a=>vv F y fun b=>wS T o.type fun s v=>(∀ w,(Go.binOp op t a b:Sem Value).run P w=.ok v w)/\K s))
 | .unOp op _ x=>(match op,ev F x with
  | .not,.v (.bool true)=>K (.v (.bool false))
  | .not,.v (.bool false)=>K (.v (.bool true))
  | .not,.b c=>K (.p (c=false) inferInstance)
  | .not,.p q d=>K (.p (¬ q) (@instDecidableNot q d))
  | .neg,.v (.int k a)=>CY wr .sub k 0 a K
  | .xor,.v (.int k a)=>K (.v (.int k (jR .xor k (if k.signed then -1 else k.max) a)))
  | _,_=>False)
 | .fieldAddr s x f=>(match tf T s with
  | some ⟨.struct fs,_,_,_,_⟩=>(match fs[f]? with
   | some (off,ty)=>(match tf T ty with
    | some te=>bif Nat.beq te.size 0 then False else wX F x fun a=>K (.v (.pointer (some (a.add off))))
    | none=>False)
   | none=>False)
  | _=>False)
 | .field s x f=>(match tf T s with
  | some ⟨.struct fs,_,_,_,_⟩=>(match fs[f]? with
   | some (off,ty)=>(match tf T ty with
    | some te=>vv F x fun v=>(match v with
     | .agg cs=>bif te.ld.agg then K (.v (.agg (cs.extract off (off+te.size)))) else(match cs[off]? with
      | some c=>K (mk c)
      | none=>False)
     | _=>False)
    | none=>False)
   | none=>False)
  | _=>False)
 | .indexAddr t x ix=>fT F ix fun _ i=>(match tf T t with
  | some ⟨.slice e,_,_,_,_⟩=>(match tf T e with
   | some te=>(match ev F x with
    | .v (.slice A n _)=>∃ a,A=some a/\0<=i/\i<(n:Int)/\K (.v (.pointer (some (tW a i.toNat te.size))))
    | _=>False)
   | none=>False)
  | some ⟨.arr n e,_,_,_,_⟩=>(match tf T e with
   | some te=>wX F x fun a=>(0<=i/\i<(n:Int))/\K (.v (.pointer (some (tW a i.toNat te.size))))
   | none=>False)
  | _=>False)
 | .index t x ix=>fT F ix fun _ i=>(match tf T t with
  | some ⟨.arr n e,_,_,_,_⟩=>(match tf T e with
   | some te=>vv F x fun v=>(match v with
    | .agg cs=>bif te.ld.agg then(0<=i/\i<(n:Int))/\sT te.size cs.toList i 0 n K else bif Nat.beq te.size 1 then bif Nat.beq cs.size n then(0<=i/\i<(n:Int))/\sS i 0 cs.toList K else False else False
    | _=>False)
   | none=>False)
  | some ⟨.str,_,_,_,_⟩=>vv F x fun v=>(match v with
   | .string s=>(0<=i/\i<(s.size:Int))/\K (.v (.int .u8 (bt s i.toNat)))
   | _=>False)
  | _=>False)
 | .slice t x lo hi none=>(match tf T t with
  | some ⟨.slice e,_,_,_,_⟩=>(match tf T e with
   | some te=>(match ev F x with
    | .v (.slice A n c)=>(match lo,hi with
     | none,none=>K (.v (.slice A n c))
     | none,some h=>fT F h fun _ h=>(0<=h/\h<=(c:Int))/\K (.v (.slice A h.toNat c))
     | some l,none=>fT F l fun _ l=>(0<=l/\l<=(n:Int))/\K (.v (.slice (bM A c l.toNat te.size) (n-l.toNat) (c-l.toNat)))
     | some l,some h=>fT F l fun _ l=>fT F h fun _ h=>(0<=h/\h<=(c:Int)/\0<=l/\l<=h)/\K (.v (.slice (bM A c l.toNat te.size) (h.toNat-l.toNat) (c-l.toNat))))
    | _=>False)
   | none=>False)
  | some ⟨.str,_,_,_,_⟩=>(match ev F x with
   | .v (.string s)=>(match lo,hi with
    | none,none=>K (.v (.string (s.extract 0 s.size)))
    | none,some h=>fT F h fun _ h=>(0<=h/\h<=(s.size:Int))/\K (.v (.string (s.extract 0 h.toNat)))
    | some l,none=>fT F l fun _ l=>(0<=l/\l<=(s.size:Int))/\K (.v (.string (s.extract l.toNat s.size)))
    | some l,some h=>fT F l fun _ l=>fT F h fun _ h=>(0<=h/\h<=(s.size:Int)/\0<=l/\l<=h)/\K (.v (.string (s.extract l.toNat h.toNat))))
   | _=>False)
  | some ⟨.arr _ _,_,_,_,_⟩=>vv F x fun m=>(match lo,hi with
   | none,some h=>fT F h fun k h=>wS T o.type fun s v=>(∀ w,(Instr.sliceAt t m none (some (.int k h)) none).run P w=.ok v w)/\K s
   | _,_=>False)
  | _=>False)
 | .slice t x (some l) (some h) (some mo)=>(match tf T t with
  | some ⟨.slice e,_,_,_,_⟩=>(match tf T e with
   | some te=>(match ev F x with
    | .v (.slice A _ c)=>fT F l fun _ l=>fT F h fun _ h=>fT F mo fun _ m=>(0<=m/\m<=(c:Int)/\0<=h/\h<=m/\0<=l/\l<=h)/\K (.v (.slice (bM A m.toNat l.toNat te.size) (h.toNat-l.toNat) (m.toNat-l.toNat)))
    | _=>False)
   | none=>False)
  | _=>False)
 | .build t parts=>(match tf T t with
  | some ⟨.struct fs,_,_,z,_⟩=>yZ T fs fun ps=>Dn F parts.toList fun vs=>(match Instr.fill (ps[·]?) z.cells vs with
   | some cells=>K (.v (.agg cells))
   | none=>False)
  | some ⟨.arr _ e,_,_,z,_⟩=>(match tf T e with
   | some te=>Dn F parts.toList fun vs=>(match Instr.fill (fun i=>some (i*te.size,te.size)) z.cells vs with
    | some cells=>K (.v (.agg cells))
    | none=>False)
   | none=>False)
  | _=>False)
 | .makeFunc fn first captured=>wR F first.toList fun f=>wR F captured.toList fun c=>K (.v (.func fn f.toArray c.toArray))
 | .extract x i=>(match ev F x with
  | .v (.tuple vs)=>(match vs[i]? with
   | some v=>K (mk v)
   | none=>False)
  | _=>False)
 | .convert src dst x=>(match tf T src,tf T dst,ev F x with
  | some ⟨.int _,_,_,_,_⟩,some ⟨.int k,_,_,_,_⟩,.v (.int _ n)=>bif wr then K (.v (.int k (k.wrap n))) else aI k n/\K (.v (.int k n))
  | some ⟨.str,_,_,_,_⟩,some ⟨.str,_,_,_,_⟩,.v (.string s)=>K (.v (.string s))
  | _,_,_=>False)
 | .makeInterface t x=>(match tf T t with
  | some ⟨.ptr _,_,_,_,_⟩=>vv F x fun a=>K (.v (.iface t a))
  | _=>vv F x fun a=>wS T o.type fun s v=>(∀ w,(Instr.makeInterface t a).run P w=.ok v w)/\K s)
 | .call { callee:=.builtin .len,args,argTypes }=>(match args[0]?,argTypes[0]? with
  | some x,some t=>(match tf T t with
   | some ⟨.slice _,_,_,_,_⟩=>(match ev F x with
    | .v (.slice _ n _)=>K (.v (.int .i64 (n:Int)))
    | _=>False)
   | some ⟨.str,_,_,_,_⟩=>(match ev F x with
    | .v (.string s)=>K (.v (.int .i64 (s.size:Int)))
    | _=>False)
   | some ⟨.arr n _,_,_,_,_⟩=>K (.v (.int .i64 (n:Int)))
   | _=>False)
  | _,_=>False)
 | .call { callee:=.builtin .max,args,.. }=>(match args.toList with
  | x ::r=>fT F x fun k x=>wR F r fun vs=>mxs k x vs fun z=>K (.v (.int k z))
  | _=>False)
 | .call { callee:=.builtin .min,args,.. }=>(match args.toList with
  | x ::r=>fT F x fun k x=>wR F r fun vs=>mns k x vs fun z=>K (.v (.int k z))
  | _=>False)
 | _=>False
end Go.V
/-! The own library V, part 4: operations that compute yield what part 3 says. -/
namespace Go.V
variable {P : Program} {T : pJ} {F : Fr} {a : Act} {wr : Bool} {K : SV → Prop} {dst : Option Tmp} {ty : TypeId} {pos : String} {after : Array Edge} {guard : Option (Nat × Bool)}
def dJ(P:Program)(o:Oper)(a:Act)(K:SV->Prop):Prop:=∃ s v,eS s v/\(∀ w,(execOp a.eval o).run P w=.ok (.value v) w)/\K s
theorem dJ.of{o:Oper}{S:Sem Value}(ho:∀ w,(execOp a.eval o).run P w=(S.run P w).andThen fun v w'=>.ok (.value v) w')(h:∃ s v,eS s v/\(∀ w,S.run P w=.ok v w)/\K s):dJ P o a K:=by
 obtain⟨s,v,h1,h2,h3⟩:=h;exact⟨s,v,h1,fun w=>by rw[ho,h2];rfl,h3⟩
theorem aM{ρ:Operand->Value}{o:Oper}{S:Sem Value}(h:execOp ρ o=(do pure (Next.value (← S))))(w:World):(execOp ρ o).run P w=(S.run P w).andThen fun v w'=>.ok (.value v) w':=by
 rw[h];simp
theorem vU(d:Nat){t e:TypeId}(h:P.underlying t=some (.pointer e))(p:OA)(w:World):(Op.equalIn (d+1) t (.pointer p) (.pointer none)).run P w=.ok p.isNone w:=by
 cases p <;>simp[Op.equalIn,Ty.run_und w h]
theorem pH(d:Nat){t e:TypeId}(h:P.underlying t=some (.slice e))(A:OA)(n c n' c':Nat)(w:World):(Op.equalIn (d+1) t (.slice A n c) (.slice none n' c')).run P w=.ok A.isNone w:=by
 cases A <;>simp[Op.equalIn,Ty.run_und w h]
theorem vV(d:Nat){t k e:TypeId}(h:P.underlying t=some (.map k e))(r:Option Nat)(w:World):(Op.equalIn (d+1) t (.map r) (.map none)).run P w=.ok r.isNone w:=by
 cases r <;>simp[Op.equalIn,Ty.run_und w h]
theorem eX{op:BinOp}{t:TypeId}{x y:Operand}{A B:Value}(h1:∀ cs,A≠.agg cs)(h2:A≠.nilIface):eqGuard op t x y A B=pure ():=by
 unfold eqGuard;cases op <;>simp
 all_goals (split <;>first | rfl | exact absurd rfl h2 | exact absurd rfl (h1 _))
theorem kK{α:Type}[DecidableEq α](p:Option α):p.isNone=decide (p=none):=by cases p <;>simp
theorem kJ{α:Type}[DecidableEq α](p:Option α):(!p.isNone)=decide (p≠none):=by cases p <;>simp
theorem yG (hT:nN P T) (hA:Ag F a) {op:BinOp} {t yt:TypeId} {x y:Operand}
    (h:aX P T wr ⟨dst,.binOp op t x y yt,ty,pos,after,guard⟩ F K):dJ P ⟨dst,.binOp op t x y yt,ty,pos,after,guard⟩ a K:=by
  refine dJ.of (S:=do eqGuard op t x y (a.eval x) (a.eval y);Go.binOp op t (a.eval x) (a.eval y)) (aM (by simp only[execOp])) ?_;have noguard:∀(A B:Value),(op≠.eql/\op≠.neq)->∀ w,(do eqGuard op t x y A B;Go.binOp op t A B:Sem Value).run P w=(Go.binOp op t A B).run P w:=by
    intro A B EM w;have:eqGuard op t x y A B=pure ():=by
      unfold eqGuard;cases op <;>simp at EM ⊢
    rw[this];simp
  have intguard:∀(k k':IntKind)(m n:Int),∀ w,(do eqGuard op t x y (.int k m) (.int k' n);Go.binOp op t (.int k m) (.int k' n):Sem Value).run P w=(Go.binOp op t (.int k m) (.int k' n)).run P w:=by
    intro k k' m n w;have:eqGuard op t x y (.int k m) (.int k' n)=pure ():=by
      unfold eqGuard;cases op <;>simp
    rw[this];simp
  have shift:(op=.shl∨op=.shr)->(fT F x fun k m=>fT F y fun _ n=>sop wr op k m n K)->∃ s v,eS s v/\(∀ w,(do eqGuard op t x y (a.eval x) (a.eval y);Go.binOp op t (a.eval x) (a.eval y):Sem Value).run P w=.ok v w)/\K s:=by
    intro _ h;obtain⟨k,m,hx,h⟩:=aW hA h;obtain⟨k',n,hy,h⟩:=aW hA h;obtain⟨s,v,h1,h2,h3⟩:=Bs (P:=P) (yk:=k') (t:=t) h;exact⟨s,v,h1,fun w=>by rw[hx,hy,intguard];exact h2 w,h3⟩
  have ints:∀ {k k':IntKind} {m n:Int},ev F x=.v (.int k m)->ev F y=.v (.int k' n)->(if k=k' then CY wr op k m n K else False) →
      ∃ s v,eS s v/\(∀ w,(do eqGuard op t x y (a.eval x) (a.eval y);Go.binOp op t (a.eval x) (a.eval y):Sem Value).run P w=.ok v w)/\K s:=by
    intro k k' m n hx hy h;have DP:a.eval x=.int k m:=by have:=hA.ev x;rw[hx]at this;exact this
    have EF:a.eval y=.int k' n:=by have:=hA.ev y;rw[hy]at this;exact this
    split at h
    · rename_i hk;subst hk;obtain⟨s,v,h1,h2,h3⟩:=vE (P:=P) (t:=t) h;exact⟨s,v,h1,fun w=>by rw[DP,EF,intguard];exact h2 w,h3⟩
    · exact h.elim
  have other:(op≠.eql/\op≠.neq)->(vv F x fun A=>vv F y fun B=>wS T ty fun s v=>(∀ w,(Go.binOp op t A B:Sem Value).run P w=.ok v w)/\K s) →
      ∃ s v,eS s v/\(∀ w,(do eqGuard op t x y (a.eval x) (a.eval y);Go.binOp op t (a.eval x) (a.eval y):Sem Value).run P w=.ok v w)/\K s:=by
    intro EM h;obtain⟨s,v,h1,h2,h3⟩:=dG (aJ hA (aJ hA h));exact⟨s,v,h1,fun w=>by rw[noguard _ _ EM];exact h2 w,h3⟩
  have main:(op≠.eql/\op≠.neq)->∀ hh:(match ev F x,ev F y with
      | .v (.int k a),.v (.int k' b)=>if k=k' then CY wr op k a b K else False
      | _,_=>vv F x fun A=>vv F y fun B=>wS T ty fun s v=>(∀ w,(Go.binOp op t A B:Sem Value).run P w=.ok v w)/\K s),
      ∃ s v,eS s v/\(∀ w,(do eqGuard op t x y (a.eval x) (a.eval y);Go.binOp op t (a.eval x) (a.eval y):Sem Value).run P w=.ok v w)/\K s:=by
    intro EM h;split at h
    · rename_i hx hy;exact ints hx hy h
    · exact other EM h
  have eqs:(op=.eql∨op=.neq)->∀ hh:(match ev F x,ev F y with
      | .v (.int k a),.v (.int k' b)=>if k=k' then CY wr op k a b K else False
      | .v (.pointer p),.v (.pointer none)=>(match tf T t with
        | some ⟨.ptr _,_,_,_,_⟩=>(match op with
          | .eql=>K (.p (p=none) inferInstance)
          | _=>K (.p (p≠none) inferInstance))
        | _=>False)
      | .v (.slice A _ _),.v (.slice none _ _)=>(match tf T t with
        | some ⟨.slice _,_,_,_,_⟩=>(match op with
          | .eql=>K (.p (A=none) inferInstance)
          | _=>K (.p (A≠none) inferInstance))
        | _=>False)
      | .v (.map r),.v (.map none)=>(match tf T t with
        | some ⟨.map _ _,_,_,_,_⟩=>(match op with
          | .eql=>K (.p (r=none) inferInstance)
          | _=>K (.p (r≠none) inferInstance))
        | _=>False)
      | _,_=>vv F x fun A=>vv F y fun B=>wS T ty fun s v=>(∀ w,(do eqGuard op t x y A B;Go.binOp op t A B:Sem Value).run P w=.ok v w)/\K s),
      ∃ s v,eS s v/\(∀ w,(do eqGuard op t x y (a.eval x) (a.eval y);Go.binOp op t (a.eval x) (a.eval y):Sem Value).run P w=.ok v w)/\K s:=by
    intro EM h;split at h
    · rename_i hx hy;exact ints hx hy h
    · rename_i p hx hy;have DP:a.eval x=.pointer p:=by have:=hA.ev x;rw[hx]at this;exact this
      have EF:a.eval y=.pointer none:=by have:=hA.ev y;rw[hy]at this;exact this
      split at h
      · rename_i e _ _ _ _ ht;have hu:=(hT.get ht).ptr rfl;rcases EM with rfl | rfl
        · refine⟨.p _ _,_,(rfl:_=_),fun w=>?_,h⟩;rw[DP,EF];rw[eX (by simp) (by simp)];simp only[pure_bind];show((do pure (.bool (← Op.equalIn (9999+1) t _ _)):Sem Value)).run P w=_;simp only[Sem.run_bind,vU 9999 hu,Result.andThen_ok,kK];rfl
        · refine⟨.p _ _,_,(rfl:_=_),fun w=>?_,h⟩;rw[DP,EF];rw[eX (by simp) (by simp)];simp only[pure_bind];show((do pure (.bool (!(← Op.equalIn (9999+1) t _ _))):Sem Value)).run P w=_;simp only[Sem.run_bind,vU 9999 hu,Result.andThen_ok,kJ];rfl
      · exact h.elim
    · rename_i A n c n' c' hx hy;have DP:a.eval x=.slice A n c:=by have:=hA.ev x;rw[hx]at this;exact this
      have EF:a.eval y=.slice none n' c':=by have:=hA.ev y;rw[hy]at this;exact this
      split at h
      · rename_i e _ _ _ _ ht;have hu:=(hT.get ht).slice rfl;rcases EM with rfl | rfl
        · refine⟨.p _ _,_,(rfl:_=_),fun w=>?_,h⟩;rw[DP,EF];rw[eX (by simp) (by simp)];simp only[pure_bind];show((do pure (.bool (← Op.equalIn (9999+1) t _ _)):Sem Value)).run P w=_;simp only[Sem.run_bind,pH 9999 hu,Result.andThen_ok,kK];rfl
        · refine⟨.p _ _,_,(rfl:_=_),fun w=>?_,h⟩;rw[DP,EF];rw[eX (by simp) (by simp)];simp only[pure_bind];show((do pure (.bool (!(← Op.equalIn (9999+1) t _ _))):Sem Value)).run P w=_;simp only[Sem.run_bind,pH 9999 hu,Result.andThen_ok,kJ];rfl
      · exact h.elim
    · rename_i r hx hy;have DP:a.eval x=.map r:=by have:=hA.ev x;rw[hx]at this;exact this
      have EF:a.eval y=.map none:=by have:=hA.ev y;rw[hy]at this;exact this
      split at h
      · rename_i k e _ _ _ _ ht;have hu:=(hT.get ht).map rfl;rcases EM with rfl | rfl
        · refine⟨.p _ _,_,(rfl:_=_),fun w=>?_,h⟩;rw[DP,EF];rw[eX (by simp) (by simp)];simp only[pure_bind];show((do pure (.bool (← Op.equalIn (9999+1) t _ _)):Sem Value)).run P w=_;simp only[Sem.run_bind,vV 9999 hu,Result.andThen_ok,kK];rfl
        · refine⟨.p _ _,_,(rfl:_=_),fun w=>?_,h⟩;rw[DP,EF];rw[eX (by simp) (by simp)];simp only[pure_bind];show((do pure (.bool (!(← Op.equalIn (9999+1) t _ _))):Sem Value)).run P w=_;simp only[Sem.run_bind,vV 9999 hu,Result.andThen_ok,kJ];rfl
      · exact h.elim
    · obtain⟨s,v,h1,h2,h3⟩:=dG (aJ hA (aJ hA h));exact⟨s,v,h1,h2,h3⟩
  simp only[aX]at h;cases op
  case shl=>exact shift (.inl rfl) h
  case shr=>exact shift (.inr rfl) h
  case eql=>exact eqs (.inl rfl) h
  case neq=>exact eqs (.inr rfl) h
  all_goals exact main (by simp) h
theorem AK(hA:Ag F a){op:UnOp}{t:TypeId}{x:Operand}
    (h:aX P T wr ⟨dst,.unOp op t x,ty,pos,after,guard⟩ F K):dJ P ⟨dst,.unOp op t x,ty,pos,after,guard⟩ a K:=by
  refine dJ.of (S:=Op.unary op (a.eval x)) (aM (by simp only[execOp])) ?_;have hx:=hA.ev x;simp only[aX]at h;split at h
  · rename_i he;rw[he]at hx;simp only[eS]at hx;exact⟨.v _,_,(rfl:_=_),fun w=>by rw[hx];simp[Op.unary],h⟩
  · rename_i he;rw[he]at hx;simp only[eS]at hx;exact⟨.v _,_,(rfl:_=_),fun w=>by rw[hx];simp[Op.unary],h⟩
  · rename_i c he;rw[he]at hx;simp only[eS]at hx;exact⟨.p _ _,_,(rfl:_=_),fun w=>by rw[hx];cases c <;>simp[Op.unary],h⟩
  · rename_i q d he;rw[he]at hx;simp only[eS]at hx;exact⟨.p _ _,_,(rfl:_=_),fun w=>by rw[hx];simp[Op.unary],h⟩
  · rename_i k m he;rw[he]at hx;simp only[eS]at hx;obtain⟨s,v,h1,h2,h3⟩:=vE (P:=P) (t:=0) h;refine⟨s,v,h1,fun w=>?_,h3⟩;rw[hx,← h2 w];simp[Op.unary,Go.binOp]
  · rename_i k m he;rw[he]at hx;simp only[eS]at hx;exact⟨.v _,_,(rfl:_=_),fun w=>by rw[hx];simp[Op.unary,Op.intBits,jR],h⟩
  · exact h.elim
theorem pE (hT:nN P T) (hA:Ag F a) {s:TypeId} {x:Operand} {f:Nat}
    (h:aX P T wr ⟨dst,.fieldAddr s x f,ty,pos,after,guard⟩ F K):dJ P ⟨dst,.fieldAddr s x f,ty,pos,after,guard⟩ a K:=by
  refine dJ.of (S:=Instr.fieldAt s (a.eval x) f) (aM (by simp only[execOp])) ?_;simp only[aX]at h;split at h
  · rename_i fs _ _ _ _ hs;split at h
    · rename_i off ft hf;split at h
      · rename_i te Dt;obtain⟨fa,hu,DN⟩:=(hT.get hs).struct rfl;have hz:Nat.beq te.size 0=false:=by
          cases hb:Nat.beq te.size 0 with
          | false=>rfl
          | true=>rw[hb]at h;exact h.elim
        rw[hz]at h;simp only[cond_false]at h;obtain⟨p,hp,hK⟩:=gL hA h;refine⟨.v _,_,(rfl:_=_),fun w=>?_,hK⟩;have Dq:te.size≠0:=fun e=>by rw[e]at hz;simp at hz
        have Hv:∃ g,fa[f]?=some g/\g.offset=off/\g.type=ft:=by
          rw[← DN]at hf;simp only[List.getElem?_map,Option.map_eq_some_iff,Prod.mk.injEq]at hf;obtain⟨g,hg,h1,h2⟩:=hf;exact⟨g,by simpa using hg,h1,h2⟩
        obtain⟨g,hg,rfl,rfl⟩:=Hv;rw[hp];simp[Instr.fieldAt,Ty.run_und w hu,hg,Instr.sureAddr,fieldPlace,(hT.get Dt).sizeOf w,Dq]
      · exact h.elim
    · exact h.elim
  · exact h.elim
theorem yE (hT:nN P T) (hA:Ag F a) {s:TypeId} {x:Operand} {f:Nat}
    (h:aX P T wr ⟨dst,.field s x f,ty,pos,after,guard⟩ F K):dJ P ⟨dst,.field s x f,ty,pos,after,guard⟩ a K:=by
  refine dJ.of (S:=Instr.field s (a.eval x) f) (aM (by simp only[execOp])) ?_;simp only[aX]at h;split at h
  · rename_i fs _ _ _ _ hs;split at h
    · rename_i off ft hf;split at h
      · rename_i te Dt;obtain⟨fa,hu,DN⟩:=(hT.get hs).struct rfl;have h:=aJ hA h;have Hv:∃ g,fa[f]?=some g/\g.offset=off/\g.type=ft:=by
          rw[← DN]at hf;simp only[List.getElem?_map,Option.map_eq_some_iff,Prod.mk.injEq]at hf;obtain⟨g,hg,h1,h2⟩:=hf;exact⟨g,by simpa using hg,h1,h2⟩
        obtain⟨g,hg,rfl,rfl⟩:=Hv;split at h
        · rename_i cs Ee;rw[Ee];cases hb:te.ld.agg with
          | true =>
            rw[hb]at h;refine⟨.v _,_,(rfl:_=_),fun w=>?_,h⟩;simp[Instr.field,Ty.run_und w hu,hg,asAgg,part,(hT.get Dt).isAgg w,hb,(hT.get Dt).sizeOf w]
          | false =>
            rw[hb]at h;simp only[cond_false]at h;split at h
            · rename_i c hc;refine⟨mk c,c,eS.mk c,fun w=>?_,h⟩;simp[Instr.field,Ty.run_und w hu,hg,asAgg,part,(hT.get Dt).isAgg w,hb,hc]
            · exact h.elim
        · exact h.elim
      · exact h.elim
    · exact h.elim
  · exact h.elim
end Go.V
/-! The own library V, part 5: the other operations that compute. -/
namespace Go.V
variable {P : Program} {T : pJ} {F : Fr} {a : Act} {wr : Bool} {K : SV → Prop} {dst : Option Tmp} {ty : TypeId} {pos : String} {after : Array Edge} {guard : Option (Nat × Bool)}
theorem AL(hA:Ag F a){c x y:Operand}
    (h:aX P T wr ⟨dst,.pick c x y,ty,pos,after,guard⟩ F K):dJ P ⟨dst,.pick c x y,ty,pos,after,guard⟩ a K:=by
  simp only[aX]at h;have hc:=hA.ev c;split at h
  · rename_i he;rw[he]at hc;simp only[eS]at hc;exact⟨_,_,hA.ev x,fun w=>by simp[execOp,hc,asBool],h⟩
  · rename_i he;rw[he]at hc;simp only[eS]at hc;exact⟨_,_,hA.ev y,fun w=>by simp[execOp,hc,asBool],h⟩
  · exact h.elim
theorem pY(hA:Ag F a){x:Operand}
    (h:aX P T wr ⟨dst,.nilCheck x,ty,pos,after,guard⟩ F K):dJ P ⟨dst,.nilCheck x,ty,pos,after,guard⟩ a K:=by
  simp only[aX]at h;have hc:=hA.ev x;split at h
  · rename_i p he;rw[he]at hc;simp only[eS]at hc;obtain⟨ad,rfl,h⟩:=h;exact⟨.v _,_,(rfl:_=_),fun w=>by simp[execOp,hc],h⟩
  · rename_i g f c he;rw[he]at hc;simp only[eS]at hc;exact⟨.v _,_,(rfl:_=_),fun w=>by simp[execOp,hc],h⟩
  · exact h.elim
theorem pD (hT:nN P T) (hA:Ag F a) {t:TypeId} {x ix:Operand}
    (h:aX P T wr ⟨dst,.indexAddr t x ix,ty,pos,after,guard⟩ F K):dJ P ⟨dst,.indexAddr t x ix,ty,pos,after,guard⟩ a K:=by
  refine dJ.of (S:=Instr.indexAt t (a.eval x) (a.eval ix)) (aM (by simp only[execOp])) ?_;simp only[aX]at h;obtain⟨k,i,hi,h⟩:=aW hA h;split at h
  · rename_i e _ _ _ _ ht;split at h
    · rename_i te Dt;split at h
      · rename_i A n c he;have hx:=hA.ev x;rw[he]at hx;simp only[eS]at hx;obtain⟨ad,rfl,h0,h1,h⟩:=h;rw[rY]at h;refine⟨.v _,_,(rfl:_=_),fun w=>?_,h⟩;simp[Instr.indexAt,hi,hx,asIntOf,Ty.run_und w ((hT.get ht).slice rfl),h0,h1,(hT.get Dt).sizeOf w]
      · exact h.elim
    · exact h.elim
  · rename_i n e _ _ _ _ ht;split at h
    · rename_i te Dt;obtain⟨ad,hx,h⟩:=gL hA h;obtain⟨⟨h0,h1⟩,h⟩:=h;rw[rY]at h;refine⟨.v _,_,(rfl:_=_),fun w=>?_,h⟩;simp[Instr.indexAt,hi,hx,asIntOf,Ty.run_und w ((hT.get ht).arr rfl),Instr.sureAddr,h0,h1,(hT.get Dt).sizeOf w]
    · exact h.elim
  · exact h.elim
theorem mQ{i:Int}:∀ {j:Nat} {cs:List Value},sS i j cs K->(j:Int)<=i->i<(j:Int)+cs.length->∃ c,cs[i.toNat-j]?=some c/\K (mk c)
 | j,[],_,h1,h2=>by simp at h2;omega
 | j,c ::r,h,h1,h2=>by
  simp only[sS]at h;by_cases he:i=(j:Int)
  ·exact⟨c,by simp[he],h.1 he⟩
  ·obtain⟨c',hc,hk⟩:=mQ (j:=j+1) (cs:=r) h.2 (by omega) (by simp at h2 ⊢;omega);refine⟨c',?_,hk⟩;rw[show i.toNat-j=(i.toNat-(j+1))+1 by omega];simpa using hc
theorem mR{sz:Nat}{cs:List Value}{i:Int}:∀ {c j:Nat},sT sz cs i j c K->(j:Int)<=i->i<(j:Int)+c->K (.v (.agg ((cs.drop (i.toNat*sz)).take sz).toArray))
 | 0,j,_,h1,h2=>by omega
 | c+1,j,h,h1,h2=>by
  simp only[sT]at h;by_cases he:i=(j:Int)
  ·have:=h.1 he;rw[he];exact this
  ·exact mR (c:=c) (j:=j+1) h.2 (by omega) (by omega)
theorem yD (hT:nN P T) (hA:Ag F a) {t:TypeId} {x ix:Operand}
    (h:aX P T wr ⟨dst,.index t x ix,ty,pos,after,guard⟩ F K):dJ P ⟨dst,.index t x ix,ty,pos,after,guard⟩ a K:=by
  refine dJ.of (S:=Instr.index t (a.eval x) (a.eval ix)) (aM (by simp only[execOp])) ?_;simp only[aX]at h;obtain⟨k,i,hi,h⟩:=aW hA h;split at h
  · rename_i n e _ _ _ _ ht;split at h
    · rename_i te Dt;have h:=aJ hA h;split at h
      · rename_i cs Ee;cases hb:te.ld.agg with
        | true =>
          rw[hb]at h;simp only[cond_true]at h;obtain⟨⟨h3,h4⟩,h⟩:=h;refine⟨.v _,_,(rfl:_=_),fun w=>?_,mR h (by simpa using h3) (by simpa using h4)⟩;have he:cs.extract (i.toNat*te.size) (i.toNat*te.size+te.size)=((cs.toList.drop (i.toNat*te.size)).take te.size).toArray:=by
            apply Array.toList_inj.1;simp[Array.toList_extract,List.extract]
          simp[Instr.index,hi,Ee,asIntOf,Ty.run_und w ((hT.get ht).arr rfl),h3,h4,part,(hT.get Dt).isAgg w,hb,(hT.get Dt).sizeOf w,he]
        | false =>
          rw[hb]at h;simp only[cond_false]at h;cases h1:Nat.beq te.size 1 with
          | false=>rw[h1]at h;exact h.elim
          | true =>
            rw[h1]at h;simp only[cond_true]at h;cases h2:Nat.beq cs.size n with
            | false=>rw[h2]at h;exact h.elim
            | true =>
              rw[h2]at h;simp only[cond_true]at h;have e1:te.size=1:=Nat.eq_of_beq_eq_true h1;have e2:cs.size=n:=Nat.eq_of_beq_eq_true h2;obtain⟨⟨h3,h4⟩,h⟩:=h;obtain⟨c,hc,hk⟩:=mQ h (by simpa using h3) (by simp;omega);refine⟨mk c,c,eS.mk c,fun w=>?_,hk⟩;have E6:cs[i.toNat]?=some c:=by simpa using hc
              simp[Instr.index,hi,Ee,asIntOf,Ty.run_und w ((hT.get ht).arr rfl),h3,h4,part,(hT.get Dt).isAgg w,hb,(hT.get Dt).sizeOf w,e1,E6]
      · exact h.elim
    · exact h.elim
  · rename_i _ _ _ _ ht;have h:=aJ hA h;split at h
    · rename_i s hs;obtain⟨⟨h3,h4⟩,h⟩:=h;refine⟨.v _,_,(rfl:_=_),fun w=>?_,h⟩;have Dp:i.toNat<s.size:=by omega
      have Ek:i.toNat<s.data.toList.length:=by simpa using Dp
      have hg:s[i.toNat]?=some (s.data.toList.getD i.toNat 0):=by
        rw[getElem?_pos s i.toNat Dp];simp only[List.getD_eq_getElem?_getD,List.getElem?_eq_getElem Ek,Option.getD_some];rfl
      simp[Instr.index,hi,hs,asIntOf,Ty.run_und w ((hT.get ht).str rfl),h3,hg,bt]
    · exact h.elim
  · exact h.elim
theorem yF (hT:nN P T) (hA:Ag F a) {t:TypeId} {parts:Array (Nat×Operand)}
    (h:aX P T wr ⟨dst,.build t parts,ty,pos,after,guard⟩ F K):dJ P ⟨dst,.build t parts,ty,pos,after,guard⟩ a K:=by
  refine dJ.of (S:=Instr.build t (parts.map fun(i,x)=>(i,a.eval x))) (aM (by simp only[execOp])) ?_;have hl:∀ vs,vs=parts.toList.map (fun p=>(p.1,a.eval p.2))->(parts.map fun(i,x)=>(i,a.eval x)).toList=vs:=by
    rintro _ rfl;simp
  simp only[aX]at h;split at h
  · rename_i fs _ _ z _ ht;have sz :∀ {fs:List (Nat×Nat)} {K:List (Nat×Nat)->Prop},yZ T fs K->∃ l,K l/\∀(f:List Field),f.map (fun g=>(g.offset,g.type))=fs->∀ w,(f.mapM fun g=>do pure (g.offset,← sizeOf g.type):Sem (List (Nat×Nat))).run P w=.ok l w:=by
      intro fs
      induction fs with
      | nil =>
        intro K h;refine⟨[],h,fun f hf w=>?_⟩;simp at hf;subst hf;simp
      | cons p r ih =>
        obtain⟨o,ty⟩:=p;intro K h;unfold yZ at h;split at h
        · rename_i te Dt;obtain⟨l,hK,hl⟩:=ih h;refine⟨_,hK,fun f hf w=>?_⟩;cases f with
          | nil=>simp at hf
          | cons g f =>
            simp only[List.map_cons,List.cons.injEq,Prod.mk.injEq]at hf;obtain⟨⟨rfl,rfl⟩,hf⟩:=hf;simp only[List.mapM_cons,Sem.run_bind,Sem.run_pure,Result.andThen_ok,(hT.get Dt).sizeOf w,hl f hf w]
        · exact h.elim
    obtain⟨ps,h,JC⟩:=sz h;have h:=kP hA h;split at h
    · rename_i cells hc;obtain⟨fa,hu,DN⟩:=(hT.get ht).struct rfl;refine⟨.v _,_,(rfl:_=_),fun w=>?_,h⟩;have hm:(fa.mapM fun g=>do pure (g.offset,← sizeOf g.type):Sem (Array (Nat×Nat))).run P w=.ok ps.toArray w:=by
        rw[Array.mapM_eq_mapM_toList,Sem.run_map,JC _ DN w];rfl
      simp only[Instr.build,Sem.run_bind,(hT.get ht).zeroValue w,Result.andThen_ok,Ty.run_und w hu,hm];rw[hl _ rfl];have:(fun x:Nat=>ps.toArray[x]?)=(fun x:Nat=>ps[x]?):=by funext x;simp
      rw[this,hc];simp
    · exact h.elim
  · rename_i n e _ _ z _ ht;split at h
    · rename_i te Dt;have h:=kP hA h;split at h
      · rename_i cells hc;refine⟨.v _,_,(rfl:_=_),fun w=>?_,h⟩;simp only[Instr.build,Sem.run_bind,(hT.get ht).zeroValue w,Result.andThen_ok,Ty.run_und w ((hT.get ht).arr rfl),(hT.get Dt).sizeOf w];rw[hl _ rfl,hc];simp
      · exact h.elim
    · exact h.elim
  · exact h.elim
theorem pZ(hA:Ag F a){fn:Fn}{f c:Array Operand}
    (h:aX P T wr ⟨dst,.makeFunc fn f c,ty,pos,after,guard⟩ F K):dJ P ⟨dst,.makeFunc fn f c,ty,pos,after,guard⟩ a K:=by
  refine dJ.of (S:=Instr.makeFunc fn (f.map a.eval) (c.map a.eval)) (aM (by simp only[execOp])) ?_;simp only[aX]at h;have h:=cF hA (cF hA h);refine⟨.v _,_,(rfl:_=_),fun w=>?_,h⟩;simp[Instr.makeFunc];constructor <;>apply Array.toList_inj.1 <;>simp
theorem tB(hA:Ag F a){x:Operand}{i:Nat}
    (h:aX P T wr ⟨dst,.extract x i,ty,pos,after,guard⟩ F K):dJ P ⟨dst,.extract x i,ty,pos,after,guard⟩ a K:=by
  refine dJ.of (S:=Instr.extract (a.eval x) i) (aM (by simp only[execOp])) ?_;simp only[aX]at h;have hx:=hA.ev x;split at h
  · rename_i vs he;rw[he]at hx;simp only[eS]at hx;split at h
    · rename_i v hv;exact⟨mk v,v,eS.mk v,fun w=>by simp[Instr.extract,hx,hv],h⟩
    · exact h.elim
  · exact h.elim
theorem tD(hT:nN P T)(hA:Ag F a){src d:TypeId}{x:Operand}
    (h:aX P T wr ⟨dst,.convert src d x,ty,pos,after,guard⟩ F K):dJ P ⟨dst,.convert src d x,ty,pos,after,guard⟩ a K:=by
  refine dJ.of (S:=Go.convert src d (a.eval x)) (aM (by simp only[execOp])) ?_;simp only[aX]at h;have hx:=hA.ev x;split at h
  · rename_i k1 _ _ _ _ k _ _ _ _ k2 n h1 h2 he;rw[he]at hx;simp only[eS]at hx;have u1:=fun w=>Ty.run_und w ((hT.get h1).int rfl);have u2:=fun w=>Ty.run_und w ((hT.get h2).int rfl);cases wr with
    | true=>exact⟨.v _,_,(rfl:_=_),fun w=>by simp[Go.convert,hx,u1,u2,Conv.intToInt],h⟩
    | false=>exact⟨.v _,_,(rfl:_=_),fun w=>by simp[Go.convert,hx,u1,u2,Conv.intToInt,dM h.1],h.2⟩
  · rename_i _ _ _ _ _ _ _ _ s h1 h2 he;rw[he]at hx;simp only[eS]at hx;have u1:=fun w=>Ty.run_und w ((hT.get h1).str rfl);have u2:=fun w=>Ty.run_und w ((hT.get h2).str rfl);exact⟨.v _,_,(rfl:_=_),fun w=>by simp[Go.convert,hx,u1,u2],h⟩
  · exact h.elim
theorem kL(hT:nN P T)(hA:Ag F a){t:TypeId}{x:Operand}
    (h:aX P T wr ⟨dst,.makeInterface t x,ty,pos,after,guard⟩ F K):dJ P ⟨dst,.makeInterface t x,ty,pos,after,guard⟩ a K:=by
  refine dJ.of (S:=Instr.makeInterface t (a.eval x)) (aM (by simp only[execOp])) ?_;simp only[aX]at h;split at h
  · rename_i e _ _ _ _ ht;have hu:=(hT.get ht).ptr rfl;exact⟨.v _,_,(rfl:_=_),fun w=>by simp[Instr.makeInterface,Ty.run_und w hu],aJ hA h⟩
  · obtain⟨s,v,h1,h2,h3⟩:=dG (aJ hA h);exact⟨s,v,h1,h2,h3⟩
theorem BR (hT:nN P T) (hA:Ag F a) {args:Array Operand} {ts:Array TypeId}
    (h:aX P T wr ⟨dst,.call ⟨.builtin .len,args,ts⟩,ty,pos,after,guard⟩ F K):dJ P ⟨dst,.call ⟨.builtin .len,args,ts⟩,ty,pos,after,guard⟩ a K:=by
  refine dJ.of (S:=Builtin.len_ ts ty (args.map a.eval)) (Ay rfl) ?_;simp only[aX]at h;split at h
  · rename_i x t hx ht;have Lb:(args.map a.eval)[0]?=some (a.eval x):=by simp[hx]
    have he:=hA.ev x;split at h
    · rename_i e _ _ _ _ Dt;split at h
      · rename_i A n c hs;rw[hs]at he;simp only[eS]at he;refine⟨.v _,_,(rfl:_=_),fun w=>?_,h⟩;simp[Builtin.len_,hx,ht,he,Ty.run_und w ((hT.get Dt).slice rfl),goInt]
      · exact h.elim
    · rename_i _ _ _ _ Dt;split at h
      · rename_i s hs;rw[hs]at he;simp only[eS]at he;refine⟨.v _,_,(rfl:_=_),fun w=>?_,h⟩;simp[Builtin.len_,hx,ht,he,Ty.run_und w ((hT.get Dt).str rfl),goInt]
      · exact h.elim
    · rename_i n e _ _ _ _ Dt;refine⟨.v _,_,(rfl:_=_),fun w=>?_,h⟩;simp[Builtin.len_,hx,ht,Ty.run_und w ((hT.get Dt).arr rfl),goInt]
    · exact h.elim
  · exact h.elim
theorem uX{k:IntKind}:∀ {vs:List Value} {x:Int} {K:Int->Prop},mxs k x vs K->∃ z,K z/\∀ w,(vs.foldlM Builtin.max2 (.int k x)).run P w=.ok (.int k z) w
 | [],x,K,h=>⟨x,h,fun w=>by simp⟩
 | v ::r,x,K,h=>by
  cases v with
  | int k' y =>
   simp only[mxs]at h;obtain⟨z,hk,hz⟩:=uX h;refine⟨z,hk,fun w=>?_⟩;simp only[List.foldlM_cons,Builtin.max2,pure_bind];exact hz w
  | _=>simp only[mxs]at h
theorem uY{k:IntKind}:∀ {vs:List Value} {x:Int} {K:Int->Prop},mns k x vs K->∃ z,K z/\∀ w,(vs.foldlM Builtin.min2 (.int k x)).run P w=.ok (.int k z) w
 | [],x,K,h=>⟨x,h,fun w=>by simp⟩
 | v ::r,x,K,h=>by
  cases v with
  | int k' y =>
   simp only[mns]at h;obtain⟨z,hk,hz⟩:=uY h;refine⟨z,hk,fun w=>?_⟩;simp only[List.foldlM_cons,Builtin.min2,pure_bind];exact hz w
  | _=>simp only[mns]at h
theorem cO{b:Builtin}{args:Array Operand}{ts:Array TypeId}{S:Sem Value}(hS:∀ c,builtin b ts ty c (args.map a.eval)=(do pure (.value (← S))))(w:World):
    (execOp a.eval ⟨dst,.call ⟨.builtin b,args,ts⟩,ty,pos,after,guard⟩).run P w=(S.run P w).andThen fun v w'=>.ok (.value v) w':=by
  have:(execOp a.eval ⟨dst,.call ⟨.builtin b,args,ts⟩,ty,pos,after,guard⟩).run P w=(builtin b ts ty (args.map fun | .const _=>true | _=>false) (args.map a.eval)).run P w:=by
    simp only[execOp,resolve];rfl
  rw[this,hS];simp
theorem BQ(hA:Ag F a){args:Array Operand}{ts:Array TypeId}
    (h:aX P T wr ⟨dst,.call ⟨.builtin .max,args,ts⟩,ty,pos,after,guard⟩ F K):dJ P ⟨dst,.call ⟨.builtin .max,args,ts⟩,ty,pos,after,guard⟩ a K:=by
  refine dJ.of (S:=Builtin.max_ ts ty (args.map a.eval)) (cO fun c=>rfl) ?_;simp only[aX]at h;split at h
  · rename_i x r hx;obtain⟨k,n,hn,h⟩:=aW hA h;have h:=cF hA h;obtain⟨z,hk,hz⟩:=uX (P:=P) h;refine⟨.v _,_,(rfl:_=_),fun w=>?_,hk⟩;simp only[Builtin.max_,Array.toList_map,hx,List.map_cons,hn];exact hz w
  · exact h.elim
theorem BP(hA:Ag F a){args:Array Operand}{ts:Array TypeId}
    (h:aX P T wr ⟨dst,.call ⟨.builtin .min,args,ts⟩,ty,pos,after,guard⟩ F K):dJ P ⟨dst,.call ⟨.builtin .min,args,ts⟩,ty,pos,after,guard⟩ a K:=by
  refine dJ.of (S:=Builtin.min_ ts ty (args.map a.eval)) (cO fun c=>rfl) ?_;simp only[aX]at h;split at h
  · rename_i x r hx;obtain⟨k,n,hn,h⟩:=aW hA h;have h:=cF hA h;obtain⟨z,hk,hz⟩:=uY (P:=P) h;refine⟨.v _,_,(rfl:_=_),fun w=>?_,hk⟩;simp only[Builtin.min_,Array.toList_map,hx,List.map_cons,hn];exact hz w
  · exact h.elim
theorem cut0(A:OA):A.map (·.add 0)=A:=by cases A <;>simp[Addr.add]
theorem yC (hT:nN P T) (hA:Ag F a) {t:TypeId} {x:Operand} {lo hi mxo:Option Operand}
    (h:aX P T wr ⟨dst,.slice t x lo hi mxo,ty,pos,after,guard⟩ F K):dJ P ⟨dst,.slice t x lo hi mxo,ty,pos,after,guard⟩ a K:=by
  refine dJ.of (S:=Instr.sliceAt t (a.eval x) (lo.map a.eval) (hi.map a.eval) (mxo.map a.eval)) (aM (by simp only[execOp])) ?_;have bnd:∀(k:IntKind)(i:Int)(y:Nat)(c:BoundsCode)(w:World),0<=i->i<=(y:Int)->(Instr.sliceBound (.int k i) y c).run P w=.ok i.toNat w:=by
    intro k i y c w h0 h1;simp[Instr.sliceBound,asIntOf,h0,h1]
  cases mxo with
  | some m =>
    cases lo with
    | none=>simp only[aX]at h
    | some l =>
    cases hi with
    | none=>simp only[aX]at h
    | some hi =>
    simp only[aX]at h;have he:=hA.ev x;split at h
    · rename_i e _ _ _ _ ht;split at h
      · rename_i te Dt;have hu:=(hT.get ht).slice rfl;split at h
        · rename_i A n c hs;rw[hs]at he;simp only[eS]at he;obtain⟨k,i,D7,h⟩:=aW hA h;obtain⟨k',j,F8,h⟩:=aW hA h;obtain⟨k'',q,JA,h⟩:=aW hA h;obtain⟨⟨h0,h1,h2,h3,h4,h5⟩,h⟩:=h;refine⟨.v _,_,(rfl:_=_),fun w=>?_,h⟩;simp only[Option.map_some,D7,F8,JA];simp[Instr.sliceAt,Instr.slice,he,Ty.run_und w hu,Instr.sliceBounds,bnd k'' q c _ w h0 h1,bnd k' j q.toNat _ w h2 (by omega),bnd k i j.toNat _ w h4 (by omega),(hT.get Dt).sizeOf w,bM]
        · exact h.elim
      · exact h.elim
    · exact h.elim
  | none =>
    simp only[aX]at h;have he:=hA.ev x;split at h
    · rename_i e _ _ _ _ ht;split at h
      · rename_i te Dt;have hu:=(hT.get ht).slice rfl;split at h
        · rename_i A n c hs;rw[hs]at he;simp only[eS]at he
          have base:∀ (l hh m:Nat) w,(Instr.sliceBounds true n c (lo.map a.eval) (hi.map a.eval) none).run P w=.ok (l,hh,m) w →
              (Instr.sliceAt t (a.eval x) (lo.map a.eval) (hi.map a.eval) none).run P w=.ok (.slice (if m=l then A else A.map (·.add (l*te.size))) (hh-l) (m-l)) w:=by
            intro l hh m w hb;simp[Instr.sliceAt,Instr.slice,he,Ty.run_und w hu,hb,(hT.get Dt).sizeOf w]
          split at h
          · refine⟨.v _,_,(rfl:_=_),fun w=>?_,h⟩;rw[show(none:Option Operand).map a.eval=none from rfl]at base ⊢;rw[base 0 n c w (by simp[Instr.sliceBounds])];simp[cut0]
          · rename_i hv;obtain⟨k,i,D7,h⟩:=aW hA h;obtain⟨⟨h0,h1⟩,h⟩:=h;refine⟨.v _,_,(rfl:_=_),fun w=>?_,h⟩;simp only[Option.map_none,Option.map_some,D7]at base ⊢;rw[base 0 i.toNat c w (by simp[Instr.sliceBounds,bnd k i c _ w h0 h1])];simp[cut0]
          · rename_i lv;obtain⟨k,i,D7,h⟩:=aW hA h;obtain⟨⟨h0,h1⟩,h⟩:=h;refine⟨.v _,_,(rfl:_=_),fun w=>?_,h⟩;simp only[Option.map_none,Option.map_some,D7]at base ⊢;rw[base i.toNat n c w (by simp[Instr.sliceBounds,bnd k i n _ w h0 h1])];rfl
          · rename_i lv hv;obtain⟨k,i,D7,h⟩:=aW hA h;obtain⟨k',j,F8,h⟩:=aW hA h;obtain⟨⟨h0,h1,h2,h3⟩,h⟩:=h;refine⟨.v _,_,(rfl:_=_),fun w=>?_,h⟩;simp only[Option.map_none,Option.map_some,D7,F8]at base ⊢;rw[base i.toNat j.toNat c w (by simp[Instr.sliceBounds,bnd k' j c _ w h0 h1,bnd k i j.toNat _ w h2 (by omega)])];rfl
        · exact h.elim
      · exact h.elim
    · rename_i _ _ _ _ ht;have hu:=(hT.get ht).str rfl;split at h
      · rename_i s hs;rw[hs]at he;simp only[eS]at he
        have base:∀ (l hh m:Nat) w,(Instr.sliceBounds false s.size s.size (lo.map a.eval) (hi.map a.eval) none).run P w=.ok (l,hh,m) w →
            (Instr.sliceAt t (a.eval x) (lo.map a.eval) (hi.map a.eval) none).run P w=.ok (.string (s.extract l hh)) w:=by
          intro l hh m w hb;simp[Instr.sliceAt,Instr.slice,he,Ty.run_und w hu,hb]
        split at h
        · refine⟨.v _,_,(rfl:_=_),fun w=>?_,h⟩;rw[show(none:Option Operand).map a.eval=none from rfl]at base ⊢;rw[base 0 s.size s.size w (by simp[Instr.sliceBounds])]
        · rename_i hv;obtain⟨k,i,D7,h⟩:=aW hA h;obtain⟨⟨h0,h1⟩,h⟩:=h;refine⟨.v _,_,(rfl:_=_),fun w=>?_,h⟩;simp only[Option.map_none,Option.map_some,D7]at base ⊢;rw[base 0 i.toNat s.size w (by simp[Instr.sliceBounds,bnd k i s.size _ w h0 h1])]
        · rename_i lv;obtain⟨k,i,D7,h⟩:=aW hA h;obtain⟨⟨h0,h1⟩,h⟩:=h;refine⟨.v _,_,(rfl:_=_),fun w=>?_,h⟩;simp only[Option.map_none,Option.map_some,D7]at base ⊢;rw[base i.toNat s.size s.size w (by simp[Instr.sliceBounds,bnd k i s.size _ w h0 h1])]
        · rename_i lv hv;obtain⟨k,i,D7,h⟩:=aW hA h;obtain⟨k',j,F8,h⟩:=aW hA h;obtain⟨⟨h0,h1,h2,h3⟩,h⟩:=h;refine⟨.v _,_,(rfl:_=_),fun w=>?_,h⟩;simp only[Option.map_none,Option.map_some,D7,F8]at base ⊢;rw[base i.toNat j.toNat s.size w (by simp[Instr.sliceBounds,bnd k' j s.size _ w h0 h1,bnd k i j.toNat _ w h2 (by omega)])]
      · exact h.elim
    · have h:=aJ hA h;split at h
      · obtain⟨k,i,D7,h⟩:=aW hA h;obtain⟨s,v,hv,hr,h⟩:=dG h;refine⟨s,v,hv,fun w=>?_,h⟩;simp only[Option.map_none,Option.map_some,D7];exact hr w
      · exact h.elim
    · exact h.elim
theorem wW(hT:nN P T)(hA:Ag F a){o:Oper}(h:aX P T wr o F K):dJ P o a K:=by
 obtain⟨dst,op,ty,pos,after,guard⟩:=o;cases op
 case move x=>exact⟨_,_,hA.ev x,fun w=>by simp[execOp],h⟩
 case assign x=>exact⟨_,_,hA.ev x,fun w=>by simp[execOp],h⟩
 case pick=>exact AL hA h
 case nilCheck=>exact pY hA h
 case binOp=>exact yG hT hA h
 case unOp=>exact AK hA h
 case convert=>exact tD hT hA h
 case makeInterface=>exact kL hT hA h
 case makeFunc=>exact pZ hA h
 case slice=>exact yC hT hA h
 case fieldAddr=>exact pE hT hA h
 case field=>exact yE hT hA h
 case indexAddr=>exact pD hT hA h
 case index=>exact yD hT hA h
 case build=>exact yF hT hA h
 case extract=>exact tB hA h
 case call c =>
  obtain⟨callee,args,ts⟩:=c;cases callee with
  | value f=>simp only[aX]at h
  | invoke r m=>simp only[aX]at h
  | builtin b =>
   cases b
   case len=>exact BR hT hA h
   case max=>exact BQ hA h
   case min=>exact BP hA h
   all_goals simp only[aX]at h
 all_goals simp only[aX]at h
end Go.V
/-! The own library V, part 6: operations that read, and operations that act. -/
namespace Go.V
/-! ### Reading -/
def Dm(m:Nat)(C:World->Prop)(w:World)(φ:World->Prop):Prop :=
 match m with
 | 0=>∀ w',C w'->φ w'
 | _=>φ w
theorem nO{m:Nat}{C:World->Prop}{w:World}{φ ψ:World->Prop}(h:∀ w,φ w->ψ w)(hd:Dm m C w φ):Dm m C w ψ:=by
 cases m with
 | zero=>exact fun w' hC=>h _ (hd w' hC)
 | succ m=>exact h _ hd
theorem Dl{m:Nat}{C:World->Prop}{w:World}{φ ψ:World->Prop}(h:Dm m C w φ)(k:Dm m C w ψ):Dm m C w (fun w=>φ w/\ψ w):=by
 cases m with
 | zero=>exact fun w' hC=>⟨h w' hC,k w' hC⟩
 | succ m=>exact⟨h,k⟩
theorem CT{m:Nat}{C:World->Prop}{w:World}{φ:World->Prop}(h:∀ w,φ w):Dm m C w φ:=by
 cases m with
 | zero=>exact fun w' _=>h w'
 | succ m=>exact h w
def tI(D:(World->Prop)->Prop)(a:Addr):Nat->List Sh->(List Value->Prop)->Prop
 | _,[],K=>K []
 | i,s ::r,K=>yK s fun _ v=>D (fun w=>w.cell? (a.add i)=some v)/\tI D a (i+1) r fun vs=>K (v ::vs)
def jU(P:Program)(T:pJ)(o:Oper)(F:Fr)(D:(World->Prop)->Prop)(K:SV->Prop):Prop :=
 match o.op with
 | .load t x=>wX F x fun a=>(match tf T t with
  | some te=>bif te.ld.agg then(bif Nat.beq te.shs.length te.size then tI D a 0 te.shs fun cs=>K (.v (.agg cs.toArray)) else False)
   else yK (te.shs.headD .any) fun s v=>D (fun w=>w.cell? a=some v)/\K s
  | none=>False)
 | .lookup t x i ok=>vv F x fun m=>vv F i fun k=>wS T o.type fun s v=>D (fun w=>(Instr.lookup t m k ok).run P w=.ok v w)/\K s
 | .call { callee:=.builtin .len,args,argTypes }=>wR F args.toList fun vs=>wS T o.type fun s v=>D (fun w=>(Builtin.len_ argTypes o.type vs.toArray).run P w=.ok v w)/\K s
 | .convert src dst x=>vv F x fun m=>wS T o.type fun s v=>D (fun w=>(Go.convert src dst m).run P w=.ok v w)/\K s
 | _=>False
section
variable {P : Program} {T : pJ} {F : Fr} {a : Act} {dst : Option Tmp} {ty : TypeId} {pos : String} {after : Array Edge} {guard : Option (Nat × Bool)} {m : Nat} {C : World → Prop} {w : World}
theorem eR{ad:Addr}{w:World}:∀(vs:List Value)(i:Nat)(acc:Array Value),(∀ j v,vs[j]?=some v->w.cell? (ad.add (i+j))=some v)->(loadCellsFrom ad i vs.length acc).run P w=.ok (acc++vs.toArray) w
 | [],i,acc,_=>by simp[loadCellsFrom]
 | v ::r,i,acc,h=>by
  have h0:=h 0 v (by simp);simp only[Nat.add_zero]at h0;simp only[List.length_cons,loadCellsFrom,Sem.run_bind];have:(load (ad.add i)).run P w=.ok v w:=by simp[load,Sem.run,h0]
  rw[this];simp only[Result.andThen_ok];rw[eR r (i+1) (acc.push v) (fun j u hu=>by
   have:=h (j+1) u (by simpa using hu);rw[show i+1+j=i+(j+1) by omega];exact this)]
  congr 1;apply Array.toList_inj.1;simp
theorem jK{D:(World->Prop)->Prop}(IX:∀ φ ψ:World->Prop,D φ->D ψ->D (fun w=>φ w/\ψ w))(IW:∀ φ ψ:World->Prop,(∀ w,φ w->ψ w)->D φ->D ψ)(IV:∀ φ:World->Prop,(∀ w,φ w)->D φ){ad:Addr}:
    ∀ {ss:List Sh} {i:Nat} {K:List Value->Prop},tI D ad i ss K->∃ vs,vs.length=ss.length/\D (fun w=>∀ j v,vs[j]?=some v->w.cell? (ad.add (i+j))=some v)/\K vs
  | [],i,K,h=>⟨[],rfl,IV _ (by simp),h⟩
  | s ::r,i,K,h=>by
    obtain⟨_,v,_,h1,h2⟩:=hZ h;obtain⟨vs,hl,h3,h4⟩:=jK IX IW IV h2;refine⟨v ::vs,by simp[hl],IW _ _ ?_ (IX _ _ h1 h3),h4⟩;rintro w ⟨h1,h3⟩ j u hu;cases j with
    | zero=>simp at hu;subst hu;exact h1
    | succ j=>rw[show i+(j+1)=i+1+j by omega];exact h3 j u (by simpa using hu)
theorem wV (hT:nN P T) (hA:Ag F a) {o:Oper} {K:SV->Prop} (h:jU P T o F (Dm m C w) K) :
    ∃ s v,eS s v/\Dm m C w (fun w=>(execOp a.eval o).run P w=.ok (.value v) w)/\K s:=by
  obtain⟨dst,op,ty,pos,after,guard⟩:=o
  have fin:∀ {S:Sem Value} {o:Oper},(∀ w,(execOp a.eval o).run P w=(S.run P w).andThen fun v w'=>.ok (.value v) w')->(∃ s v,eS s v/\Dm m C w (fun w=>S.run P w=.ok v w)/\K s) →
      ∃ s v,eS s v/\Dm m C w (fun w=>(execOp a.eval o).run P w=.ok (.value v) w)/\K s:=by
    rintro S o hS ⟨s,v,h1,h2,h3⟩;exact⟨s,v,h1,nO (fun w h=>by rw[hS,h];rfl) h2,h3⟩
  cases op
  case load t x =>
    refine fin (S:=Instr.loadAt t (a.eval x)) (aM (by simp only[execOp])) ?_;simp only[jU]at h;obtain⟨ad,hx,h⟩:=gL hA h;split at h
    · rename_i te Dt;cases hb:te.ld.agg with
      | true =>
        rw[hb]at h;simp only[cond_true]at h;cases hl:Nat.beq te.shs.length te.size with
        | false=>rw[hl]at h;exact h.elim
        | true =>
          rw[hl]at h;simp only[cond_true]at h;obtain⟨vs,Dx,hD,hK⟩:=jK (fun _ _=>Dl) (fun _ _=>nO) (fun _=>CT) h;refine⟨.v _,_,(rfl:_=_),nO (fun w hw=>?_) hD,hK⟩;have hs:te.size=vs.length:=by rw[Dx];exact(Nat.eq_of_beq_eq_true hl).symm
          simp only[Instr.loadAt,hx,Instr.sureAddr,pure_bind,loadVar,Sem.run_bind,(hT.get Dt).isAgg w,Result.andThen_ok,hb,if_true,(hT.get Dt).sizeOf w,loadCells,hs];rw[eR vs 0 #[] hw];simp
      | false =>
        rw[hb]at h;simp only[cond_false]at h;obtain⟨s,v,h1,h2,h3⟩:=hZ h;refine⟨s,v,h1,nO (fun w hw=>?_) h2,h3⟩;simp[Instr.loadAt,hx,Instr.sureAddr,loadVar,(hT.get Dt).isAgg w,hb,load,Sem.run,hw]
    · exact h.elim
  case lookup t x i ok =>
    simp only[jU]at h;refine fin (S:=Instr.lookup t (a.eval x) (a.eval i) ok) (aM (by simp only[execOp])) ?_;exact dG (aJ hA (aJ hA h)) |>.elim fun s ⟨v,h1,h2,h3⟩=>⟨s,v,h1,h2,h3⟩
  case convert src d x =>
    simp only[jU]at h;refine fin (S:=Go.convert src d (a.eval x)) (aM (by simp only[execOp])) ?_;exact dG (aJ hA h) |>.elim fun s ⟨v,h1,h2,h3⟩=>⟨s,v,h1,h2,h3⟩
  case call c =>
    obtain⟨callee,args,ts⟩:=c;cases callee with
    | value f=>simp only[jU]at h
    | invoke r m=>simp only[jU]at h
    | builtin b =>
      cases b
      case len =>
        simp only[jU]at h;refine fin (S:=Builtin.len_ ts ty (args.map a.eval)) (cO fun c=>rfl) ?_;have h:=cF hA h;rw[show(List.map a.eval args.toList).toArray=args.map a.eval from by apply Array.toList_inj.1;simp]at h;exact dG h |>.elim fun s ⟨v,h1,h2,h3⟩=>⟨s,v,h1,h2,h3⟩
      all_goals simp only[jU]at h
  all_goals simp only[jU]at h
end
/-! ### Acting -/
def nH(a:Addr):Nat->List Value->World->(World->Prop)->Prop
 | _,[],w,K=>K w
 | i,v ::r,w,K=>bif v.oneCell' then(∃ u,w.cell? (a.add i)=some u)/\w.frozen? (a.add i)=false/\nH a (i+1) r (w.setCell (a.add i) v) K else False
def hO(P:Program)(T:pJ)(t:Nat)(S:Sem Value)(w:World)(K:SV->World->Prop):Prop :=
 wS T t fun s v=>∃ w',S.run P w=.ok v w'/\K s w'
def BO(P:Program)(S:Sem Unit)(w:World)(K:SV->World->Prop):Prop:=∃ w',S.run P w=.ok () w'/\K .un w'
def eL (P:Program) (T:pJ) (fs:List Nat) (et:List Nat) (o:Oper) (F:Fr) (w:World) (K:SV->World->Prop):Prop :=
  match o.op with
  | .store t x y=>wX F x fun a=>vv F y fun v=>(match tf T t with
    | some te=>bif Nat.beq v.cells.size te.size then(bif te.ld.agg then nH a 0 v.cells.toList w (K .un) else
        bif v.oneCell' then(∃ u,w.cell? a=some u)/\w.frozen? a=false/\K .un (w.setCell a v) else False) else False
    | none=>False)
  | .box t x=>vv F x fun v=>K (.v (.pointer (some ⟨w.heap.size,0,none⟩))) (w.alloc (.cells v.cells t))
  | .alloc t=>(match tf T t with
    | some te=>K (.v (.pointer (some ⟨w.heap.size,0,none⟩))) (w.alloc (.cells te.zero.cells t))
    | none=>False)
  | .buildSlice t n parts=>(match tf T t with
    | some ⟨.slice e,_,_,_,_⟩=>(match tf T e with
      | some te=>bif Nat.ble (n*te.size) 16777216 then Dn F parts.toList fun vs=>(match Instr.fill (fun i=>some (i*te.size,te.size)) ((Array.range (n*te.size)).map (te.zero.cells[· % te.zero.cells.size]!)) vs with
        | some cells=>K (.v (.slice (some ⟨w.heap.size,0,none⟩) n n)) (w.alloc (.cells cells e))
        | none=>False) else False
      | none=>False)
    | _=>False)
  | .makeMap _ none=>K (.v (.map (some w.heap.size))) (w.alloc (.map #[] 0))
  | .makeMap t (some x)=>vv F x fun v=>hO P T o.type (Instr.makeMap t (some v)) w K
  | .makeSlice t l c=>vv F l fun l=>vv F c fun c=>hO P T o.type (Instr.makeSlice t l c) w K
  | .convert src dst x=>vv F x fun v=>hO P T o.type (Go.convert src dst v) w K
  | .typeAssert x t u ok=>vv F x fun v=>hO P T o.type (Instr.typeAssert v t u ok) w K
  | .makeInterface t x=>vv F x fun v=>hO P T o.type (Instr.makeInterface t v) w K
  | .mapEntry t m k=>vv F m fun m=>vv F k fun k=>hO P T o.type (Instr.mapEntry t m k) w K
  | .mapUpdate t m k x | .insert t m k x=>vv F m fun m=>vv F k fun k=>vv F x fun x=>BO P (Instr.mapUpdate t m k x) w K
  | .entryStore t m s x=>vv F m fun m=>vv F s fun s=>vv F x fun x=>BO P (Instr.entryStore t m s x) w K
  | .range t x=>vv F x fun v=>∃(p:OA)(w':World),(Instr.range t v).run P w=.ok (.pointer p) w'/\K (.v (.pointer p)) w'
  | .next it true=>vv F it fun v=>∃ w':World,((Instr.next v true o.type).run P w=.ok (.tuple #[.bool false]) w'/\K (.v (.tuple #[.bool false])) w')∨∃(k x:Int),(Instr.next v true o.type).run P w=.ok (.tuple #[.bool true,.int .i64 k,.int .i32 x]) w'/\K (.v (.tuple #[.bool true,.int .i64 k,.int .i32 x])) w'
  | .next it false=>vv F it fun v=>∃ w':World,((Instr.next v false o.type).run P w=.ok (.tuple #[.bool false]) w'/\K (.v (.tuple #[.bool false])) w')∨∃(k x:Value),(Instr.next v false o.type).run P w=.ok (.tuple #[.bool true,k,x]) w'/\K (.v (.tuple #[.bool true,k,x])) w'
  | .entry it=>vv F it fun v=>vR T et fun vs=>∃ w':World,(Instr.entry v).run P w=.ok (.tuple vs.toArray) w'/\K (.v (.tuple vs.toArray)) w'
  | .binOp op t x y _=>vv F x fun a=>vv F y fun b=>hO P T o.type (do eqGuard op t x y a b;Go.binOp op t a b) w K
  | .call { callee:=.builtin .append,args,argTypes }=>wR F args.toList fun vs=>hO P T o.type (Builtin.append_ argTypes o.type vs.toArray) w K
  | .call { callee:=.builtin .copy,args,argTypes }=>wR F args.toList fun vs=>hO P T o.type (Builtin.copy_ argTypes o.type vs.toArray) w K
  | .call { callee:=.builtin .delete,args,argTypes }=>wR F args.toList fun vs=>hO P T o.type (Builtin.delete_ argTypes o.type vs.toArray) w K
  | .call { callee:=.builtin .clear,args,argTypes }=>wR F args.toList fun vs=>hO P T o.type (Builtin.clear_ argTypes o.type vs.toArray) w K
  | .call { callee:=.builtin .cap,args,argTypes }=>wR F args.toList fun vs=>hO P T o.type (Builtin.cap_ argTypes o.type vs.toArray) w K
  | .call { callee:=.value f,args,.. }=>(match ev F f with
    | .v (.func (.func g) first captured)=>bif fs.contains g then wR F args.toList fun vs =>
        Calls P g (first.toList++(vs++captured.toList)).toArray w fun e w'=>wS T o.type fun s v=>e=.returned v/\K s w'
      else wR F args.toList fun vs=>wS T o.type fun s v=>∃ w':World,(callFunc g (first.toList++(vs++captured.toList)).toArray).run P w=.ok (.value v) w'/\K s w'
    | _=>False)
  | .call { callee:=.invoke r m,args,.. }=>vv F r fun rv=>wR F args.toList fun vs=>∃(g:Nat)(as:List Value),(callMethod rv m vs.toArray).run P w=.ok (.enter g as.toArray) w ∧
      Calls P g as.toArray w fun e w'=>wS T o.type fun s v=>e=.returned v/\K s w'
  | _=>False
def CR(P:Program)(fs:List Nat):Prop:=∀ g∈fs,∀ args w,(callFunc g args).run P w=.ok (.enter g args) w
section
variable {P : Program} {T : pJ} {fs et : List Nat} {F : Fr} {a : Act} {w : World} {K : SV → World → Prop}
def wQ(P:Program)(o:Oper)(a:Act)(w:World)(K:SV->World->Prop):Prop :=
 o.wp P a w (fun a' w'=>∃ s v,a'=a.put o.dst v/\eS s v/\K s w') xP
theorem bE{o:Oper}{S:Sem Value}(ho:(execOp a.eval o).run P w=(S.run P w).andThen fun v w'=>.ok (.value v) w')(h:∃ s v,eS s v/\∃ w',S.run P w=.ok v w'/\K s w'):wQ P o a w K:=by
 obtain⟨s,v,h1,w',h2,h3⟩:=h;unfold wQ Oper.wp;rw[ho,h2];exact⟨s,v,rfl,h1,h3⟩
theorem jS{o:Oper}{S:Sem Unit}(ho:(execOp a.eval o).run P w=(S.run P w).andThen fun _ w'=>.ok .skip w')(h:∃ w',S.run P w=.ok () w'/\K .un w'):wQ P o a w K:=by
 obtain⟨w',h2,h3⟩:=h;unfold wQ Oper.wp;rw[ho,h2];exact⟨.un,undef,rfl,trivial,h3⟩
theorem jP{ρ:Operand->Value}{o:Oper}{S:Sem Unit}(h:execOp ρ o=(do S;pure Next.skip))(w:World):(execOp ρ o).run P w=(S.run P w).andThen fun _ w'=>.ok .skip w':=by
 rw[h];simp only[Sem.run_bind];rfl
theorem jA{ad:Addr}:∀ {vs:List Value} {i:Nat} {w:World} {K:World->Prop},nH ad i vs w K->∃ w',(storeCells ad vs i).run P w=.ok () w'/\K w'
 | [],i,w,K,h=>⟨w,by simp[storeCells],h⟩
 | v ::r,i,w,K,h=>by
  unfold nH at h;cases hb:v.oneCell' with
  | false=>rw[hb]at h;exact h.elim
  | true =>
   rw[hb]at h;obtain⟨⟨u,hu⟩,hf,h⟩:=h;obtain⟨w',h1,h2⟩:=jA h;refine⟨w',?_,h2⟩;have:(store (ad.add i) v).run P w=.ok () (w.setCell (ad.add i) v):=by
    cases v <;>simp_all [store,Sem.run,Value.oneCell']
   simp only[storeCells,Sem.run_bind,this,Result.andThen_ok,h1]
theorem cE{t:Nat}{S:Sem Value}(h:hO P T t S w K):∃ s v,eS s v/\∃ w',S.run P w=.ok v w'/\K s w':=dG h
theorem iG(e:TypeId)(cs:Array Value)(w:World):(newRow e cs).run P w=.ok ⟨w.heap.size,0,none⟩ (w.alloc (.cells cs e)):=by
 rfl
theorem Al(hT:nN P T)(DN:CR P fs)(hA:Ag F a){o:Oper}(h:eL P T fs et o F w K):wQ P o a w K:=by
 obtain⟨dst,op,ty,pos,after,guard⟩:=o;have arr:∀(args:Array Operand),(List.map a.eval args.toList).toArray=args.map a.eval:=fun args=>by apply Array.toList_inj.1;simp
 cases op
 case store t x y =>
  refine jS (S:=Instr.storeAt t (a.eval x) (a.eval y)) (jP (by simp only[execOp]) w) ?_;simp only[eL]at h;obtain⟨ad,hx,h⟩:=gL hA h;have h:=aJ hA h;split at h
  ·rename_i te Dt;cases hb:Nat.beq (a.eval y).cells.size te.size with
   | false=>rw[hb]at h;exact h.elim
   | true =>
    rw[hb]at h;simp only[cond_true]at h;have hs:(a.eval y).cells.size=te.size:=Nat.eq_of_beq_eq_true hb;have base:∀ w',(storeCells ad (a.eval y).cells.toList).run P w=.ok () w'->(Instr.storeAt t (a.eval x) (a.eval y)).run P w=.ok () w':=by
     intro w' hw;simp[Instr.storeAt,hx,Instr.sureAddr,storeVar,(hT.get Dt).sizeOf w,hs,hw]
    cases hg:te.ld.agg with
    | true =>
     rw[hg]at h;obtain⟨w',h1,h2⟩:=jA (P:=P) h;exact⟨w',base w' h1,h2⟩
    | false =>
     rw[hg]at h;simp only[cond_false]at h;cases ho:(a.eval y).oneCell' with
     | false=>rw[ho]at h;exact h.elim
     | true =>
      rw[ho]at h;simp only[cond_true]at h;obtain⟨⟨u,hu⟩,hf,h⟩:=h;refine⟨_,base _ ?_,h⟩;have hc:(a.eval y).cells.toList=[a.eval y]:=by
       generalize a.eval y=v at *;cases v <;>simp_all [Value.cells,Value.oneCell']
      have h0:ad.add 0=ad:=by simp[Addr.add]
      rw[hc];have:(store (ad.add 0) (a.eval y)).run P w=.ok () (w.setCell ad (a.eval y)):=by
       rw[h0];generalize a.eval y=v at *;cases v <;>simp_all [store,Sem.run,Value.oneCell']
      simp only[storeCells,Sem.run_bind,this,Result.andThen_ok];rfl
  ·exact h.elim
 case box t x =>
  refine bE (S:=Instr.box t (a.eval x)) (aM (by simp only[execOp]) w) ?_;simp only[eL]at h;have h:=aJ hA h;exact⟨.v _,_,(rfl:_=_),_,by simp only[Instr.box,newVar,Sem.run_bind,iG,Result.andThen_ok];rfl,h⟩
 case alloc t =>
  refine bE (S:=Instr.alloc t true (.tuple #[])) (aM (by simp only[execOp]) w) ?_;simp only[eL]at h;split at h
  ·rename_i te Dt;exact⟨.v _,_,(rfl:_=_),_,by simp only[Instr.alloc,newVar,Sem.run_bind,(hT.get Dt).zeroValue w,iG,Result.andThen_ok];rfl,h⟩
  ·exact h.elim
 case buildSlice t n parts =>
  refine bE (S:=Instr.buildSlice t n (parts.map fun(i,x)=>(i,a.eval x))) (aM (by simp only[execOp]) w) ?_;simp only[eL]at h;split at h
  ·rename_i e _ _ _ _ ht;split at h
   ·rename_i te Dt;cases hb:Nat.ble (n*te.size) 16777216 with
    | false=>rw[hb]at h;exact h.elim
    | true =>
     rw[hb]at h;simp only[cond_true]at h;have h:=kP hA h;split at h
     ·rename_i cells hc;refine⟨.v _,_,(rfl:_=_),_,?_,h⟩;have DV:¬ (n*te.size>2^24):=by
       have:=Nat.le_of_ble_eq_true hb;omega
      have hl:(parts.map fun(i,x)=>(i,a.eval x)).toList=parts.toList.map (fun p=>(p.1,a.eval p.2)):=by simp
      simp only[Instr.buildSlice,Sem.run_bind,Ty.run_und w ((hT.get ht).slice rfl),Result.andThen_ok,(hT.get Dt).sizeOf w,if_neg DV];rw[hl];by_cases hz:n*te.size=0
      ·rw[if_pos hz];rw[pure_bind];have e0:(Array.range (n*te.size)).map ((#[]:Array Value)[· % (#[]:Array Value).size]!)=(Array.range (n*te.size)).map (te.zero.cells[· % te.zero.cells.size]!):=by
        rw[hz];simp
       rw[e0,hc];simp only[Sem.run_bind,iG,Result.andThen_ok];rfl
      ·rw[if_neg hz];simp only[Sem.run_bind,(hT.get Dt).zeroValue w,Sem.run_pure,Result.andThen_ok];rw[hc];simp only[Sem.run_bind,iG,Result.andThen_ok];rfl
     ·exact h.elim
   ·exact h.elim
  ·exact h.elim
 case makeMap t r =>
  cases r with
  | none =>
   refine bE (S:=Instr.makeMap t none) (aM (by simp only[execOp,Option.map_none]) w) ?_;simp only[eL]at h;exact⟨.v _,_,(rfl:_=_),_,rfl,h⟩
  | some x =>
   refine bE (S:=Instr.makeMap t (some (a.eval x))) (aM (by simp only[execOp,Option.map_some]) w) ?_;simp only[eL]at h;exact cE (aJ hA h)
 case makeSlice t l c =>
  refine bE (S:=Instr.makeSlice t (a.eval l) (a.eval c)) (aM (by simp only[execOp]) w) ?_;simp only[eL]at h;exact cE (aJ hA (aJ hA h))
 case convert src d x =>
  refine bE (S:=Go.convert src d (a.eval x)) (aM (by simp only[execOp]) w) ?_;simp only[eL]at h;exact cE (aJ hA h)
 case typeAssert x t u ok =>
  refine bE (S:=Instr.typeAssert (a.eval x) t u ok) (aM (by simp only[execOp]) w) ?_;simp only[eL]at h;exact cE (aJ hA h)
 case makeInterface t x =>
  refine bE (S:=Instr.makeInterface t (a.eval x)) (aM (by simp only[execOp]) w) ?_;simp only[eL]at h;exact cE (aJ hA h)
 case mapEntry t m k =>
  refine bE (S:=Instr.mapEntry t (a.eval m) (a.eval k)) (aM (by simp only[execOp]) w) ?_;simp only[eL]at h;exact cE (aJ hA (aJ hA h))
 case mapUpdate t m k x =>
  refine jS (S:=Instr.mapUpdate t (a.eval m) (a.eval k) (a.eval x)) (jP (by simp only[execOp]) w) ?_;simp only[eL]at h;exact aJ hA (aJ hA (aJ hA h))
 case insert t m k x =>
  refine jS (S:=Instr.mapUpdate t (a.eval m) (a.eval k) (a.eval x)) (jP (by simp only[execOp]) w) ?_;simp only[eL]at h;exact aJ hA (aJ hA (aJ hA h))
 case entryStore t m s x =>
  refine jS (S:=Instr.entryStore t (a.eval m) (a.eval s) (a.eval x)) (jP (by simp only[execOp]) w) ?_;simp only[eL]at h;exact aJ hA (aJ hA (aJ hA h))
 case range t x =>
  refine bE (S:=Instr.range t (a.eval x)) (aM (by simp only[execOp]) w) ?_;simp only[eL]at h;obtain⟨p,w',h1,h2⟩:=aJ hA h;exact⟨.v _,_,(rfl:_=_),w',h1,h2⟩
 case next it s =>
  refine bE (S:=Instr.next (a.eval it) s ty) (aM (by simp only[execOp]) w) ?_;cases s with
  | true =>
   simp only[eL]at h;obtain⟨w',⟨h1,h2⟩ | ⟨k,x,h1,h2⟩⟩:=aJ hA h
   ·exact⟨.v _,_,(rfl:_=_),w',h1,h2⟩
   ·exact⟨.v _,_,(rfl:_=_),w',h1,h2⟩
  | false =>
   simp only[eL]at h;obtain⟨w',⟨h1,h2⟩ | ⟨k,x,h1,h2⟩⟩:=aJ hA h
   ·exact⟨.v _,_,(rfl:_=_),w',h1,h2⟩
   ·exact⟨.v _,_,(rfl:_=_),w',h1,h2⟩
 case entry it =>
  refine bE (S:=Instr.entry (a.eval it)) (aM (by simp only[execOp]) w) ?_;simp only[eL]at h;obtain⟨vs,w',h1,h2⟩:=kM (aJ hA h);exact⟨.v _,_,(rfl:_=_),w',h1,h2⟩
 case binOp op t x y yt =>
  refine bE (S:=do eqGuard op t x y (a.eval x) (a.eval y);Go.binOp op t (a.eval x) (a.eval y)) (aM (by simp only[execOp]) w) ?_;simp only[eL]at h;exact cE (aJ hA (aJ hA h))
 case call c =>
  obtain⟨callee,args,ts⟩:=c;cases callee with
  | invoke r m =>
   simp only[eL]at h;obtain⟨g,as,h1,h2⟩:=cF hA (aJ hA h);rw[arr]at h1;unfold wQ Oper.wp;have Dw:(execOp a.eval ⟨dst,.call ⟨.invoke r m,args,ts⟩,ty,pos,after,guard⟩).run P w=.ok (.enter g as.toArray) w:=by
    have e0:(#[a.eval r]++args.map a.eval)[0]?=some (a.eval r):=by rw[Array.getElem?_append_left (by exact Nat.zero_lt_one)];rfl
    have e1:(#[a.eval r]++args.map a.eval).extract 1 (#[a.eval r]++args.map a.eval).size=args.map a.eval:=by
     apply Array.toList_inj.1;simp;exact List.take_of_length_le (by simp)
    simp only[execOp,resolve,pure_bind,invoke,e0,e1];exact h1
   rw[Dw];refine h2.mono fun e w' hw=>?_;obtain⟨s,v,h1,rfl,h3⟩:=dG hw;exact⟨s,v,rfl,h1,h3⟩
  | builtin b =>
   cases b
   case append =>
    simp only[eL]at h;have h:=cF hA h;rw[arr]at h;exact bE (S:=Builtin.append_ ts ty (args.map a.eval)) (cO (fun c=>rfl) w) (cE h)
   case copy =>
    simp only[eL]at h;have h:=cF hA h;rw[arr]at h;exact bE (S:=Builtin.copy_ ts ty (args.map a.eval)) (cO (fun c=>rfl) w) (cE h)
   case delete =>
    simp only[eL]at h;have h:=cF hA h;rw[arr]at h;exact bE (S:=Builtin.delete_ ts ty (args.map a.eval)) (cO (fun c=>rfl) w) (cE h)
   case clear =>
    simp only[eL]at h;have h:=cF hA h;rw[arr]at h;exact bE (S:=Builtin.clear_ ts ty (args.map a.eval)) (cO (fun c=>rfl) w) (cE h)
   case cap =>
    simp only[eL]at h;have h:=cF hA h;rw[arr]at h;exact bE (S:=Builtin.cap_ ts ty (args.map a.eval)) (cO (fun c=>rfl) w) (cE h)
   all_goals simp only[eL]at h
  | value f =>
   simp only[eL]at h;have hf:=hA.ev f;split at h
   ·rename_i g first captured he
    rw[he]at hf;simp only[eS]at hf;cases hg:fs.contains g with
    | false =>
     rw[hg]at h;simp only[cond_false]at h;obtain⟨s,v,h1,w',h2,h3⟩:=dG (cF hA h);unfold wQ Oper.wp;have Dw:(execOp a.eval ⟨dst,.call ⟨.value f,args,ts⟩,ty,pos,after,guard⟩).run P w=.ok (.value v) w':=by
      simp only[execOp,resolve,hf,Deferred.ofValue,pure_bind,invoke];rw[← h2];congr 2;apply Array.toList_inj.1;simp
     rw[Dw];exact⟨s,v,rfl,h1,h3⟩
    | true =>
     rw[hg]at h;simp only[cond_true]at h;have h:=cF hA h;have FC:=DN g (List.contains_iff_mem.1 hg);unfold wQ Oper.wp;have Dw:(execOp a.eval ⟨dst,.call ⟨.value f,args,ts⟩,ty,pos,after,guard⟩).run P w=.ok (.enter g (first.toList++(List.map a.eval args.toList++captured.toList)).toArray) w:=by
      simp only[execOp,resolve,hf,Deferred.ofValue,pure_bind,invoke];rw[FC];congr 2;apply Array.toList_inj.1;simp
     rw[Dw];refine h.mono fun e w' hw=>?_;obtain⟨s,v,h1,rfl,h3⟩:=dG hw;exact⟨s,v,rfl,h1,h3⟩
   ·exact h.elim
 all_goals simp only[eL]at h
end
end Go.V
/-! The own library V, part 7: a function's whole text: what must hold for a call of it to come to an end as told. -/
namespace Go.V
structure Cx where
 P:Program
 T:pJ
 fs:List Nat
 n:Nat
structure Ra where
 wr:List Nat
 ql:List Nat
 waits:dI
 et:List Nat:=[]
inductive Sk where
 | reg (a:Ra)
 | regX (a:Ra) (t:XT)
 | seq (x y:Sk)
 | cond (x y:Sk)
 | join (J:List (Nat×Sh)) (W:List Nat) (x:Sk)
 | block (x:Sk)
 | loop (J:List (Nat×Sh)) (W:List Nat) (x:Sk)
 | leaf
def zX:Option TE->Bool
 | some ⟨.int _,_,_,_,_⟩=>true
 | _=>false
def sF:Option TE->Bool
 | some ⟨.str,_,_,_,_⟩=>true
 | _=>false
def Av:Option TE->Bool
 | some ⟨.slice _,_,_,_,_⟩=>true
 | _=>false
def Cw:Option TE->Bool
 | some ⟨.map _ _,_,_,_,_⟩=>true
 | _=>false
def iN(T:pJ)(o:Oper):Nat :=
 match o.op with
 | .load .. | .lookup ..=>1
 | .move _ | .assign _ | .pick .. | .nilCheck _ | .binOp .. | .unOp .. | .fieldAddr .. | .field .. | .indexAddr .. | .index .. | .slice .. | .build .. | .makeFunc .. | .extract .. | .makeInterface ..=>0
 | .convert src dst _=>if zX (tf T src) && zX (tf T dst) || sF (tf T src) && sF (tf T dst) then 0 else if Av (tf T src) && sF (tf T dst) then 1 else 2
 | .call { callee:=.builtin .len,argTypes,.. }=>(match argTypes[0]? with
  | some t=>if Cw (tf T t) then 1 else 0
  | none=>2)
 | .call { callee:=.builtin .max,.. } | .call { callee:=.builtin .min,.. }=>0
 | _=>2
def kinds(T:pJ)(ql:List Nat)(ops:List Oper):dT:=fun i =>
 match ops[i]? with
 | some o=>let k:=iN T o;bif ql.contains i && Nat.beq k 1 then 0 else k
 | none=>2
def uB(n:Nat)(F:Fr)(dst:Option Tmp)(s:SV)(K:Fr->Prop):Prop :=
 match dst with
 | none=>K F
 | some d=>bif Nat.blt d n then K (upd F d s) else False
def inC(C:Option (World->Prop))(w:World)(φ:Prop):Prop :=
 match C with
 | none=>φ
 | some C=>C w/\φ
def eU(C:Option (World->Prop)):World->Prop :=
 match C with
 | none=>fun _=>True
 | some C=>C
def Cf(cx:Cx)(et:List Nat)(wr:Bool)(m:Nat)(C:Option (World->Prop))(o:Oper)(F:Fr)(w:World)(K:Fr->World->Prop):Prop :=
 match iN cx.T o with
 | 0=>aX cx.P cx.T wr o F fun s=>uB cx.n F o.dst s fun F'=>K F' w
 | 1=>jU cx.P cx.T o F (Dm m (eU C) w) fun s=>uB cx.n F o.dst s fun F'=>K F' w
 | _=>eL cx.P cx.T cx.fs et o F w fun s w'=>inC C w' (uB cx.n F o.dst s fun F'=>K F' w')
def nC(cx:Cx)(a:Ra)(C:Option (World->Prop))(ops:List Oper):List (Nat×Oper)->Fr->World->(Fr->World->Prop)->Prop
 | [],F,w,K=>K F w
 | (i,o) ::r,F,w,K =>
  let go (F:Fr):Prop:=Cf cx a.et (a.wr.contains i) (bif a.ql.contains i then 0 else 1) C o F w fun F' w'=>nC cx a C ops r F' w' K;let skip (F:Fr):Prop:=uB cx.n F o.dst (.v undef) fun F'=>nC cx a C ops r F' w K
  match o.guard with
  | none=>go F
  | some (j,want)=>(match (ops[j]?).bind (·.dst)with
   | none=>False
   | some t=>bif Nat.blt t cx.n then(match F t with
    | .v (.bool true)=>bif want then go F else skip F
    | .v (.bool false)=>bif want then skip F else go F
    | .v (.tuple _)=>skip F
    | .b c=>(c=true->bif want then go (upd F t (.v (.bool true))) else skip (upd F t (.v (.bool true))))/\(c=false->bif want then skip (upd F t (.v (.bool false))) else go (upd F t (.v (.bool false))))
    | .p q _=>(q->bif want then go (upd F t (.v (.bool true))) else skip (upd F t (.v (.bool true))))/\(¬ q->bif want then skip (upd F t (.v (.bool false))) else go (upd F t (.v (.bool false))))
    | _=>False) else False)
def C3(cx:Cx)(a:Ra)(ops:List Oper)(draw:Bool)(F:Fr)(w:World)(K:Fr->World->Prop):Prop :=
 bif draw then
  bif AF ops (kinds cx.T a.ql ops) a.waits then
   (match a.ql with
   | []=>nC cx a none ops (eT 0 ops) F w.drew K
   | _=>∃ C:World->Prop,C w.drew/\nC cx a (some C) ops (eT 0 ops) F w.drew K)
  else False
 else nC cx a none ops (eT 0 ops) F w K
def vxt(cx:Cx)(a:Ra)(C:Option (World->Prop))(ops:List Oper)(F:Fr)(w:World)(K:Fr->World->Prop):XT->Prop
 | .leaf L=>nC cx a C ops (pick ops L) F w K
 | .split _ _ x y=>vxt cx a C ops F w K x/\vxt cx a C ops F w K y
 | .dead _=>True
def Bh(cx:Cx)(a:Ra)(t:XT)(ops:List Oper)(draw:Bool)(F:Fr)(w:World)(K:Fr->World->Prop):Prop :=
 bif draw then
  bif Cu ops (kinds cx.T a.ql ops) a.waits t then
   (match a.ql with
   | []=>vxt cx a none ops F w.drew K t
   | _=>∃ C:World->Prop,C w.drew/\vxt cx a (some C) ops F w.drew K t)
  else False
 else False
section
variable {cx : Cx} {F : Fr} {a : Act} {w : World}
structure St(cx:Cx)(F:Fr)(a:Act):Prop where
 ag:Ag F a
 size:a.tmps.size=cx.n
 defers:a.defers=[]
theorem Bu(a:Act)(d:Option Tmp)(v:Value):(a.put d v).tmps.size=a.tmps.size:=by cases d <;>simp[Act.put]
theorem yO(a:Act)(d:Option Tmp)(v:Value):(a.put d v).defers=a.defers:=by cases d <;>rfl
theorem gK(hS:St cx F a){d:Option Tmp}{s:SV}{v:Value}(hs:eS s v){K:Fr->Prop}(h:uB cx.n F d s K):∃ F',St cx F' (a.put d v)/\K F':=by
 cases d with
 | none=>exact⟨F,hS,h⟩
 | some d =>
  simp only[uB]at h;cases hb:Nat.blt d cx.n with
  | false=>rw[hb]at h;exact h.elim
  | true =>
   rw[hb]at h;have hd:d<cx.n:=by simpa[Nat.blt_eq]using hb
   exact⟨_,⟨hS.ag.put hS.size hd hs,by rw[Bu];exact hS.size,by rw[yO];exact hS.defers⟩,h⟩
theorem St.known(hS:St cx F a){t:Nat}{c:Bool}(h:eS (.v (.bool c)) (a.tmps.getD t undef)):St cx (upd F t (.v (.bool c))) a:=by
 refine⟨fun u=>?_,hS.size,hS.defers⟩;unfold upd;cases hb:Nat.beq u t with
 | true =>
  have:u=t:=Nat.eq_of_beq_eq_true hb;subst this;exact h
 | false=>exact hS.ag u
theorem Ak (hT:nN cx.P cx.T) (DN:CR cx.P cx.fs) (hS:St cx F a) {et:List Nat} {wr:Bool} {m k:Nat} {C:Option (World->Prop)} {ops:Array Oper} {o:Oper} {K:Fr->World->Prop} {K':Act->World->Prop}
    (hw:Region.wanted o (yielded ops a.tmps)=true) (hk:k=iN cx.T o∨(k=0/\iN cx.T o=1/\m=0)) (hm:m=0->iN cx.T o=1->k=0)
    (hK:∀ F' a' w',St cx F' a'->K F' w'->K' a' w') (h:Cf cx et wr m C o F w K):aP cx.P ops (eU C) k o K' a w:=by
  unfold Cf at h;unfold aP;rw[if_pos hw];split at h
  · rename_i JS;obtain rfl:k=0:=by
      rcases hk with hk | hk
      · rw[hk,JS]
      · exact hk.1
    obtain⟨s,v,h1,h2,h3⟩:=wW hT hS.ag h;obtain⟨F',DB,EI⟩:=gK hS h1 h3;exact⟨v,fun w' _=>.inl (h2 w'),hK _ _ _ DB EI⟩
  · rename_i FB;obtain⟨s,v,h1,h2,h3⟩:=wV hT hS.ag h;obtain⟨F',DB,EI⟩:=gK hS h1 h3;rcases Nat.eq_zero_or_pos m with Fz | Fz
    · obtain rfl:=hm Fz FB;subst Fz;exact⟨v,fun w' hC=>.inl (h2 w' hC),hK _ _ _ DB EI⟩
    · obtain⟨m,rfl⟩:∃ m',m=m'+1:=⟨m-1,by omega⟩;obtain rfl:k=1:=by
        rcases hk with hk | hk
        · rw[hk,FB]
        · omega
      exact⟨v,.inl h2,hK _ _ _ DB EI⟩
  · rename_i Hl EX;have F7:k=iN cx.T o:=by
      rcases hk with hk | hk
      · exact hk
      · exact absurd hk.2.1 EX
    split
    · exact absurd F7.symm Hl
    · exact absurd F7.symm EX
    · refine Oper.wp_mono ?_ (Al hT DN hS.ag h);rintro a' w' ⟨s,v,rfl,h1,h2⟩;refine⟨⟨v,rfl⟩,?_⟩;cases C with
      | none =>
        simp only[inC]at h2;obtain⟨F',DB,EI⟩:=gK hS h1 h2;exact⟨trivial,hK _ _ _ DB EI⟩
      | some C =>
        simp only[inC]at h2;obtain⟨F',DB,EI⟩:=gK hS h1 h2.2;exact⟨h2.1,hK _ _ _ DB EI⟩
theorem Aw(hS:St cx F a){k:Nat}{C:Option (World->Prop)}{ops:Array Oper}{o:Oper}{K:Fr->World->Prop}{K':Act->World->Prop}
    (hw:Region.wanted o (yielded ops a.tmps)=false) (hK:∀ F' a' w',St cx F' a'->K F' w'->K' a' w') (h:uB cx.n F o.dst (.v undef) fun F'=>K F' w):aP cx.P ops (eU C) k o K' a w:=by
  unfold aP;rw[if_neg (by rw[hw];simp)];obtain⟨F',DB,EI⟩:=gK (s:=.v undef) (v:=undef) hS rfl h;exact hK _ _ _ DB EI
theorem lY (hT:nN cx.P cx.T) (DN:CR cx.P cx.fs) {ra:Ra} {C:Option (World->Prop)} {ops:List Oper} {K:Fr->World->Prop} :
    ∀ (r:List (Nat×Oper)) (F:Fr) (a:Act) (w:World),(∀ x∈r,ops[x.1]?=some x.2)->St cx F a->nC cx ra C ops r F w K →
      cN cx.P ops.toArray (eU C) (kinds cx.T ra.ql ops) (fun a' w'=>∃ F',St cx F' a'/\K F' w') r a w
  | [],F,a,w,_,hS,h=>⟨F,hS,h⟩
  | (i, o) :: r,F,a,w,hr,hS,h=>by
    have hi:ops[i]?=some o:=hr (i,o) (by simp);have ih:∀ F' a' w',St cx F' a'->nC cx ra C ops r F' w' K->cN cx.P ops.toArray (eU C) (kinds cx.T ra.ql ops) (fun a' w'=>∃ F',St cx F' a'/\K F' w') r a' w' :=
      fun F' a' w' DB h'=>lY hT DN r F' a' w' (fun x hx=>hr x (by simp[hx])) DB h'
    have Iy:kinds cx.T ra.ql ops i=(bif ra.ql.contains i && Nat.beq (iN cx.T o) 1 then 0 else iN cx.T o):=by
      unfold kinds;rw[hi]
    have go:∀(F:Fr),St cx F a->Region.wanted o (yielded ops.toArray a.tmps)=true →
        Cf cx ra.et (ra.wr.contains i) (bif ra.ql.contains i then 0 else 1) C o F w (fun F' w'=>nC cx ra C ops r F' w' K) →
        aP cx.P ops.toArray (eU C) (kinds cx.T ra.ql ops i) o (cN cx.P ops.toArray (eU C) (kinds cx.T ra.ql ops) (fun a' w'=>∃ F',St cx F' a'/\K F' w') r) a w:=by
      intro F hS hw h;refine Ak hT DN hS hw ?_ ?_ ih h
      · rw[Iy];cases hq:ra.ql.contains i <;>cases hk:Nat.beq (iN cx.T o) 1 <;>simp;have:=Nat.eq_of_beq_eq_true hk;omega
      · rw[Iy];intro hm FB;cases hq:ra.ql.contains i with
        | false=>rw[hq]at hm;simp at hm
        | true=>simp[FB]
    have skip:∀(F:Fr),St cx F a->Region.wanted o (yielded ops.toArray a.tmps)=false->uB cx.n F o.dst (.v undef) (fun F'=>nC cx ra C ops r F' w K) →
        aP cx.P ops.toArray (eU C) (kinds cx.T ra.ql ops i) o (cN cx.P ops.toArray (eU C) (kinds cx.T ra.ql ops) (fun a' w'=>∃ F',St cx F' a'/\K F' w') r) a w:=by
      intro F hS hw h;exact Aw hS hw ih h
    simp only[nC]at h;simp only[cN];split at h
    · rename_i hg;exact go F hS (by simp[Region.wanted,hg]) h
    · rename_i j want hg;split at h
      · exact h.elim
      · rename_i t ht;have FK:=ht;have yl:∀ c:Bool,a.tmps.getD t undef=.bool c->yielded ops.toArray a.tmps j=some c∨¬ t<cx.n:=by
          intro c hc;by_cases Fa:t<cx.n
          · left;unfold yielded;have:(ops.toArray[j]?).bind (·.dst)=some t:=by simpa using ht
            rw[this];have Dp:t<a.tmps.size:=by rw[hS.size];exact Fa
            simp only[Option.bind_some,Array.getElem?_eq_getElem Dp];simp[Array.getD,Dp]at hc;rw[hc]
          · exact .inr Fa
        cases hb:Nat.blt t cx.n with
        | false=>rw[hb]at h;exact h.elim
        | true =>
          rw[hb]at h;simp only[cond_true]at h;have Fa:t<cx.n:=by simpa[Nat.blt_eq]using hb
          have DS:∀ c:Bool,a.tmps.getD t undef=.bool c->Region.wanted o (yielded ops.toArray a.tmps)=(c ==want):=by
            intro c hc;rcases yl c hc with h | h
            · simp[Region.wanted,hg,h]
            · exact absurd Fa h
          have ht:=hS.ag t;split at h
          · rename_i he;rw[he]at ht;simp only[eS]at ht;have hw:=DS true ht;cases want with
            | true=>exact go F hS (by rw[hw];rfl) h
            | false=>exact skip F hS (by rw[hw];rfl) h
          · rename_i he;rw[he]at ht;simp only[eS]at ht;have hw:=DS false ht;cases want with
            | true=>exact skip F hS (by rw[hw];rfl) h
            | false=>exact go F hS (by rw[hw];rfl) h
          · rename_i vs he;rw[he]at ht;simp only[eS]at ht;refine skip F hS ?_ h;have:yielded ops.toArray a.tmps j=none:=by
              unfold yielded;have h2:(ops.toArray[j]?).bind (·.dst)=some t:=by simpa using FK
              rw[h2];have Dp:t<a.tmps.size:=by rw[hS.size];exact Fa
              simp only[Option.bind_some,Array.getElem?_eq_getElem Dp];simp[Array.getD,Dp]at ht;rw[ht]
            simp[Region.wanted,hg,this]
          · rename_i c he;rw[he]at ht;simp only[eS]at ht;have hw:=DS c ht;have DB:=hS.known (t:=t) (c:=c) (by simpa[eS]using ht);cases c with
            | true =>
              have h:=h.1 rfl;cases want with
              | true=>exact go _ DB (by rw[hw];rfl) h
              | false=>exact skip _ DB (by rw[hw];rfl) h
            | false =>
              have h:=h.2 rfl;cases want with
              | true=>exact skip _ DB (by rw[hw];rfl) h
              | false=>exact go _ DB (by rw[hw];rfl) h
          · rename_i q d he;rw[he]at ht;simp only[eS]at ht;by_cases hq:q
            · have FL:a.tmps.getD t undef=.bool true:=by rw[ht];simp[hq]
              have hw:=DS true FL;have DB:=hS.known (t:=t) (c:=true) (by simpa[eS]using FL);have h:=h.1 hq;cases want with
              | true=>exact go _ DB (by rw[hw];rfl) h
              | false=>exact skip _ DB (by rw[hw];rfl) h
            · have FL:a.tmps.getD t undef=.bool false:=by rw[ht];simp[hq]
              have hw:=DS false FL;have DB:=hS.known (t:=t) (c:=false) (by simpa[eS]using FL);have h:=h.2 hq;cases want with
              | true=>exact skip _ DB (by rw[hw];rfl) h
              | false=>exact go _ DB (by rw[hw];rfl) h
          · exact h.elim
theorem vW(l:List Oper):∀ x∈eT 0 l,l[x.1]?=some x.2:=by
 rintro⟨i,o⟩ hx;have:=(dF.1 hx).2;simpa using this
end
end Go.V
/-! The own library V, part 8: code, loops, functions. -/
namespace Go.V
def TF:List (Nat×Sh)->Type->Type
 | [],X=>X
 | (_,.int _) ::r,X=>Int->TF r X
 | (_,.bool) ::r,X=>Bool->TF r X
 | (_,.str) ::r,X=>ByteArray->TF r X
 | (_,.slice) ::r,X=>OA->Nat->Nat->TF r X
 | (_,.ptr) ::r,X=>OA->TF r X
 | (_,.map) ::r,X=>Option Nat->TF r X
 | (_,.any) ::r,X=>Value->TF r X
 | (_,.addr) ::r,X=>Addr->TF r X
 | (_,.cst _) ::r,X=>TF r X
def nE{X:Type}:(J:List (Nat×Sh))->TF J X->Fr->(X->Prop)->Prop
 | [],I,_,K=>K I
 | (t,.int k) ::r,I,F,K=>(match F t with
  | .v (.int k' x)=>if k=k' then nE r (I x) F K else False
  | _=>False)
 | (t,.bool) ::r,I,F,K=>(match F t with
  | .v (.bool c)=>nE r (I c) F K
  | .b c=>nE r (I c) F K
  | .p q d=>nE r (I (@decide q d)) F K
  | _=>False)
 | (t,.str) ::r,I,F,K=>(match F t with
  | .v (.string x)=>nE r (I x) F K
  | _=>False)
 | (t,.slice) ::r,I,F,K=>(match F t with
  | .v (.slice A n c)=>nE r (I A n c) F K
  | _=>False)
 | (t,.ptr) ::r,I,F,K=>(match F t with
  | .v (.pointer p)=>nE r (I p) F K
  | _=>False)
 | (t,.map) ::r,I,F,K=>(match F t with
  | .v (.map p)=>nE r (I p) F K
  | _=>False)
 | (t,.any) ::r,I,F,K=>(match F t with
  | .v x=>nE r (I x) F K
  | _=>False)
 | (t,.addr) ::r,I,F,K=>(match F t with
  | .v (.pointer (some a))=>nE r (I a) F K
  | _=>False)
 | (_,.cst _) ::_,_,_,_=>False
def mN{X:Type}:(J:List (Nat×Sh))->TF J X->Fr->(X->Fr->Prop)->Prop
 | [],I,F,K=>K I F
 | (t,.int k) ::r,I,F,K=>∀ x:Int,mN r (I x) (upd F t (.v (.int k x))) K
 | (t,.bool) ::r,I,F,K=>∀ c:Bool,mN r (I c) (upd F t (.b c)) K
 | (t,.str) ::r,I,F,K=>∀ x:ByteArray,mN r (I x) (upd F t (.v (.string x))) K
 | (t,.slice) ::r,I,F,K=>∀(A:OA)(n c:Nat),mN r (I A n c) (upd F t (.v (.slice A n c))) K
 | (t,.ptr) ::r,I,F,K=>∀ p:OA,mN r (I p) (upd F t (.v (.pointer p))) K
 | (t,.map) ::r,I,F,K=>∀ p:Option Nat,mN r (I p) (upd F t (.v (.map p))) K
 | (t,.any) ::r,I,F,K=>∀ x:Value,mN r (I x) (upd F t (.v x)) K
 | (t,.addr) ::r,I,F,K=>∀ a:Addr,mN r (I a) (upd F t (.v (.pointer (some a)))) K
 | (_,.cst _) ::r,I,F,K=>mN r I F K
def hav(F:Fr)(W:List Nat):Fr:=fun t=>bif W.contains t then .un else F t
def bC:Code->List Nat->Bool
 | .region _ ops _,W=>ops.toList.all fun o=>match o.dst with
  | some d=>W.contains d
  | none=>true
 | .seq a b,W=>bC a W && bC b W
 | .cond _ a b,W=>bC a W && bC b W
 | .block _ a,W=>bC a W
 | .loop a,W=>bC a W
 | .skip,_ | .exit _,_ | .ret,_=>true
 | _,_=>false
def normalTo(e:Exit)(A B:Prop):Prop :=
 match e with
 | .normal=>A
 | _=>B
def XC (cx:Cx):Sk->Code->(Exit->Fr->World->Prop)->Fr->World->Prop
  | .reg ra,.region _ ops draw,Q,F,w=>C3 cx ra ops.toList draw F w fun F w=>Q .normal F w
  | .regX ra t,.region _ ops draw,Q,F,w=>Bh cx ra t ops.toList draw F w fun F w=>Q .normal F w
  | .seq x y,.seq c d,Q,F,w=>XC cx x c (fun e F w=>match e with
    | .normal=>XC cx y d Q F w
    | e=>Q e F w) F w
  | .cond x y,.cond c t e,Q,F,w=>(match ev F c with
    | .v (.bool true)=>XC cx x t Q F w
    | .v (.bool false)=>XC cx y e Q F w
    | .b b=>(b=true->XC cx x t Q F w)/\(b=false->XC cx y e Q F w)
    | .p q _=>(q->XC cx x t Q F w)/\(¬ q->XC cx y e Q F w)
    | _=>False)
  | .join J W x,c,Q,F,w=>bif bC c W then
      ∃ I : TF J (World->Prop),
        XC cx x c (fun e F' w'=>match e with
            | .normal=>nE J I F' fun I=>I w'
            | e=>Q e F' w') F w ∧
        mN J I (hav F W) fun I F'=>∀ w',I w'->Q .normal F' w'
    else False
  | .block x,.block id c,Q,F,w=>XC cx x c (fun e F w=>match e with
    | .exit i=>bif Nat.beq i id then Q .normal F w else Q (.exit i) F w
    | e=>Q e F w) F w
  | .loop J W x,.loop c,Q,F,w=>bif bC c W then
      ∃ I :Nat->TF J (World->Prop),(∃ m,nE J (I m) F fun I=>I w) ∧
        ∀ m,mN J (I m) (hav F W) fun Im F'=>∀ w',Im w'->XC cx x c (fun e F w=>match e with
          | .normal=>∃ m',m'<m/\nE J (I m') F fun I=>I w
          | e=>Q e F w) F' w'
    else False
  | .leaf,.skip,Q,F,w=>Q .normal F w
  | .leaf,.exit i,Q,F,w=>Q (.exit i) F w
  | .leaf,.ret,Q,F,w=>Q .ret F w
  | _,_,_,_,_=>False
section
variable {cx : Cx} {F : Fr} {a : Act} {w : World}
def dU(c:Code)(a a':Act):Prop:=∀(W:List Nat)(t:Nat),bC c W=true->W.contains t=false->a'.tmps.getD t undef=a.tmps.getD t undef
theorem dU.refl(c:Code)(a:Act):dU c a a:=fun _ _ _ _=>rfl
theorem dU.trans{c:Code}{a a' a'':Act}(h:dU c a a')(k:dU c a' a''):dU c a a'':=fun W t h1 h2=>(k W t h1 h2).trans (h W t h1 h2)
theorem AA{a:Act}{d:Option Tmp}{v:Value}{t:Nat}(h:d≠some t):(a.put d v).tmps.getD t undef=a.tmps.getD t undef:=by
 cases d with
 | none=>rfl
 | some d =>
  have Dq:d≠t:=fun e=>h (by rw[e]);simp[Act.put,Array.getElem?_setIfInBounds_ne Dq]
theorem BN{c:Code}{W:List Nat}{F':Fr}{a':Act}(hS:St cx F a)(DB:St cx F' a')(hW:bC c W=true)(h:dU c a a'):St cx (hav F W) a':=by
 refine⟨fun t=>?_,DB.size,DB.defers⟩;unfold hav;cases hc:W.contains t with
 | true=>exact trivial
 | false =>
  simp only[cond_false];rw[h W t hW hc];exact hS.ag t
theorem St.upd(hS:St cx F a){t:Nat}{s:SV}(h:eS s (a.tmps.getD t undef)):St cx (upd F t s) a:=by
 refine⟨fun u=>?_,hS.size,hS.defers⟩;unfold V.upd;cases hb:Nat.beq u t with
 | true =>
  have:u=t:=Nat.eq_of_beq_eq_true hb;subst this;exact h
 | false=>exact hS.ag u
theorem fH{X:Type}:∀ {J:List (Nat×Sh)} {I:TF J X} {F F':Fr} {K:X->Prop} {K':X->Fr->Prop},St cx F a->St cx F' a->nE J I F K->mN J I F' K'->∃(i:X)(F'':Fr),St cx F'' a/\K i/\K' i F''
 | [],I,F,F',K,K',_,h2,h3,h4=>⟨I,F',h2,h3,h4⟩
 | (t,.int k) ::r,I,F,F',K,K',h1,h2,h3,h4=>by
  have ht:=h1.ag t;simp only[nE]at h3;split at h3
  ·rename_i k' x he;rw[he]at ht;split at h3
   ·rename_i hk;subst hk;exact fH h1 (h2.upd ht) h3 (h4 x)
   ·exact h3.elim
  ·exact h3.elim
 | (t,.bool) ::r,I,F,F',K,K',h1,h2,h3,h4=>by
  have ht:=h1.ag t;simp only[nE]at h3;split at h3
  ·rename_i c he;rw[he]at ht;exact fH h1 (h2.upd (s:=.b c) ht) h3 (h4 c)
  ·rename_i c he;rw[he]at ht;exact fH h1 (h2.upd (s:=.b c) ht) h3 (h4 c)
  ·rename_i q d he;rw[he]at ht;exact fH h1 (h2.upd (s:=.b (@decide q d)) ht) h3 (h4 _)
  ·exact h3.elim
 | (t,.str) ::r,I,F,F',K,K',h1,h2,h3,h4=>by
  have ht:=h1.ag t;simp only[nE]at h3;split at h3
  ·rename_i x he;rw[he]at ht;exact fH h1 (h2.upd ht) h3 (h4 x)
  ·exact h3.elim
 | (t,.slice) ::r,I,F,F',K,K',h1,h2,h3,h4=>by
  have ht:=h1.ag t;simp only[nE]at h3;split at h3
  ·rename_i A n c he;rw[he]at ht;exact fH h1 (h2.upd ht) h3 (h4 A n c)
  ·exact h3.elim
 | (t,.ptr) ::r,I,F,F',K,K',h1,h2,h3,h4=>by
  have ht:=h1.ag t;simp only[nE]at h3;split at h3
  ·rename_i x he;rw[he]at ht;exact fH h1 (h2.upd ht) h3 (h4 x)
  ·exact h3.elim
 | (t,.map) ::r,I,F,F',K,K',h1,h2,h3,h4=>by
  have ht:=h1.ag t;simp only[nE]at h3;split at h3
  ·rename_i x he;rw[he]at ht;exact fH h1 (h2.upd ht) h3 (h4 x)
  ·exact h3.elim
 | (t,.any) ::r,I,F,F',K,K',h1,h2,h3,h4=>by
  have ht:=h1.ag t;simp only[nE]at h3;split at h3
  ·rename_i x he;rw[he]at ht;exact fH h1 (h2.upd ht) h3 (h4 x)
  ·exact h3.elim
 | (t,.addr) ::r,I,F,F',K,K',h1,h2,h3,h4=>by
  have ht:=h1.ag t;simp only[nE]at h3;split at h3
  ·rename_i x he;rw[he]at ht;exact fH h1 (h2.upd ht) h3 (h4 x)
  ·exact h3.elim
 | (_,.cst _) ::r,I,F,F',K,K',h1,h2,h3,h4=>by
  simp only[nE]at h3
theorem iY {P:Program} {ops:Array Oper} {C:World->Prop} {kd:dT} {D:Nat->Prop} {Q:Act->World->Prop} :
    ∀ (l:List (Nat×Oper)) (a:Act) (w:World),(∀ x∈l,∀ d,x.2.dst=some d->D d)->cN P ops C kd Q l a w->cN P ops C kd (fun a' w'=>(∀ t,¬ D t->a'.tmps.getD t undef=a.tmps.getD t undef)/\Q a' w') l a w
  | [],a,w,_,h=>⟨fun _ _=>rfl,h⟩
  | (i, o) ::l,a,w,hl,h=>by
    have ho:=hl (i,o) (by simp);have ih:=fun a w (h:cN P ops C kd Q l a w)=>iY (D:=D) (Q:=Q) l a w (fun x hx=>hl x (by simp[hx])) h;simp only[cN]at h ⊢;have key:∀ v a' w',a'=a.put o.dst v->cN P ops C kd Q l a' w'->cN P ops C kd (fun a'' w''=>(∀ t,¬ D t->a''.tmps.getD t undef=a.tmps.getD t undef)/\Q a'' w'') l a' w':=by
      rintro v a' w' rfl h;refine iD ?_ _ _ _ (ih _ _ h);rintro a'' w'' ⟨h1,h2⟩;exact⟨fun t ht=>(h1 t ht).trans (AA fun e=>ht (ho t e)),h2⟩
    unfold aP at h ⊢;split
    · rename_i hw;rw[if_pos hw]at h;split at h
      · obtain⟨v,h1,h2⟩:=h;exact⟨v,h1,key v _ _ rfl h2⟩
      · obtain⟨v,h1,h2⟩:=h;exact⟨v,h1,key v _ _ rfl h2⟩
      · refine Oper.wp_mono ?_ h;rintro a' w' ⟨⟨u,rfl⟩,h1,h2⟩;exact⟨⟨u,rfl⟩,h1,key u _ _ rfl h2⟩
    · rename_i hw;rw[if_neg hw]at h;exact key _ _ _ rfl h
def wP(cx:Cx)(c:Code)(a:Act)(Q:Exit->Fr->World->Prop):Exit->Act->World->Prop:=fun e a' w'=>∃ F',St cx F' a'/\dU c a a'/\Q e F' w'
theorem wU (hT:nN cx.P cx.T) (DN:CR cx.P cx.fs) (DM:cx.P.follows .mixedOrders=true) (hS:St cx F a) {ra:Ra} {id:Nat} {ops:List Oper} {draw:Bool} {Q:Exit->Fr->World->Prop}
    (h:C3 cx ra ops draw F w fun F w=>Q .normal F w):(Code.region id ops.toArray draw).wp cx.P (wP cx (Code.region id ops.toArray draw) a Q) a w:=by
  have mono:∀ {C:Option (World->Prop)} {w:World},nC cx ra C ops (eT 0 ops) F w (fun F w=>Q .normal F w) →
      cN cx.P ops.toArray (eU C) (kinds cx.T ra.ql ops) (fun a' w'=>eU C w'->wP cx (Code.region id ops.toArray draw) a Q .normal a' w') (eT 0 ops) a w:=by
    intro C w h;have h1:=lY hT DN _ _ _ _ (vW ops) hS h;refine iD ?_ _ _ _ (iY (D:=fun t=>∃ o∈ops,o.dst=some t) _ _ _ ?_ h1)
    · rintro a' w' ⟨hs,F',DB,hK⟩ _;refine⟨F',DB,fun W t hW ht=>hs t ?_,hK⟩;rintro⟨o,ho,hd⟩;simp only[bC,List.all_eq_true]at hW;have:=hW o (by simpa using ho);rw[hd]at this;simp only at this;rw[ht]at this;cases this
    · rintro⟨i,o⟩ hx d hd;exact⟨o,List.mem_of_getElem? (vW ops _ hx),hd⟩
  unfold C3 at h;cases draw with
  | false =>
    simp only[cond_false]at h;exact pM (C:=eU none) (kd:=kinds cx.T ra.ql ops) trivial (mono h)
  | true =>
    simp only[cond_true]at h;cases hB:AF ops (kinds cx.T ra.ql ops) ra.waits with
    | false=>rw[hB]at h;exact h.elim
    | true =>
      rw[hB]at h;simp only[cond_true]at h;split at h
      · exact jT (C:=eU none) (kd:=kinds cx.T ra.ql ops) DM hB trivial (mono h)
      · obtain⟨C,hC,h⟩:=h;exact jT (C:=eU (some C)) (kd:=kinds cx.T ra.ql ops) DM hB hC (mono h)
theorem uA (hT:nN cx.P cx.T) (DN:CR cx.P cx.fs) (DM:cx.P.follows .mixedOrders=true) (hS:St cx F a) {ra:Ra} {t:XT} {id:Nat} {ops:List Oper} {draw:Bool} {Q:Exit->Fr->World->Prop}
    (h:Bh cx ra t ops draw F w fun F w=>Q .normal F w):(Code.region id ops.toArray draw).wp cx.P (wP cx (Code.region id ops.toArray draw) a Q) a w:=by
  have mono:∀ {C:Option (World->Prop)} {w:World} (t:XT),vxt cx ra C ops F w (fun F w=>Q .normal F w) t →
      wpX cx.P ops (eU C) (kinds cx.T ra.ql ops) (fun a' w'=>eU C w'->wP cx (Code.region id ops.toArray draw) a Q .normal a' w') a w t:=by
    intro C w t
    induction t with
    | leaf L =>
      intro h;have h1:=lY hT DN _ _ _ _ (fun x hx=>(lC.1 (show(x.1,x.2)∈pick ops L from hx)).2) hS h;refine iD ?_ _ _ _ (iY (D:=fun t=>∃ o∈ops,o.dst=some t) _ _ _ ?_ h1)
      · rintro a' w' ⟨hs,F',DB,hK⟩ _;refine⟨F',DB,fun W t hW ht=>hs t ?_,hK⟩;rintro⟨o,ho,hd⟩;simp only[bC,List.all_eq_true]at hW;have:=hW o (by simpa using ho);rw[hd]at this;simp only at this;rw[ht]at this;cases this
      · rintro⟨i,o⟩ hx d hd;exact⟨o,List.mem_of_getElem? (lC.1 hx).2,hd⟩
    | split p q x y ihx ihy=>exact fun h=>⟨ihx h.1,ihy h.2⟩
    | dead L=>exact fun _=>trivial
  unfold Bh at h;cases draw with
  | false=>exact h.elim
  | true =>
    simp only[cond_true]at h;cases hB:Cu ops (kinds cx.T ra.ql ops) ra.waits t with
    | false=>rw[hB]at h;exact h.elim
    | true =>
      rw[hB]at h;simp only[cond_true]at h;split at h
      · exact mO (C:=eU none) (kd:=kinds cx.T ra.ql ops) DM hB trivial (mono t h)
      · obtain⟨C,hC,h⟩:=h;exact mO (C:=eU (some C)) (kd:=kinds cx.T ra.ql ops) DM hB hC (mono t h)
theorem xT {P:Program} {c:Code} {Q:Exit->Act->World->Prop} (I:Nat->Act->World->Prop) {m:Nat} {a:Act} {w:World} (h₀:I m a w)
    (round:∀ m a w,I m a w->c.wp P (Exit.then (fun a' w'=>∃ m',m'<m/\I m' a' w') Q) a w):(Code.loop c).wp P Q a w:=by
  intro b k cs;have key:∀ n a w,I n a w->∃ e a' w',Q e a' w'/\Arrives P (lone (b.at a (.code c ::.inLoop c ::k)) cs w) b k cs e a' w':=by
    intro n
    induction n using Nat.strongRecOn with
    | _ n ih =>
      intro a w hI;obtain⟨e,a₁,w₁,hq,DX⟩:=round n a w hI b (.inLoop c ::k) cs;cases e with
      | normal =>
        obtain⟨m',Dp,Ki⟩:=hq;obtain⟨e₂,a₂,w₂,Jz,Gn⟩:=ih m' Dp a₁ w₁ Ki;exact⟨e₂,a₂,w₂,Jz,.of_steps (Steps.trans DX (.one step_inLoop)) Gn⟩
      | exit id=>exact⟨_,a₁,w₁,hq,.pass (x:=.inLoop c) rfl (fun _ _=>.inl (by simp)) DX⟩
      | goto l=>exact⟨_,a₁,w₁,hq,.pass (x:=.inLoop c) rfl (fun _ _=>.inl (by simp)) DX⟩
      | ret=>exact⟨_,a₁,w₁,hq,.pass (x:=.inLoop c) rfl (fun _ _=>.inl (by simp)) DX⟩
      | panic ch=>exact⟨_,a₁,w₁,hq,.pass (x:=.inLoop c) rfl (fun _ _=>.inl (by simp)) DX⟩
      | outgrown=>exact⟨_,a₁,w₁,hq,.pass (x:=.inLoop c) rfl (fun _ _=>.inl (by simp)) DX⟩
  obtain⟨e,a',w',hq,DX⟩:=key _ a w h₀;exact⟨e,a',w',hq,.of_steps (.one step_loop) DX⟩
theorem uG{c d:Code}{a a':Act}(h:dU c a a'):dU (.seq c d) a a':=fun W t hW ht=>h W t (by simp only[bC,Bool.and_eq_true]at hW;exact hW.1) ht
theorem Ax{c d:Code}{a a':Act}(h:dU d a a'):dU (.seq c d) a a':=fun W t hW ht=>h W t (by simp only[bC,Bool.and_eq_true]at hW;exact hW.2) ht
theorem AS{x:Operand}{c d:Code}{a a':Act}(h:dU c a a'):dU (.cond x c d) a a':=fun W t hW ht=>h W t (by simp only[bC,Bool.and_eq_true]at hW;exact hW.1) ht
theorem yP{x:Operand}{c d:Code}{a a':Act}(h:dU d a a'):dU (.cond x c d) a a':=fun W t hW ht=>h W t (by simp only[bC,Bool.and_eq_true]at hW;exact hW.2) ht
theorem AH{c:Code}{J:List (Nat×Sh)}{W:List Nat}{I:TF J (World->Prop)}{Q:Exit->Fr->World->Prop}{F':Fr}{a':Act}{w':World}(hS:St cx F a)(hW:bC c W=true)
    (Dr:mN J I (hav F W) fun I F'=>∀ w',I w'->Q .normal F' w') (DB:St cx F' a') (hk:dU c a a') (h:nE J I F' fun I=>I w'):wP cx c a Q .normal a' w':=by
  obtain⟨i,F'',h1,h2,h3⟩:=fH DB (BN hS DB hW hk) h Dr;exact⟨F'',h1,hk,h3 w' h2⟩
theorem CN (hT:nN cx.P cx.T) (DN:CR cx.P cx.fs) (DM:cx.P.follows .mixedOrders=true):∀(sk:Sk)(c:Code)(Q:Exit->Fr->World->Prop)(F:Fr)(a:Act)(w:World),
    St cx F a->XC cx sk c Q F w->c.wp cx.P (wP cx c a Q) a w:=by
  intro sk
  induction sk with
  | reg ra =>
    intro c Q F a w hS h;cases c with
    | region id ops draw =>
      simp only[XC]at h;have e:ops=ops.toList.toArray:=by simp
      rw[e];exact wU hT DN DM hS h
    | _=>simp only[XC]at h
  | regX ra t =>
    intro c Q F a w hS h;cases c with
    | region id ops draw =>
      simp only[XC]at h;have e:ops=ops.toList.toArray:=by simp
      rw[e];exact uA hT DN DM hS h
    | _=>simp only[XC]at h
  | seq x y ihx ihy =>
    intro c Q F a w hS h;cases c with
    | seq c d =>
      simp only[XC]at h;refine wp_seq (wp_mono (ihx c _ F a w hS h) ?_);intro e a' w' hp;obtain⟨F',h1,h2,h3⟩:=hp;cases e with
      | normal =>
        refine wp_mono (ihy d Q F' a' w' h1 h3) ?_;rintro e a'' w'' ⟨F'',h4,h5,h6⟩;exact⟨F'',h4,(uG h2).trans (Ax h5),h6⟩
      | _=>exact⟨F',h1,uG h2,h3⟩
    | _=>simp only[XC]at h
  | cond x y ihx ihy =>
    intro c Q F a w hS h;cases c with
    | cond c t e =>
      have left:XC cx x t Q F w->t.wp cx.P (wP cx (.cond c t e) a Q) a w:=fun h=>wp_mono (ihx t Q F a w hS h) fun e a' w' ⟨F',h1,h2,h3⟩=>⟨F',h1,AS h2,h3⟩;have right:XC cx y e Q F w->e.wp cx.P (wP cx (.cond c t e) a Q) a w:=fun h=>wp_mono (ihy e Q F a w hS h) fun e a' w' ⟨F',h1,h2,h3⟩=>⟨F',h1,yP h2,h3⟩;simp only[XC]at h;have hc:=hS.ag.ev c;split at h
      · rename_i hv;rw[hv]at hc;exact wp_cond_true hc (left h)
      · rename_i hv;rw[hv]at hc;exact wp_cond_false hc (right h)
      · rename_i b hv;rw[hv]at hc;cases b with
        | true=>exact wp_cond_true hc (left (h.1 rfl))
        | false=>exact wp_cond_false hc (right (h.2 rfl))
      · rename_i q d hv;rw[hv]at hc;by_cases hq:q
        · exact wp_cond_true (by rw[hc];simp[hq]) (left (h.1 hq))
        · exact wp_cond_false (by rw[hc];simp[hq]) (right (h.2 hq))
      · exact h.elim
    | _=>simp only[XC]at h
  | join J W x ih =>
    intro c Q F a w hS h;have h:XC cx (.join J W x) c Q F w:=h;simp only[XC]at h;cases hb:bC c W with
    | false=>rw[hb]at h;exact h.elim
    | true =>
      rw[hb]at h;obtain⟨I,h,Dr⟩:=h;refine wp_mono (ih c _ F a w hS h) ?_;rintro ex a' w' ⟨F',h1,h2,h3⟩;cases ex with
      | normal=>exact AH hS hb Dr h1 h2 h3
      | _=>exact⟨F',h1,h2,h3⟩
  | block x ih =>
    intro c Q F a w hS h;cases c with
    | block id c =>
      simp only[XC]at h;refine wp_block (wp_mono (ih c _ F a w hS h) ?_);rintro e a' w' ⟨F',h1,h2,h3⟩;cases e with
      | exit i =>
        simp only at h3;cases hb:Nat.beq i id with
        | true =>
          rw[hb]at h3;have:=Nat.eq_of_beq_eq_true hb;simp only[Exit.inBlock,this,if_true];exact⟨F',h1,h2,h3⟩
        | false =>
          rw[hb]at h3;have:i≠id:=fun e=>by subst e;simp at hb
          simp only[Exit.inBlock,this,if_false];exact⟨F',h1,h2,h3⟩
      | _=>exact⟨F',h1,h2,h3⟩
    | _=>simp only[XC]at h
  | loop J W x ih =>
    intro c Q F a w hS h;cases c with
    | loop c =>
      simp only[XC]at h;cases hb:bC c W with
      | false=>rw[hb]at h;exact h.elim
      | true =>
        rw[hb]at h;obtain⟨I,⟨m,h0⟩,Dr⟩:=h;refine xT (fun m a' w'=>∃ F',St cx F' a'/\dU c a a'/\nE J (I m) F' fun I=>I w') (m:=m) ⟨F,hS,dU.refl _ _,h0⟩ ?_;rintro m a' w' ⟨F',h1,h2,h3⟩;obtain⟨i,F'',h4,h5,h6⟩:=fH h1 (BN hS h1 hb h2) h3 (Dr m);refine wp_mono (ih c _ F'' a' w' h4 (h6 w' h5)) ?_;rintro e a'' w'' ⟨G,h7,h8,h9⟩;cases e with
        | normal =>
          obtain⟨m',Dp,h9⟩:=h9;exact⟨m',Dp,G,h7,h2.trans h8,h9⟩
        | _=>exact⟨G,h7,h2.trans h8,h9⟩
    | _=>simp only[XC]at h
  | leaf =>
    intro c Q F a w hS h;cases c with
    | skip=>exact wp_skip ⟨F,hS,dU.refl _ _,h⟩
    | exit i=>exact wp_exit ⟨F,hS,dU.refl _ _,h⟩
    | ret=>exact wp_ret ⟨F,hS,dU.refl _ _,h⟩
    | _=>simp only[XC]at h
end
/-! ### Functions -/
def tZ(T:pJ)(F:Fr)(w:World):List ResultVar->(List Value->Prop)->Prop
 | [],K=>K []
 | .tmp t ::r,K=>vv F (.tmp t) fun v=>tZ T F w r fun vs=>K (v ::vs)
 | .cell t ty ::r,K=>wX F (.tmp t) fun a=>(match tf T ty with
  | some te=>bif te.ld.agg then(bif Nat.beq te.shs.length te.size then tI (fun φ=>φ w) a 0 te.shs fun cs=>tZ T F w r fun vs=>K (.agg cs.toArray ::vs) else False)
   else yK (te.shs.headD .any) fun _ v=>w.cell? a=some v/\tZ T F w r fun vs=>K (v ::vs)
  | none=>False)
def zG(vs:List Value):Value :=
 match vs with
 | [v]=>v
 | vs=>.tuple vs.toArray
def F0(args:List Value):Fr:=fun t=>match args[t]? with
 | some v=>mk v
 | none=>.un
def XF(cx:Cx)(fn:Func)(sk:Sk)(args:List Value)(w:World)(R:Ending->World->Prop):Prop :=
 match fn.body with
 | some c=>bif Nat.beq fn.ntmps cx.n && Nat.ble args.length cx.n then XC cx sk c (fun e F w=>match e with
  | .normal | .ret=>tZ cx.T F w fn.results.toList fun vs=>R (.returned (zG vs)) w
  | _=>False) (F0 args) w else False
 | none=>False
def oJ(tmps:Array Value):ResultVar->Sem Value
 | .tmp t=>pure (tmps.getD t undef)
 | .cell a t=>do loadVar t (← asAddr (tmps.getD a undef))
theorem xK(fn:Func)(tmps:Array Value):results fn tmps=(do let vs ← fn.results.mapM (oJ tmps);pure (if h:vs.size=1 then vs[0] else .tuple vs)):=by
 unfold results;congr 2
theorem lX {cx:Cx} (hT:nN cx.P cx.T) {F:Fr} {a:Act} {w:World} (hS:St cx F a):∀ {rs:List ResultVar} {K:List Value->Prop},tZ cx.T F w rs K →
    ∃ vs,(rs.mapM (oJ a.tmps)).run cx.P w=.ok vs w/\K vs
  | [],K,h=>⟨[],by simp,h⟩
  | .tmp t ::r,K,h=>by
    have h:=aJ hS.ag (x:=.tmp t) h;obtain⟨vs,h1,h2⟩:=lX hT hS h;refine⟨_,?_,h2⟩;simp only[List.mapM_cons,oJ,Sem.run_bind,Sem.run_pure,Result.andThen_ok,h1];rfl
  | .cell t ty ::r,K,h=>by
    simp only[tZ]at h;obtain⟨ad,hx,h⟩:=gL hS.ag h;have hx:a.tmps.getD t undef=.pointer (some ad):=hx;split at h
    · rename_i te Dt;have hl:∃ v,(loadVar ty ad).run cx.P w=.ok v w/\tZ cx.T F w r fun vs=>K (v ::vs):=by
        cases hb:te.ld.agg with
        | true =>
          rw[hb]at h;simp only[cond_true]at h;cases hl:Nat.beq te.shs.length te.size with
          | false=>rw[hl]at h;exact h.elim
          | true =>
            rw[hl]at h;simp only[cond_true]at h;obtain⟨vs,Dx,hD,hK⟩:=jK (D:=fun φ=>φ w) (fun _ _ h k=>⟨h,k⟩) (fun _ _ h k=>h w k) (fun _ h=>h w) h;refine⟨_,?_,hK⟩;have hs:te.size=vs.length:=by rw[Dx];exact(Nat.eq_of_beq_eq_true hl).symm
            simp only[loadVar,Sem.run_bind,(hT.get Dt).isAgg w,Result.andThen_ok,hb,if_true,(hT.get Dt).sizeOf w,loadCells,hs];rw[eR vs 0 #[] hD];simp
        | false =>
          rw[hb]at h;simp only[cond_false]at h;obtain⟨s,v,h1,h2,h3⟩:=hZ h;refine⟨v,?_,h3⟩;simp[loadVar,(hT.get Dt).isAgg w,hb,load,Sem.run,h2]
      obtain⟨v,hv,h⟩:=hl;obtain⟨vs,h1,h2⟩:=lX hT hS h;refine⟨_,?_,h2⟩;simp only[List.mapM_cons,oJ,Sem.run_bind,hx,asAddr,Sem.run_pure,Result.andThen_ok,hv,h1]
    · exact h.elim
theorem lR {cx:Cx} {f:FuncId} {fn:Func} {sk:Sk} {args:List Value} {w:World} {R:Ending->World->Prop} (hT:nN cx.P cx.T) (DN:CR cx.P cx.fs) (DM:cx.P.follows .mixedOrders=true)
    (hf:cx.P.funcs[f]?=some fn) (h:XF cx fn sk args w R):Calls cx.P f args.toArray w R:=by
  unfold XF at h;split at h
  · rename_i c hc;cases hb:Nat.beq fn.ntmps cx.n && Nat.ble args.length cx.n with
    | false=>rw[hb]at h;exact h.elim
    | true =>
      rw[hb]at h;simp only[cond_true]at h;simp only[Bool.and_eq_true]at hb;have hn:fn.ntmps=cx.n:=Nat.eq_of_beq_eq_true hb.1;have hl:args.length<=cx.n:=Nat.le_of_ble_eq_true hb.2;refine calls_of_wp hf hc ?_;have hS:St cx (F0 args) { tmps:=args.toArray++Array.replicate (fn.ntmps-args.toArray.size) undef,defers:=[] }:=by
        refine⟨fun t=>?_,by simp;omega,rfl⟩;unfold F0;split
        · rename_i v hv;have Dp:=(List.getElem?_eq_some_iff.1 hv).1;have:(args.toArray++Array.replicate (fn.ntmps-args.toArray.size) undef).getD t undef=v:=by
            rw[Array.getD_eq_getD_getElem?,Array.getElem?_append_left (by simpa using Dp)];simp[hv]
          rw[this];exact eS.mk v
        · exact trivial
      refine wp_mono (CN hT DN DM sk c _ _ _ w hS h) ?_;rintro e a' w' ⟨F',h1,_,h2⟩;have fin:(tZ cx.T F' w' fn.results.toList fun vs=>R (.returned (zG vs)) w')->a'.defers=[]/\∃ v,(results fn a'.tmps).run cx.P w'=.ok v w'/\R (.returned v) w':=by
        intro h2;obtain⟨vs,h3,h4⟩:=lX hT h1 h2;refine⟨h1.defers,zG vs,?_,h4⟩;rw[xK,Sem.run_bind];have:(fn.results.mapM (oJ a'.tmps)).run cx.P w'=.ok vs.toArray w':=by
          rw[Array.mapM_eq_mapM_toList,Sem.run_map,h3];rfl
        rw[this];simp only[Result.andThen_ok,Sem.run_pure]
        match vs with
        | []=>rfl
        | [v]=>rfl
        | _ ::_ ::_=>simp[zG]
      cases e with
      | normal=>exact fin h2
      | ret=>exact fin h2
      | _=>exact h2.elim
  · exact h.elim
theorem fOkM {P : Program} {fs : List Nat} (h : (fs.all fun g => match P.funcs[g]? with | some fn => !(fn.name == "runtime.NumGoroutine") && !fn.body.isNone | none => false) = true) : CR P fs := by
 intro g hg args w;have h1:=List.all_eq_true.1 h g hg;cases hf:P.funcs[g]? with
 | none=>simp[hf]at h1
 | some fn =>
  simp only[hf,Bool.and_eq_true,Bool.not_eq_true']at h1;have e1 : ¬ fn.name = "runtime.NumGoroutine" := by simpa using h1.1
  have e2:¬ fn.body=none:=by intro e;rw[e]at h1;simp at h1
  simp[callFunc,program,Sem.run,hf,e1,e2]
theorem tOkM{P:Program}{T:pJ}(h:T.map (fun e=>((P.info? e.1).map (fun i=>(i.size,i.bytes,i.zero)),(P.underlying e.1).map oV))=T.map (fun e=>(some (e.2.size,e.2.bytes,some e.2.zero),some e.2.ld))):nN P T:=fun e he=>by
 have:=List.map_inj_left.1 h e he;exact⟨congrArg Prod.fst this,congrArg Prod.snd this⟩
end Go.V
