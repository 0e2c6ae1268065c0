/- Own texts, packed: V1, VX, V2, V3, V4, V5, V6, V7, V8. -/
import Derived.WalkKit
import Derived.Still
import Derived.Laws.World
import Derived.Laws.NewBlocks
import Derived.Laws.Rows
import Derived.Deep.LoopGhost
/-! The own library V, part 1: a region that draws its order is walked in the order of the text, whatever its operations are: operations that leave the world alone commute with all others, operations that act are kept in one order. -/
namespace Go.V
abbrev OA:=Option Addr
abbrev dC:=Nat->Nat
def bY(P:Program)(o:Oper)(a:Act)(w:World)(v:Value):Prop :=
 (execOp a.eval o).run P w=.ok (.value v) w∨((execOp a.eval o).run P w=.ok .skip w/\v=undef)
theorem bY.unique{P:Program}{o:Oper}{a:Act}{w:World}{v u:Value}(h:bY P o a w v)(k:bY P o a w u):v=u:=by
 rcases h with h | ⟨h,rfl⟩ <;>rcases k with k | ⟨k,rfl⟩ <;>rw[h]at k <;>simp at k <;>first | exact k | rfl
def vH:Exit->Act->World->Prop:=fun _ _ _=>False
def aR(P:Program)(ops:Array Oper)(C:World->Prop)(kd:Nat)(o:Oper)(K:Act->World->Prop)(a:Act)(w:World):Prop :=
 if Region.wanted o (yielded ops a.tmps) then
  match kd with
  | 0=>∃ v,(∀ w',C w'->bY P o a w' v)/\K (a.put o.dst v) w
  | 1=>∃ v,bY P o a w v/\K (a.put o.dst v) w
  | _=>o.wp P a w (fun a' w'=>(∃ u,a'=a.put o.dst u)/\C w'/\K a' w') vH
 else K (a.put o.dst undef) w
def bZ(P:Program)(ops:Array Oper)(C:World->Prop)(kd:dC)(Q:Act->World->Prop):List (Nat×Oper)->Act->World->Prop
 | [],a,w=>Q a w
 | (i,o) ::rest,a,w=>aR P ops C (kd i) o (bZ P ops C kd Q rest) a w
section
variable {P : Program} {ops : Array Oper} {C : World → Prop} {K K' : Act → World → Prop} {a : Act} {w : World}
theorem pU{k:Nat}{o:Oper}(h:∀ a w,K a w->K' a w)(hh:aR P ops C k o K a w):aR P ops C k o K' a w:=by
 unfold aR at *;split
 ·rename_i hw;simp only[hw,if_true]at hh;split at hh
  ·obtain⟨v,h1,h2⟩:=hh;exact⟨v,h1,h _ _ h2⟩
  ·obtain⟨v,h1,h2⟩:=hh;exact⟨v,h1,h _ _ h2⟩
  ·exact Oper.wp_mono (fun a w ⟨h1,h2,h3⟩=>⟨h1,h2,h _ _ h3⟩) hh
 ·rename_i hw;simp only[hw]at hh;exact h _ _ hh
theorem nU{k:Nat}{o:Oper}(hC:C w)(h:∀ a w,C w->K a w->K' a w)(hh:aR P ops C k o K a w):aR P ops C k o K' a w:=by
 unfold aR at *;split
 ·rename_i hw;simp only[hw,if_true]at hh;split at hh
  ·obtain⟨v,h1,h2⟩:=hh;exact⟨v,h1,h _ _ hC h2⟩
  ·obtain⟨v,h1,h2⟩:=hh;exact⟨v,h1,h _ _ hC h2⟩
  ·exact Oper.wp_mono (fun a w ⟨h1,h2,h3⟩=>⟨h1,h2,h _ _ h2 h3⟩) hh
 ·rename_i hw;simp only[hw]at hh;exact h _ _ hC hh
theorem gD{kd:dC}{Q Q':Act->World->Prop}(hQ:∀ a w,Q a w->Q' a w):∀ (l:List (Nat×Oper)) (a:Act) (w:World),bZ P ops C kd Q l a w->bZ P ops C kd Q' l a w
 | [],_,_,h=>hQ _ _ h
 | (_,_) ::l,_,_,h=>pU (fun a w=>gD hQ l a w) h
theorem wJ{f:FuncId}{args:Array Value}{R:Ending->World->Prop}(h:Calls P f args w R):∃ e w',R e w':=by
 obtain⟨e,w',_,h,_⟩:=h [];exact⟨e,w',h⟩
theorem AF{o:Oper}(h:o.wp P a w K vH):∃ a' w',K a' w':=by
 unfold Oper.wp at h;generalize (execOp a.eval o).run P w=r at *;cases r with
 | ok n w' =>
  cases n <;>simp only[Oper.upon]at h
  case value v=>exact⟨_,_,h⟩
  case skip=>exact⟨_,_,h⟩
  case defer d=>exact⟨_,_,h⟩
  case enter f args =>
   obtain⟨e,w'',h⟩:=wJ h;cases e with
   | returned v=>exact⟨_,_,h⟩
   | panicked c=>exact h.elim
   | outgrown=>obtain⟨_,_,h⟩:=h;exact h.elim
  case row s args =>
   obtain⟨v,w'',h,_⟩:=h default [];exact⟨_,_,h⟩
 | halt x w'=>cases x <;>simp only[Oper.upon]at h;exact h.elim
theorem BK{o:Oper}{d:Option Tmp}{v:Value}(hs:∀ cs b,o.op≠.select cs b)(h1:∀ t,d=some t->t ∉ o.looksAt ops)(h2:∀ t,d=some t->o.dst≠some t)
    (h:o.wp P (a.put d v) w (fun a' w'=>(∃ u,a'=(a.put d v).put o.dst u)/\K a' w') vH) :
    o.wp P a w (fun a' w'=>(∃ u,a'=a.put o.dst u)/\K (a'.put d v) w') vH:=by
  unfold Oper.wp at *;rw[execOp_put (ops:=ops) o hs a d v h1]at h;generalize (execOp a.eval o).run P w=r at *;have key:∀ u w',(∃ u',(a.put d v).put o.dst u=(a.put d v).put o.dst u')/\K ((a.put d v).put o.dst u) w'->(∃ u',a.put o.dst u=a.put o.dst u')/\K ((a.put o.dst u).put d v) w':=by
    rintro u w' ⟨_,hk⟩;rw[Act.put_comm a v u h2]at hk;exact⟨⟨u,rfl⟩,hk⟩
  cases r with
  | ok n w' =>
    cases n <;>simp only[Oper.upon]at h ⊢
    case value u=>exact key _ _ h
    case skip=>exact key _ _ h
    case defer dd =>
      obtain⟨⟨u,hu⟩,hk⟩:=h;exfalso;have:dd ::(a.put d v).defers=((a.put d v).put o.dst u).defers:=by rw[← hu];cases o.dst <;>rfl
      have e:((a.put d v).put o.dst u).defers=(a.put d v).defers:=by cases o.dst <;>rfl
      rw[e]at this;exact absurd this (by simp)
    case enter f args =>
      refine h.mono ?_;intro e w'' he;cases e with
      | returned u=>exact key _ _ he
      | panicked c=>exact he
      | outgrown=>exact he
    case row s args=>exact h.mono fun u w'' he=>key _ _ he
  | halt x w'=>cases x <;>simp only[Oper.upon]at h ⊢;exact h
theorem bY.of_put{o:Oper}{d:Option Tmp}{v u:Value}{w:World}(hs:∀ cs b,o.op≠.select cs b)(h1:∀ t,d=some t->t ∉ o.looksAt ops):bY P o (a.put d v) w u↔bY P o a w u:=by
 unfold bY;rw[execOp_put (ops:=ops) o hs a d v h1]
def iL(x y:Nat):Bool:=x ==0 || y ==0 || (x ==1 && y ==1)
theorem dF{k:Nat}{o:Oper}(hk:k=0∨k=1)(h:aR P ops C k o K a w):
    ∃ v,((Region.wanted o (yielded ops a.tmps)=true/\(if k=0 then ∀ w',C w'->bY P o a w' v else bY P o a w v))∨(Region.wanted o (yielded ops a.tmps)=false/\v=undef))/\K (a.put o.dst v) w:=by
  unfold aR at h;by_cases hw:Region.wanted o (yielded ops a.tmps)=true
  · simp only[hw,if_true]at h;rcases hk with rfl | rfl
    · obtain⟨v,h1,h2⟩:=h;exact⟨v,.inl ⟨hw,by simpa using h1⟩,h2⟩
    · obtain⟨v,h1,h2⟩:=h;exact⟨v,.inl ⟨hw,by simpa using h1⟩,h2⟩
  · simp only[hw]at h;exact⟨undef,.inr ⟨by simpa using hw,rfl⟩,h⟩
theorem bL{k:Nat}{o:Oper}(hk:k=0∨k=1){v:Value}
    (h:(Region.wanted o (yielded ops a.tmps)=true/\(if k=0 then ∀ w',C w'->bY P o a w' v else bY P o a w v))∨(Region.wanted o (yielded ops a.tmps)=false/\v=undef)) (hK:K (a.put o.dst v) w) :
    aR P ops C k o K a w:=by
  unfold aR;rcases h with⟨hw,h⟩ | ⟨hw,rfl⟩
  · simp only[hw,if_true];rcases hk with rfl | rfl
    · exact⟨v,by simpa using h,hK⟩
    · exact⟨v,by simpa using h,hK⟩
  · simp only[hw];exact hK
theorem fD{k:Nat}{o:Oper}(hk:¬ (k=0∨k=1)):aR P ops C k o K a w =
    (if Region.wanted o (yielded ops a.tmps) then o.wp P a w (fun a' w'=>(∃ u,a'=a.put o.dst u)/\C w'/\K a' w') vH else K (a.put o.dst undef) w):=by
  unfold aR;split
  · split
    · omega
    · omega
    · rfl
  · rfl
theorem AK {i j:Nat} {oi oj:Oper} (hC:C w) (HR:oi.apart ops oj=true) (hc:iL i j=true)
    (EL:∀ cs b,oi.op≠.select cs b) (Dl:∀ cs b,oj.op≠.select cs b)
    (h:aR P ops C i oi (aR P ops C j oj K) a w):aR P ops C j oj (aR P ops C i oi K) a w:=by
  obtain⟨h1,h2,h3⟩:=Oper.apart_spec HR;have h4:∀ d,oj.dst=some d->oi.dst≠some d:=fun d hd he=>h2 d he hd;have wi:∀ v,Region.wanted oi (yielded ops (a.put oj.dst v).tmps)=Region.wanted oi (yielded ops a.tmps):=fun v=>wanted_put oi a oj.dst v h3;have wj:∀ v,Region.wanted oj (yielded ops (a.put oi.dst v).tmps)=Region.wanted oj (yielded ops a.tmps):=fun v=>wanted_put oj a oi.dst v h1;by_cases qi:i=0∨i=1
  · obtain⟨v,hv,hn⟩:=dF qi h;clear h;by_cases qj:j=0∨j=1
    · obtain⟨u,hu,hn⟩:=dF qj hn;refine bL (v:=u) qj ?_ (bL (v:=v) qi ?_ ?_)
      · simp only[wj,bY.of_put (ops:=ops) Dl h1]at hu;exact hu
      · simp only[wi,bY.of_put (ops:=ops) EL h3];exact hv
      · rw[Act.put_comm a u v h4];exact hn
    · -- i quiet, j acts: then i is of kind 0
      have HA:i=0:=by
        simp only[iL,Bool.or_eq_true,Bool.and_eq_true,beq_iff_eq]at hc;omega
      subst HA;rw[fD qj]at hn ⊢;rw[wj]at hn;by_cases hw:Region.wanted oj (yielded ops a.tmps)=true
      · rw[if_pos hw]at hn ⊢;have h':=BK (ops:=ops) (K:=fun a' w'=>C w'/\K a' w') Dl h1 h2 hn;refine Oper.wp_mono ?_ h';rintro a' w' ⟨⟨u,rfl⟩,EB,hK⟩;refine⟨⟨u,rfl⟩,EB,bL (.inl rfl) (v:=v) ?_ hK⟩;simp only[wi,bY.of_put (ops:=ops) EL h3];simpa using hv
      · rw[if_neg hw]at hn ⊢;refine bL (.inl rfl) (v:=v) ?_ ?_
        · simp only[wi,bY.of_put (ops:=ops) EL h3];exact hv
        · rw[Act.put_comm a undef v h4];exact hn
  · -- i acts: j is of kind 0
    have Hz:j=0:=by
      simp only[iL,Bool.or_eq_true,Bool.and_eq_true,beq_iff_eq]at hc;omega
    subst Hz;rw[fD qi]at h;by_cases hw:Region.wanted oi (yielded ops a.tmps)=true
    · rw[if_pos hw]at h;have hx:=h;clear h;obtain⟨a',w',⟨u,rfl⟩,EB,hq⟩:=AF hx;obtain⟨v,hv,_⟩:=dF (.inl rfl) hq;simp only[wj,bY.of_put (ops:=ops) Dl h1,if_true]at hv;refine bL (.inl rfl) (v:=v) (by simpa using hv) ?_;rw[fD qi,wi,if_pos hw];unfold Oper.wp at hx ⊢;rw[execOp_put (ops:=ops) oi EL a oj.dst v h3]
      have key:∀(u:Value)(w'':World),((∃ u',a.put oi.dst u=a.put oi.dst u')/\C w''/\aR P ops C 0 oj K (a.put oi.dst u) w'') →
          (∃ u',(a.put oj.dst v).put oi.dst u=(a.put oj.dst v).put oi.dst u')/\C w''/\K ((a.put oj.dst v).put oi.dst u) w'':=by
        rintro u w'' ⟨_,Ia,hq⟩;obtain⟨v',EK,Df⟩:=dF (.inl rfl) hq;simp only[wj,bY.of_put (ops:=ops) Dl h1,if_true]at EK;have G7:v'=v:=by
          rcases hv with⟨ha,hv⟩ | ⟨ha,rfl⟩ <;>rcases EK with⟨hb,EK⟩ | ⟨hb,rfl⟩
          · exact(EK w hC).unique (hv w hC)
          · rw[ha]at hb;cases hb
          · rw[ha]at hb;cases hb
          · rfl
        subst G7;exact⟨⟨u,rfl⟩,Ia,by rw[Act.put_comm a _ _ h4];exact Df⟩
      generalize (execOp a.eval oi).run P w=r at *;cases r with
      | ok n w' =>
        cases n <;>simp only[Oper.upon]at hx ⊢
        case value u=>exact key _ _ hx
        case skip=>exact key _ _ hx
        case defer dd =>
          obtain⟨⟨u,hu⟩,_⟩:=hx;exfalso;have:dd ::a.defers=(a.put oi.dst u).defers:=by rw[← hu];cases oi.dst <;>rfl
          have e:(a.put oi.dst u).defers=a.defers:=by cases oi.dst <;>rfl
          rw[e]at this;exact absurd this (by simp)
        case enter f args =>
          refine hx.mono ?_;intro e w'' he;cases e with
          | returned u=>exact key _ _ he
          | panicked c=>exact he
          | outgrown=>obtain⟨_,_,he⟩:=he;exact he.elim
        case row s args=>exact hx.mono fun u w'' he=>key _ _ he
      | halt x w'=>cases x <;>simp only[Oper.upon]at hx ⊢;exact hx
    · rw[if_neg hw]at h;obtain⟨v,hv,hK⟩:=dF (.inl rfl) h;simp only[wj,bY.of_put (ops:=ops) Dl h1]at hv;refine bL (.inl rfl) hv ?_;rw[fD qi,wi,if_neg hw];rw[Act.put_comm a _ _ h4];exact hK
theorem qB{kd:dC}{Q:Act->World->Prop}{j:Nat}{oj:Oper}{B:List (Nat×Oper)}(Dl:∀ cs b,oj.op≠.select cs b):
    ∀ (A:List (Nat×Oper)),(∀ x∈A,x.2.apart ops oj=true/\iL (kd x.1) (kd j)=true/\∀ cs b,x.2.op≠.select cs b) →
    ∀(a:Act)(w:World),C w->bZ P ops C kd Q (A++(j,oj) ::B) a w->aR P ops C (kd j) oj (bZ P ops C kd Q (A++B)) a w
  | [],_,_,_,_,h=>h
  | (i,oi) ::A,hA,a,w,hC,h=>by
    have h0:=hA (i,oi) (by simp);refine AK hC h0.1 h0.2.1 h0.2.2 Dl ?_;have:∀ a w,C w->bZ P ops C kd Q (A++(j,oj) ::B) a w->aR P ops C (kd j) oj (bZ P ops C kd Q (A++B)) a w :=
      fun a w hC h=>qB Dl A (fun x hx=>hA x (by simp[hx])) a w hC h
    simp only[List.cons_append,bZ]at h;exact nU hC this h
theorem uN{o:Oper}{Q:Exit->Act->World->Prop}(h:o.wp P a w K vH):o.wp P a w K Q:=by
 unfold Oper.wp at *;generalize (execOp a.eval o).run P w=r at *;cases r with
 | ok n w' =>
  cases n <;>simp only[Oper.upon]at h ⊢
  case enter f args =>
   refine h.mono ?_;intro e w'' he;cases e with
   | returned u=>exact he
   | panicked c=>exact he.elim
   | outgrown=>obtain⟨_,_,he⟩:=he;exact he.elim
  all_goals exact h
 | halt x w'=>cases x <;>simp only[Oper.upon]at h ⊢;exact h.elim
theorem eJ{j:Nat}{o:Oper}{k:Nat}{Q:Exit->Act->World->Prop}(hj:ops[j]?=some o)(hC:C w)(hK:∀ a w,C w->K a w->K' a w)(h:aR P ops C k o K a w):wpOp P ops Q j K' a w:=by
 unfold wpOp;simp only[hj];unfold aR at h;split
 ·rename_i hw;simp only[hw,if_true]at h;left;split at h
  ·obtain⟨v,h1,h2⟩:=h;unfold Oper.wp;rcases h1 w hC with h3 | ⟨h3,rfl⟩ <;>rw[h3] <;>exact hK _ _ hC h2
  ·obtain⟨v,h1,h2⟩:=h;unfold Oper.wp;rcases h1 with h3 | ⟨h3,rfl⟩ <;>rw[h3] <;>exact hK _ _ hC h2
  ·exact uN (Oper.wp_mono (fun a' w' ⟨_,h1,h2⟩=>hK _ _ h1 h2) h)
 ·rename_i hw;simp only[hw]at h;exact hK _ _ hC h
def dT:Nat->List Oper->List (Nat×Oper)
 | _,[]=>[]
 | k,o ::l=>(k,o) ::dT (k+1) l
theorem cK{i:Nat}{o:Oper}:∀ {k:Nat} {l:List Oper},(i,o)∈dT k l↔k<=i/\l[i-k]?=some o
 | k,[]=>by simp[dT]
 | k,x ::l=>by
  simp only[dT,List.mem_cons,Prod.mk.injEq,cK (k:=k+1) (l:=l)];constructor
  ·rintro(⟨rfl,rfl⟩ | ⟨h1,h2⟩)
   ·simp
   ·refine⟨by omega,?_⟩;rw[show i-k=(i-(k+1))+1 by omega];simpa using h2
  ·rintro⟨h1,h2⟩;rcases Nat.eq_or_lt_of_le h1 with h | h
   ·subst h;left;simp at h2;exact⟨rfl,h2.symm⟩
   ·right;refine⟨by omega,?_⟩;rw[show i-k=(i-(k+1))+1 by omega]at h2;simpa using h2
theorem fG:∀(k:Nat)(l:List Oper),(dT k l).Pairwise (fun x y=>x.1<y.1)
 | _,[]=>List.Pairwise.nil
 | k,o ::l=>by
  simp only[dT];refine List.Pairwise.cons ?_ (fG (k+1) l);rintro⟨i,oi⟩ hm;have:=(cK.1 hm).1;show k<i;omega
abbrev cO:=List (Nat×Nat×Nat)
def jC(R:cO)(j i:Nat):Bool:=R.any fun t=>t.1 ==j && t.2.1 ==i
def edgeB(o:Oper)(m:Nat):Bool:=o.after.any fun e=>Region.binds .any e && e.on ==m
def jQ(ops:List Oper)(R:cO):Bool :=
 R.all fun t=>decide (t.2.2<t.1) && (match ops[t.1]? with | some o=>edgeB o t.2.2 | none=>false) && (t.2.2 ==t.2.1 || jC R t.2.2 t.2.1)
def lO(ops:Array Oper)(kd:dC)(R:cO)(x y:Nat×Oper):Bool:=(x.2.apart ops y.2 && iL (kd x.1) (kd y.1)) || jC R y.1 x.1
def AB(l:List (Nat×Oper)):Bool:=l.all fun x=>x.2.after.all fun e=>!Region.binds .any e || decide (e.on<x.1)
def qH(ops:Array Oper)(kd:dC)(R:cO):List (Nat×Oper)->Bool
 | []=>true
 | x ::l=>l.all (lO ops kd R x) && qH ops kd R l
def yH(ops:List Oper)(kd:dC)(R:cO):Bool :=
 Region.noSelect ops.toArray && AB (dT 0 ops) && jQ ops R && qH ops.toArray kd R (dT 0 ops)
theorem lN{kd:dC}{R:cO}:∀ {l:List (Nat×Oper)},qH ops kd R l=true->l.Pairwise (fun x y=>lO ops kd R x y=true)
 | [],_=>List.Pairwise.nil
 | x ::l,h=>by
  simp only[qH,Bool.and_eq_true,List.all_eq_true]at h;exact List.Pairwise.cons h.1 (lN h.2)
def AE(ops:List Oper)(listed:Array Bool):Prop:=∀ j o,ops[j]?=some o->listed.getD j true=true->∀ e∈o.after,Region.binds .any e=true->listed.getD e.on false=true
theorem kR {l:List Oper} {R:cO} (hR:jQ l R=true) {listed:Array Bool} (hd:AE l listed) {i:Nat} (hi:listed.getD i false=false) :
    ∀(j:Nat),jC R j i=true->listed.getD j true=false/\j ∉ Region.ready .any l.toArray listed:=by
  intro j
  induction j using Nat.strongRecOn with
  | _ j ih =>
    intro hw;obtain⟨⟨j',i',m⟩,hm,he⟩:=List.any_eq_true.1 hw;simp only[Bool.and_eq_true,beq_iff_eq]at he;obtain⟨rfl,rfl⟩:=he;have h:=List.all_eq_true.1 hR _ hm;simp only[Bool.and_eq_true,decide_eq_true_eq,Bool.or_eq_true,beq_iff_eq]at h;obtain⟨⟨Cc,he⟩,hc⟩:=h;cases ho:l[j']? with
    | none=>rw[ho]at he;simp at he
    | some o =>
      rw[ho]at he;obtain⟨e,En,hb⟩:=Array.any_eq_true'.1 he;simp only[Bool.and_eq_true,beq_iff_eq]at hb;have Gh:listed.getD m false=false:=by
        rcases hc with rfl | hc
        · exact hi
        · have:=(ih m Cc hc).1;rcases Nat.lt_or_ge m listed.size with h' | h'
          · simp[h']at this ⊢;exact this
          · simp[Array.getElem?_eq_none h']
      constructor
      · cases hj:listed.getD j' true with
        | false=>rfl
        | true =>
          have:=hd j' o ho hj e En hb.1;rw[hb.2,Gh]at this;cases this
      · intro hr;obtain⟨_,o',Dz,Cd⟩:=mem_ready.1 hr;have:o'=o:=by
          have:l[j']?=some o':=by simpa using Dz
          rw[ho]at this;exact(Option.some.inj this).symm
        subst this;have:=Cd e En hb.1;rw[hb.2,Gh]at this;cases this
theorem pP {l :List Oper} {kd:dC} {R:cO} {Qn:Act->World->Prop} {Q:Exit->Act->World->Prop} (hB:yH l kd R=true) (hQ:∀ a w,C w->Qn a w->Q .normal a w) :
    ∀ (n:Nat) (L:List (Nat×Oper)) (listed:Array Bool) (a:Act) (w:World),L.length=n->C w->listed.size=l.length->L.Pairwise (fun x y=>x.1<y.1/\lO l.toArray kd R x y=true) →
      (∀ i o,(i,o)∈L↔(l[i]?=some o/\listed.getD i true=false))->AE l listed->bZ P l.toArray C kd Qn L a w->wpAny P .any l.toArray Q n listed a w:=by
  have GN:=hB;simp only[yH,Bool.and_eq_true]at GN;obtain⟨⟨⟨CZ,CG⟩,Ce⟩,_⟩:=GN;have CE:=Region.noSelect_spec CZ;intro n
  induction n with
  | zero =>
    intro L listed a w hL hC hs hp hm hd h;obtain rfl:L=[]:=List.length_eq_zero_iff.1 hL;refine⟨?_,hQ _ _ hC h⟩;refine List.eq_nil_iff_forall_not_mem.2 fun j hj=>?_;obtain⟨hu,o,ho,_⟩:=mem_ready.1 hj;have:=(hm j o).2 ⟨by simpa using ho,hu⟩;cases this
  | succ n ih =>
    intro L listed a w hL hC hs hp hm hd h;constructor
    · intro hr;exfalso;cases L with
      | nil=>simp at hL
      | cons x L =>
        obtain⟨i,oi⟩:=x;have hi:=(hm i oi).1 (by simp);have:i∈Region.ready .any l.toArray listed:=by
          refine mem_ready.2 ⟨hi.2,oi,by simpa using hi.1,fun e he hb=>?_⟩;have h1:=List.all_eq_true.1 CG (i,oi) (cK.2 ⟨Nat.zero_le _,by simpa using hi.1⟩);have h2:=Array.all_eq_true'.1 h1 e he;simp only[hb,Bool.not_true,Bool.false_or,decide_eq_true_eq]at h2;cases hl:listed.getD e.on true with
          | true =>
            have Cc:i<l.length:=(List.getElem?_eq_some_iff.1 hi.1).1;have:e.on<listed.size:=by omega
            simp[this]at hl ⊢;exact hl
          | false =>
            exfalso;have Cc:i<l.length:=(List.getElem?_eq_some_iff.1 hi.1).1;have EP:=(hm e.on (l[e.on]'(by omega))).2 ⟨by simp,hl⟩;rcases List.mem_cons.1 EP with h3 | h3
            · simp only[Prod.mk.injEq]at h3;omega
            · have:=(List.pairwise_cons.1 hp).1 _ h3;simp only at this;omega
        rw[hr]at this;cases this
    · intro j hj;obtain⟨hu,oj,C2,Cd⟩:=mem_ready.1 hj;have Cs:l[j]?=some oj:=by simpa using C2
      have CB:=(hm j oj).2 ⟨Cs,hu⟩;obtain⟨A,B,rfl⟩:=List.append_of_mem CB;have CF:=List.pairwise_append.1 hp;have hA :∀ x∈A,x.2.apart l.toArray oj=true/\iL (kd x.1) (kd j)=true/\∀ cs b,x.2.op≠.select cs b:=by
        rintro⟨i,oi⟩ hx;have hi:=(hm i oi).1 (by simp[hx]);have h1:=(CF.2.2 (i,oi) hx (j,oj) (by simp)).2;simp only[lO,Bool.or_eq_true,Bool.and_eq_true]at h1;refine⟨?_,?_,fun cs b=>CE i oi cs b (by simpa using hi.1)⟩
        all_goals
          rcases h1 with h1 | h1
          · first | exact h1.1 | exact h1.2
          · exfalso;have Fx:listed.getD i false=false:=by
              have:=hi.2;rcases Nat.lt_or_ge i listed.size with h' | h'
              · simp[h']at this ⊢;exact this
              · simp[Array.getElem?_eq_none h']
            exact(kR Ce hd Fx j h1).2 hj
      have CY:=qB (CE j oj · · C2) A hA a w hC h;refine eJ C2 hC (fun a' w' EC hK=>?_) CY;have Ec:j<listed.size:=by
        rw[hs];exact(List.getElem?_eq_some_iff.1 Cs).1
      have Cg:∀ x,x∈A∨x∈B->x.1≠j:=by
        rintro x (hx | hx)
        · have:=(CF.2.2 x hx (j,oj) (by simp)).1;simp only at this;omega
        · have:=(List.pairwise_cons.1 CF.2.1).1 x hx;simp only at this;omega
      refine ih (A++B) (listed.setIfInBounds j true) a' w' (by simp at hL ⊢;omega) EC (by simpa using hs) ?_ ?_ ?_ hK
      · refine List.pairwise_append.2 ⟨CF.1,(List.pairwise_cons.1 CF.2.1).2,fun x hx y hy=>CF.2.2 x hx y (by simp[hy])⟩
      · intro i o;constructor
        · intro hx;have CA:(i,o)∈A∨(i,o)∈B:=by simpa using hx
          have h1:=(hm i o).1 (by simp only[List.mem_append,List.mem_cons];rcases CA with h | h <;>simp[h]);refine⟨h1.1,?_⟩;have:=Cg _ CA;simp only at this;rw[getD_set_ne true (fun h=>this h.symm)];exact h1.2
        · rintro⟨h1,h2⟩;by_cases Ct:j=i
          · subst Ct;simp[Ec]at h2
          · rw[getD_set_ne true Ct]at h2;have:=(hm i o).2 ⟨h1,h2⟩;simp only[List.mem_append,List.mem_cons,Prod.mk.injEq]at this ⊢;rcases this with h | ⟨h,_⟩ | h
            · exact .inl h
            · exact absurd h.symm Ct
            · exact .inr h
      · intro i o ho hl e he hb;by_cases Ct:j=i
        · subst Ct;have:o=oj:=Option.some.inj (ho.symm.trans Cs);subst this;exact getD_set_true (Cd e he hb)
        · rw[getD_set_ne true Ct]at hl;exact getD_set_true (hd i o ho hl e he hb)
theorem iW{id:Nat}{Q:Exit->Act->World->Prop}{l:List Oper}{kd:dC}{R:cO}(hm:P.follows .mixedOrders=true)(hB:yH l kd R=true)(hC:C w.drew)
    (h:bZ P l.toArray C kd (fun a w=>C w->Q .normal a w) (dT 0 l) a w.drew):(Code.region id l.toArray true).wp P Q a w:=by
  refine wp_region_any hm ?_;have hp:=fG 0 l;have C1:(dT 0 l).Pairwise (fun x y=>lO l.toArray kd R x y=true):=by
    simp only[yH,Bool.and_eq_true]at hB;exact lN hB.2
  have Ch:∀ k (l:List Oper),(dT k l).length=l.length:=by
    intro k l
    induction l generalizing k with
    | nil=>rfl
    | cons o l ih=>simp[dT,ih]
  refine pP (C:=C) (Qn:=fun a w=>C w->Q .normal a w) hB (fun a w hC h=>h hC) l.toArray.size (dT 0 l) _ a _ (by simp[Ch]) hC (by simp) (hp.imp₂ (fun _ _ h1 h2=>⟨h1,h2⟩) C1) ?_ ?_ h
  · intro i o;rw[cK];simp only[Nat.zero_le,true_and,Nat.sub_zero];constructor
    · intro h;refine⟨h,?_⟩;have:=(List.getElem?_eq_some_iff.1 h).1;simp[this]
    · exact fun h=>h.1
  · intro j o ho hl;have:=(List.getElem?_eq_some_iff.1 ho).1;simp[this]at hl
theorem mE{Q:Exit->Act->World->Prop}{l:List Oper}{kd:dC}(hQ:∀ a w,C w->K a w->Q .normal a w):
    ∀(r:List Oper)(k:Nat)(a:Act)(w:World),(∀ j,r[j]?=l[k+j]?)->k+r.length=l.length->C w->bZ P l.toArray C kd K (dT k r) a w->wpOps P l.toArray Q (List.range' k r.length) a w
  | [],_,_,_,_,_,hC,h=>hQ _ _ hC h
  | o ::r,k,a,w,hl,Ch,hC,h=>by
    have h0:l[k]?=some o:=by simpa using(hl 0).symm
    simp only[List.length_cons,List.range'_succ];rw[wpOps_cons];refine eJ (by simpa using h0) hC (fun a' w' EC hK=>?_) h;exact mE hQ r (k+1) a' w' (fun j=>by have:=hl (j+1);simpa[Nat.add_assoc,Nat.add_comm 1 j]using this) (by simp at Ch;omega) EC hK
theorem nS{id:Nat}{Q:Exit->Act->World->Prop}{l:List Oper}{kd:dC}(hC:C w)
    (h:bZ P l.toArray C kd (fun a w=>C w->Q .normal a w) (dT 0 l) a w):(Code.region id l.toArray false).wp P Q a w:=by
  refine wp_region ?_;have:=mE (C:=C) (K:=fun a w=>C w->Q .normal a w) (Q:=Q) (l:=l) (kd:=kd) (fun a w hC h=>h hC) l 0 a w (by simp) (by simp) hC h;rw[List.range_eq_range'];simpa using this
end
end Go.V
/-! The own library V, part X: a region that draws its order and has operations that act and wait for no one another: one walk for each way in which these may come. -/
namespace Go.V
inductive XT where
 | leaf (L:List Nat)
 | split (p q:Nat) (x y:XT)
 | dead (L:List Nat)
def mD(S:List Nat)(j i:Nat):Prop:=∃ S1 S2,S=S1++j ::S2/\i∈S2
def factB(F:List (Nat×Nat))(R:cO)(x y:Nat):Bool :=
 F.any fun f=>f.1 ==x && (f.2 ==y || jC R y f.2)
def zT(ops:Array Oper)(kd:dC)(R:cO)(F:List (Nat×Nat))(x y:Nat×Oper):Bool:=lO ops kd R x y || factB F R x.1 y.1
def qG(ops:Array Oper)(kd:dC)(R:cO)(F:List (Nat×Nat)):List (Nat×Oper)->Bool
 | []=>true
 | x ::l=>l.all (zT ops kd R F x) && qG ops kd R F l
def pick(ops:List Oper)(L:List Nat):List (Nat×Oper):=L.filterMap fun i=>(ops[i]?).map fun o=>(i,o)
def qI:List Nat->Bool
 | []=>true
 | x ::l=>!l.contains x && qI l
def BB(ops:List Oper)(kd:dC)(R:cO)(F:List (Nat×Nat))(L:List Nat):Bool :=
 qI L && (List.range ops.length).all (fun i=>L.contains i) && qG ops.toArray kd R F (pick ops L)
def xB(n:Nat)(F:List (Nat×Nat))(R:cO)(x y:Nat):Bool:=decide (x≠y) && decide (x<n) && decide (y<n) && (F.contains (x,y) || jC R y x)
def wU(n:Nat)(F:List (Nat×Nat))(R:cO)(a:Nat):List Nat->Bool
 | []=>false
 | [z]=>xB n F R z a
 | y ::z ::l=>xB n F R y z && wU n F R a (z ::l)
def mG(ops:List Oper)(kd:dC)(R:cO):XT->List (Nat×Nat)->Bool
 | .leaf L,F=>BB ops kd R F L
 | .split p q x y,F=>decide (p≠q) && mG ops kd R x ((p,q) ::F) && mG ops kd R y ((q,p) ::F)
 | .dead L,F=>match L with
  | []=>false
  | a ::l=>wU ops.length F R a (a ::l)
def A0(ops:List Oper)(kd:dC)(R:cO)(t:XT):Bool :=
 Region.noSelect ops.toArray && AB (dT 0 ops) && jQ ops R && mG ops kd R t []
def wpX(P:Program)(ops:List Oper)(C:World->Prop)(kd:dC)(Q:Act->World->Prop)(a:Act)(w:World):XT->Prop
 | .leaf L=>bZ P ops.toArray C kd Q (pick ops L) a w
 | .split _ _ x y=>wpX P ops C kd Q a w x/\wpX P ops C kd Q a w y
 | .dead _=>True
section
variable {P : Program} {C : World → Prop} {a : Act} {w : World}
theorem lM{ops:Array Oper}{kd:dC}{R:cO}{F:List (Nat×Nat)}:∀ {l:List (Nat×Oper)},qG ops kd R F l=true->l.Pairwise (fun x y=>zT ops kd R F x y=true)
 | [],_=>List.Pairwise.nil
 | x ::l,h=>by
  simp only[qG,Bool.and_eq_true,List.all_eq_true]at h;exact List.Pairwise.cons h.1 (lM h.2)
theorem qN(ops:Array Oper)(fuel t:Nat)(listed:Array Bool):Region.linearise.go .any ops (fuel+1) t listed [] =
    match (Region.ready .any ops listed)[t % (Region.ready .any ops listed).length]? with
    | some i=>i ::Region.linearise.go .any ops fuel (t / (Region.ready .any ops listed).length) (listed.setIfInBounds i true) []
    | none=>[]:=by
  simp only[Region.linearise.go]
  change (match (Region.ready .any ops listed)[t % (Region.ready .any ops listed).length]? with
      | some i=>Region.linearise.go .any ops fuel (t / (Region.ready .any ops listed).length) (listed.setIfInBounds i true) [i]
      | none=>[].reverse)=_
  split
  · rw[linearise_go_acc];rfl
  · rfl
theorem qM(ops:Array Oper)(t:Nat)(listed:Array Bool):Region.linearise.go .any ops 0 t listed []=[]:=by simp[Region.linearise.go]
theorem vD{l:List Oper}{listed:Array Bool}{t:Nat}(Cg:Region.ready .any l.toArray listed≠[]):∃ j,(Region.ready .any l.toArray listed)[t % (Region.ready .any l.toArray listed).length]?=some j/\j∈Region.ready .any l.toArray listed:=by
 have CM:0<(Region.ready .any l.toArray listed).length:=List.length_pos_iff.2 Cg;have Cc:=Nat.mod_lt t CM;exact⟨_,List.getElem?_eq_getElem Cc,List.getElem_mem Cc⟩
theorem Bj {l :List Oper} (CG:AB (dT 0 l)=true):∀ (n t:Nat) (L:List (Nat×Oper)) (listed:Array Bool),L.length=n->listed.size=l.length->L.Pairwise (fun x y=>x.1<y.1) →
    (∀ i o,(i,o)∈L↔(l[i]?=some o/\listed.getD i true=false))->(Region.linearise.go .any l.toArray n t listed []).Perm (L.map Prod.fst):=by
  intro n
  induction n with
  | zero =>
    intro t L listed hL hs hp hm;obtain rfl:L=[]:=List.length_eq_zero_iff.1 hL;rw[qM];exact List.Perm.refl _
  | succ n ih =>
    intro t L listed hL hs hp hm;have Cg : Region.ready .any l.toArray listed≠[]:=by
      intro hr;cases L with
      | nil=>simp at hL
      | cons x L =>
        obtain⟨i,oi⟩:=x;have hi:=(hm i oi).1 (by simp);have:i∈Region.ready .any l.toArray listed:=by
          refine mem_ready.2 ⟨hi.2,oi,by simpa using hi.1,fun e he hb=>?_⟩;have h1:=List.all_eq_true.1 CG (i,oi) (cK.2 ⟨Nat.zero_le _,by simpa using hi.1⟩);have h2:=Array.all_eq_true'.1 h1 e he;simp only[hb,Bool.not_true,Bool.false_or,decide_eq_true_eq]at h2;cases hl:listed.getD e.on true with
          | true =>
            have Cc:i<l.length:=(List.getElem?_eq_some_iff.1 hi.1).1;have:e.on<listed.size:=by omega
            simp[this]at hl ⊢;exact hl
          | false =>
            exfalso;have Cc:i<l.length:=(List.getElem?_eq_some_iff.1 hi.1).1;have EP:=(hm e.on (l[e.on]'(by omega))).2 ⟨by simp,hl⟩;rcases List.mem_cons.1 EP with h3 | h3
            · simp only[Prod.mk.injEq]at h3;omega
            · have:=(List.pairwise_cons.1 hp).1 _ h3;simp only at this;omega
        rw[hr]at this;cases this
    obtain⟨j,Hy,hj⟩:=vD (t:=t) Cg;rw[qN,Hy];obtain⟨hu,oj,C2,Cd⟩:=mem_ready.1 hj;have Cs:l[j]?=some oj:=by simpa using C2
    have CB:=(hm j oj).2 ⟨Cs,hu⟩;obtain⟨A,B,rfl⟩:=List.append_of_mem CB;have CF:=List.pairwise_append.1 hp;have Ec:j<listed.size:=by
      rw[hs];exact(List.getElem?_eq_some_iff.1 Cs).1
    have Fo:∀ x,x∈A∨x∈B->x.1≠j:=by
      rintro x (hx | hx)
      · have:=CF.2.2 x hx (j,oj) (by simp);simp only at this;omega
      · have:=(List.pairwise_cons.1 CF.2.1).1 x hx;simp only at this;omega
    have Fl :=ih (t / (Region.ready .any l.toArray listed).length) (A++B) (listed.setIfInBounds j true) (by simp at hL ⊢;omega) (by simpa using hs)
      (List.pairwise_append.2 ⟨CF.1,(List.pairwise_cons.1 CF.2.1).2,fun x hx y hy=>CF.2.2 x hx y (by simp[hy])⟩) (by
        intro i o;constructor
        · intro hx;have CA:(i,o)∈A∨(i,o)∈B:=by simpa using hx
          have h1:=(hm i o).1 (by simp only[List.mem_append,List.mem_cons];rcases CA with h | h <;>simp[h]);refine⟨h1.1,?_⟩;have:=Fo _ CA;simp only at this;rw[getD_set_ne true (fun h=>this h.symm)];exact h1.2
        · rintro⟨h1,h2⟩;by_cases Ct:j=i
          · subst Ct;simp[Ec]at h2
          · rw[getD_set_ne true Ct]at h2;have:=(hm i o).2 ⟨h1,h2⟩;simp only[List.mem_append,List.mem_cons,Prod.mk.injEq]at this ⊢;rcases this with h | ⟨h,_⟩ | h
            · exact .inl h
            · exact absurd h.symm Ct
            · exact .inr h)
    rw[List.map_append,List.map_cons];refine(List.Perm.cons j Fl).trans ?_;rw[List.map_append];exact(List.perm_middle (a:=j)).symm
theorem mD.cons{S:List Nat}{j i k:Nat}(h:mD S j i):mD (k ::S) j i:=by
 obtain⟨S1,S2,rfl,h⟩:=h;exact⟨k ::S1,S2,rfl,h⟩
theorem mixS {l :List Oper} {kd:dC} {R:cO} {Qn:Act->World->Prop} {Q:Exit->Act->World->Prop} (CZ:Region.noSelect l.toArray=true) (Ce:jQ l R=true) (hQ:∀ a w,C w->Qn a w->Q .normal a w) :
    ∀ (n t:Nat) (L:List (Nat×Oper)) (listed:Array Bool) (a:Act) (w:World),L.length=n->C w->listed.size=l.length →
      (Region.linearise.go .any l.toArray n t listed []).Perm (L.map Prod.fst)->(L.map Prod.fst).Nodup →
      L.Pairwise (fun x y=>lO l.toArray kd R x y=true∨¬ mD (Region.linearise.go .any l.toArray n t listed []) y.1 x.1) →
      (∀ i o,(i,o)∈L↔(l[i]?=some o/\listed.getD i true=false))->AE l listed->bZ P l.toArray C kd Qn L a w->wpOps P l.toArray Q (Region.linearise.go .any l.toArray n t listed []) a w:=by
  have CE:=Region.noSelect_spec CZ;intro n
  induction n with
  | zero =>
    intro t L listed a w hL hC hs Ci CI hp hm hd h;obtain rfl:L=[]:=List.length_eq_zero_iff.1 hL;rw[qM];exact hQ _ _ hC h
  | succ n ih =>
    intro t L listed a w hL hC hs Ci CI hp hm hd h;rw[qN]at Ci hp ⊢;cases hi:(Region.ready .any l.toArray listed)[t % (Region.ready .any l.toArray listed).length]? with
    | none =>
      rw[hi]at Ci;have:=Ci.length_eq;simp at this;omega
    | some j =>
      rw[hi]at Ci hp;simp only at Ci hp ⊢;have hj:j∈Region.ready .any l.toArray listed:=List.mem_of_getElem? hi;obtain⟨hu,oj,C2,Cd⟩:=mem_ready.1 hj;have Cs:l[j]?=some oj:=by simpa using C2
      have CB:=(hm j oj).2 ⟨Cs,hu⟩;obtain⟨A,B,rfl⟩:=List.append_of_mem CB;have CF:=List.pairwise_append.1 hp;have C0:(Region.linearise.go .any l.toArray n (t / (Region.ready .any l.toArray listed).length) (listed.setIfInBounds j true) []).Perm ((A++B).map Prod.fst):=by
        have h1:(j ::Region.linearise.go .any l.toArray n (t / (Region.ready .any l.toArray listed).length) (listed.setIfInBounds j true) []).Perm (j ::(A++B).map Prod.fst):=by
          refine Ci.trans ?_;rw[List.map_append,List.map_cons,List.map_append];exact List.perm_middle (a:=j)
        exact h1.cons_inv
      have DZ:j ∉ (A++B).map Prod.fst/\((A++B).map Prod.fst).Nodup:=by
        have:(j ::(A++B).map Prod.fst).Nodup:=by
          refine List.Perm.nodup_iff ?_ |>.1 CI;rw[List.map_append,List.map_cons,List.map_append];exact List.perm_middle (a:=j)
        exact List.nodup_cons.1 this
      have Cg:∀ x,x∈A∨x∈B->x.1≠j:=by
        intro x hx e;exact DZ.1 (List.mem_map.2 ⟨x,by simpa using hx,e⟩)
      have hA : ∀ x∈A,x.2.apart l.toArray oj=true/\iL (kd x.1) (kd j)=true/\∀ cs b,x.2.op≠.select cs b:=by
        rintro⟨i,oi⟩ hx;have Gn:=(hm i oi).1 (by simp[hx]);have h1:=CF.2.2 (i,oi) hx (j,oj) (by simp);have DF :(oi.apart l.toArray oj && iL (kd i) (kd j))=true:=by
          rcases h1 with h1 | h1
          · simp only[lO,Bool.or_eq_true]at h1;rcases h1 with h1 | h1
            · exact h1
            · exfalso;have Fx:listed.getD i false=false:=by
                have:=Gn.2;rcases Nat.lt_or_ge i listed.size with h' | h'
                · simp[h']at this ⊢;exact this
                · simp[Array.getElem?_eq_none h']
              exact(kR Ce hd Fx j h1).2 hj
          · exfalso;refine h1 ⟨[],_,rfl,?_⟩;refine C0.symm.subset (List.mem_map.2 ⟨(i,oi),by simp[hx],rfl⟩)
        simp only[Bool.and_eq_true]at DF;exact⟨DF.1,DF.2,fun cs b=>CE i oi cs b (by simpa using Gn.1)⟩
      have CY:=qB (CE j oj · · C2) A hA a w hC h;rw[wpOps_cons];refine eJ C2 hC (fun a' w' EC hK=>?_) CY;have Ec:j<listed.size:=by
        rw[hs];exact(List.getElem?_eq_some_iff.1 Cs).1
      refine ih _ (A++B) (listed.setIfInBounds j true) a' w' (by simp at hL ⊢;omega) EC (by simpa using hs) C0 DZ.2 ?_ ?_ ?_ hK
      · have Ic:=List.pairwise_append.2 ⟨CF.1,(List.pairwise_cons.1 CF.2.1).2,fun x hx y hy=>CF.2.2 x hx y (by simp[hy])⟩;refine Ic.imp ?_;rintro x y (h1 | h1)
        · exact .inl h1
        · exact .inr fun h2=>h1 h2.cons
      · intro i o;constructor
        · intro hx;have CA:(i,o)∈A∨(i,o)∈B:=by simpa using hx
          have h1:=(hm i o).1 (by simp only[List.mem_append,List.mem_cons];rcases CA with h | h <;>simp[h]);refine⟨h1.1,?_⟩;have:=Cg _ CA;simp only at this;rw[getD_set_ne true (fun h=>this h.symm)];exact h1.2
        · rintro⟨h1,h2⟩;by_cases Ct:j=i
          · subst Ct;simp[Ec]at h2
          · rw[getD_set_ne true Ct]at h2;have:=(hm i o).2 ⟨h1,h2⟩;simp only[List.mem_append,List.mem_cons,Prod.mk.injEq]at this ⊢;rcases this with h | ⟨h,_⟩ | h
            · exact .inl h
            · exact absurd h.symm Ct
            · exact .inr h
      · intro i o ho hl e he hb;by_cases Ct:j=i
        · subst Ct;have:o=oj:=Option.some.inj (ho.symm.trans Cs);subst this;exact getD_set_true (Cd e he hb)
        · rw[getD_set_ne true Ct]at hl;exact getD_set_true (hd i o ho hl e he hb)
theorem xQ{y:Nat}:∀ {A A' B B':List Nat},(A++y ::B).Nodup->A++y ::B=A'++y ::B'->B=B'
 | [],[],B,B',_,h=>by simpa using h
 | [],x ::A',B,B',hn,h=>by
  simp only[List.nil_append,List.cons_append,List.cons.injEq]at h;obtain⟨rfl,rfl⟩:=h;have:=(List.nodup_cons.1 hn).1;exact absurd (by simp) this
 | x ::A,[],B,B',hn,h=>by
  simp only[List.nil_append,List.cons_append,List.cons.injEq]at h;obtain⟨rfl,_⟩:=h;have:=(List.nodup_cons.1 hn).1;exact absurd (by simp) this
 | x ::A,x' ::A',B,B',hn,h=>by
  simp only[List.cons_append,List.cons.injEq]at h;exact xQ (List.nodup_cons.1 hn).2 h.2
theorem mD.trans{S:List Nat}(hn:S.Nodup){m y x:Nat}(h:mD S m y)(h':mD S y x):mD S m x:=by
 obtain⟨S1,S2,rfl,h1⟩:=h;obtain⟨T1,T2,h2,h3⟩:=h';obtain⟨U1,U2,rfl⟩:=List.append_of_mem h1;have e:(S1++m ::U1)++y ::U2=T1++y ::T2:=by rw[← h2];simp
 have Dr:((S1++m ::U1)++y ::U2).Nodup:=by rw[e,← h2];exact hn
 have:=xQ Dr e;subst this;exact⟨S1,U1++y ::U2,rfl,by simp[h3]⟩
theorem mD.irrefl{S:List Nat}(hn:S.Nodup){x:Nat}(h:mD S x x):False:=by
 obtain⟨S1,S2,rfl,h1⟩:=h;have:=(List.nodup_append.1 hn).2.1;exact(List.nodup_cons.1 this).1 h1
theorem mD.total{S:List Nat}{x y:Nat}(hx:x∈S)(hy:y∈S)(Cg:x≠y):mD S x y∨mD S y x:=by
 obtain⟨S1,S2,rfl⟩:=List.append_of_mem hx;rcases List.mem_append.1 hy with h | h
 ·obtain⟨T1,T2,rfl⟩:=List.append_of_mem h;exact .inr ⟨T1,T2++x ::S2,by simp,by simp⟩
 ·rcases List.mem_cons.1 h with h | h
  ·exact absurd h.symm Cg
  ·exact .inl ⟨S1,S2,rfl,h⟩
theorem oN{S:List Nat}(hn:S.Nodup){n:Nat}{F:List (Nat×Nat)}{R:cO}(hl:∀ x y,xB n F R x y=true->mD S x y){a:Nat}:∀ {z:Nat} {l:List Nat},wU n F R a (z ::l)=true->mD S z a
 | z,[],h=>hl _ _ h
 | z,y ::l,h=>by
  simp only[wU,Bool.and_eq_true]at h;exact mD.trans hn (hl _ _ h.1) (oN hn hl h.2)
theorem tE {l :List Oper} {R:cO} (Ce:jQ l R=true) {y m:Nat} (hw:jC R y m=true):∀(n t:Nat)(listed:Array Bool),listed.size=l.length->AE l listed->listed.getD m false=false->(m<l.length) →
    y∈Region.linearise.go .any l.toArray n t listed []->mD (Region.linearise.go .any l.toArray n t listed []) m y:=by
  intro n
  induction n with
  | zero=>intro t listed _ _ _ _ h;rw[qM]at h;cases h
  | succ n ih =>
    intro t listed hs hd hm Hs h;rw[qN]at h ⊢;cases hi:(Region.ready .any l.toArray listed)[t % (Region.ready .any l.toArray listed).length]? with
    | none=>rw[hi]at h;cases h
    | some j =>
      rw[hi]at h;simp only at h ⊢;have hj:j∈Region.ready .any l.toArray listed:=List.mem_of_getElem? hi;obtain⟨hu,oj,C2,Cd⟩:=mem_ready.1 hj;have Cs:l[j]?=some oj:=by simpa using C2
      rcases List.mem_cons.1 h with e | h'
      · exfalso;rw[← e]at hj;exact(kR Ce hd hm y hw).2 hj
      · by_cases Gi:m=j
        · subst Gi;exact⟨[],_,rfl,h'⟩
        · refine(ih _ (listed.setIfInBounds j true) (by simpa using hs) ?_ ?_ Hs h').cons
          · intro i o ho hl e he hb;by_cases Ct:j=i
            · subst Ct;have:o=oj:=Option.some.inj (ho.symm.trans Cs);subst this;exact getD_set_true (Cd e he hb)
            · rw[getD_set_ne true Ct]at hl;exact getD_set_true (hd i o ho hl e he hb)
          · rw[getD_set_ne false (fun h=>Gi h.symm)];exact hm
theorem kB{l:List Oper}{L:List Nat}{i:Nat}{o:Oper}:(i,o)∈pick l L↔i∈L/\l[i]?=some o:=by
 simp only[pick,List.mem_filterMap];constructor
 ·rintro⟨j,hj,h⟩;cases ho:l[j]? with
  | none=>rw[ho]at h;cases h
  | some o' =>
   rw[ho]at h;simp only[Option.map_some,Option.some.injEq,Prod.mk.injEq]at h;obtain⟨rfl,rfl⟩:=h;exact⟨hj,ho⟩
 ·rintro⟨h1,h2⟩;exact⟨i,h1,by rw[h2];rfl⟩
theorem lP:∀ {L:List Nat},qI L=true->L.Nodup
 | [],_=>List.nodup_nil
 | x ::l,h=>by
  simp only[qI,Bool.and_eq_true,Bool.not_eq_true']at h;refine List.nodup_cons.2 ⟨?_,lP h.2⟩;intro hm;have:=h.1;rw[List.contains_iff_mem.2 hm]at this;cases this
theorem mW{l:List Oper}:∀ {L:List Nat},L.Nodup->((pick l L).map Prod.fst).Nodup
 | [],_=>List.nodup_nil
 | x ::L,h=>by
  have h':=List.nodup_cons.1 h;have ih:=mW (l:=l) h'.2;unfold pick;simp only[List.filterMap_cons];cases ho:l[x]? with
  | none=>exact ih
  | some o =>
   simp only[Option.map_some,List.map_cons];refine List.nodup_cons.2 ⟨?_,ih⟩;intro hm;obtain⟨⟨i,o'⟩,h1,h2⟩:=List.mem_map.1 hm;simp only at h2;subst h2;exact h'.1 (kB.1 h1).1
theorem iG:∀(k:Nat)(l:List Oper),(dT k l).length=l.length
 | k,[]=>rfl
 | k,o ::l=>by simp[dT,iG (k+1) l]
theorem lI {id:Nat} {Q:Exit->Act->World->Prop} {l:List Oper} {kd:dC} {R:cO} {tr:XT} (hm:P.follows .mixedOrders=true) (hB:A0 l kd R tr=true) (hC:C w.drew)
    (h:wpX P l C kd (fun a w=>C w->Q .normal a w) a w.drew tr):(Code.region id l.toArray true).wp P Q a w:=by
  simp only[A0,Bool.and_eq_true]at hB;obtain⟨⟨⟨CZ,CG⟩,Ce⟩,DR⟩:=hB;refine wp_region_draw fun t=>?_;simp only[Region.schedule,hm,Bool.true_or,if_true];have Du:l.toArray.size=l.length:=by simp
  have DQ:∀ i o,l[i]?=some o->(Array.replicate l.length false).getD i true=false:=by
    intro i o ho;have:=(List.getElem?_eq_some_iff.1 ho).1;simp[this]
  have C6:AE l (Array.replicate l.length false):=by
    intro j o ho hl;have:=(List.getElem?_eq_some_iff.1 ho).1;simp[this]at hl
  have Ci:=Bj CG l.length t (dT 0 l) (Array.replicate l.length false) (iG 0 l) (by simp) (fG 0 l) (by
    intro i o;rw[cK];simp only[Nat.zero_le,true_and,Nat.sub_zero];exact⟨fun h=>⟨h,DQ i o h⟩,fun h=>h.1⟩)
  have El:((dT 0 l).map Prod.fst).Nodup:=by
    rw[List.Nodup,List.pairwise_map];exact(fG 0 l).imp (fun h=>by omega)
  have EA:(Region.linearise.go .any l.toArray l.length t (Array.replicate l.length false) []).Nodup:=Ci.nodup_iff.2 El;have Cd:∀ i,i<l.length->i∈Region.linearise.go .any l.toArray l.length t (Array.replicate l.length false) []:=by
    intro i hi;refine Ci.symm.subset (List.mem_map.2 ⟨(i,l[i]),cK.2 ⟨Nat.zero_le _,by simp⟩,rfl⟩)
  have key:∀ (tr:XT) (F:List (Nat×Nat)),mG l kd R tr F=true->(∀ f∈F,¬ mD (Region.linearise.go .any l.toArray l.length t (Array.replicate l.length false) []) f.2 f.1) →
      wpX P l C kd (fun a w=>C w->Q .normal a w) a w.drew tr->wpOps P l.toArray Q (Region.linearise.go .any l.toArray l.length t (Array.replicate l.length false) []) a w.drew:=by
    intro tr
    induction tr with
    | leaf L =>
      intro F hT hF hX;simp only[mG,BB,Bool.and_eq_true]at hT;obtain⟨⟨hn,FD⟩,Dx⟩:=hT;have CI:=mW (l:=l) (lP hn);have CB:∀ i o,(i,o)∈pick l L↔l[i]?=some o:=by
        intro i o;rw[kB];refine⟨fun h=>h.2,fun h=>⟨?_,h⟩⟩;have hi:=(List.getElem?_eq_some_iff.1 h).1;have:=List.all_eq_true.1 FD i (List.mem_range.2 hi);exact List.contains_iff_mem.1 this
      have DW:((dT 0 l).map Prod.fst).Perm ((pick l L).map Prod.fst):=by
        refine(List.perm_ext_iff_of_nodup El CI).2 fun i=>?_;simp only[List.mem_map];constructor
        · rintro⟨⟨i',o⟩,h1,rfl⟩;exact⟨(i',o),(CB _ _).2 (by simpa using(cK.1 h1).2),rfl⟩
        · rintro⟨⟨i',o⟩,h1,rfl⟩;exact⟨(i',o),cK.2 ⟨Nat.zero_le _,by simpa using(CB _ _).1 h1⟩,rfl⟩
      have Ch:(pick l L).length=l.length:=by
        have:=DW.length_eq;simp only[List.length_map,iG]at this;exact this.symm
      refine mixS (C:=C) (Qn:=fun a w=>C w->Q .normal a w) CZ Ce (fun a w hC h=>h hC) l.length t (pick l L) _ a _ Ch hC (by simp) (Ci.trans DW) CI ?_ ?_ C6 hX
      · refine(lM Dx).imp ?_;rintro⟨x,ox⟩ ⟨y,oy⟩ h1;simp only[zT,Bool.or_eq_true]at h1;rcases h1 with h1 | h1
        · exact .inl h1
        · right;obtain⟨⟨f1,f2⟩,hf,he⟩:=List.any_eq_true.1 h1;simp only[Bool.and_eq_true,beq_iff_eq,Bool.or_eq_true]at he;obtain⟨rfl,he⟩:=he;have Fp:=hF _ hf;simp only at Fp;rcases he with rfl | he
          · exact Fp
          · intro hb;refine Fp (mD.trans EA ?_ hb)
            -- y waits for f2
            obtain⟨⟨j',i',m'⟩,EP,En⟩:=List.any_eq_true.1 he;simp only[Bool.and_eq_true,beq_iff_eq]at En;obtain⟨rfl,rfl⟩:=En;have F7:j'∈Region.linearise.go .any l.toArray l.length t (Array.replicate l.length false) []:=by
              obtain⟨S1,S2,e1,_⟩:=hb;rw[e1];simp
            have Dg:j'<l.length:=by
              obtain⟨⟨i2,o2⟩,h2,h3⟩:=List.mem_map.1 (Ci.subset F7);have h4:=(cK.1 h2).2;have:=(List.getElem?_eq_some_iff.1 h4).1;simp only at h3;omega
            have Cc:i'<l.length:=by
              -- what is waited for comes ahead in the text
              have:∀ j,j<l.length->jC R j i'=true->i'<l.length:=by
                intro j
                induction j using Nat.strongRecOn with
                | _ j ih2 =>
                  intro hj hw;obtain⟨⟨j1,i1,m1⟩,Ht,Gq⟩:=List.any_eq_true.1 hw;simp only[Bool.and_eq_true,beq_iff_eq]at Gq;obtain⟨rfl,rfl⟩:=Gq;have h2:=List.all_eq_true.1 Ce _ Ht;simp only[Bool.and_eq_true,decide_eq_true_eq,Bool.or_eq_true,beq_iff_eq]at h2;obtain⟨⟨Cc,_⟩,hc⟩:=h2;rcases hc with h3 | hc
                  · omega
                  · exact ih2 m1 Cc (by omega) hc
              exact this j' Dg he
            refine tE Ce he l.length t _ (by simp) C6 ?_ Cc F7;simp[Cc]
      · intro i o;rw[CB];exact⟨fun h=>⟨h,DQ i o h⟩,fun h=>h.1⟩
    | split p q x y ihx ihy =>
      intro F hT hF hX;simp only[mG,Bool.and_eq_true,decide_eq_true_eq]at hT;obtain⟨⟨Iz,hx⟩,hy⟩:=hT;by_cases hb:mD (Region.linearise.go .any l.toArray l.length t (Array.replicate l.length false) []) q p
      · refine ihy ((q,p) ::F) hy ?_ hX.2;intro f hf;rcases List.mem_cons.1 hf with e | e
        · subst e;exact fun h=>mD.irrefl EA (mD.trans EA h hb)
        · exact hF f e
      · refine ihx ((p,q) ::F) hx ?_ hX.1;intro f hf;rcases List.mem_cons.1 hf with e | e
        · subst e;exact hb
        · exact hF f e
    | dead L =>
      intro F hT hF hX;simp only[mG]at hT;cases L with
      | nil=>cases hT
      | cons z r =>
        refine(mD.irrefl EA (oN EA (fun x y F8=>?_) hT)).elim;simp only[xB,Bool.and_eq_true,decide_eq_true_eq,Bool.or_eq_true]at F8;obtain⟨⟨⟨Cg,hx⟩,hy⟩,h1 | h1⟩:=F8
        · exact(mD.total (Cd x hx) (Cd y hy) Cg).resolve_right (hF (x,y) (List.contains_iff_mem.1 h1))
        · exact tE Ce h1 l.length t _ (by simp) C6 (by simp[hx]) hx (Cd y hy)
  have h1:=key tr [] DR (by simp) h;have h2:wpOps P l.toArray Q (Region.linearise.go .any l.toArray l.toArray.size t (Array.replicate l.toArray.size false) []) a w.drew:=by rw[Du];exact h1
  exact h2
end
end Go.V
/-! The own library V, part 2: what must hold for one operation to go through, and what then stands in its slot. -/
namespace Go.V
/-! ### Types, in short -/
inductive LD where
 | int (k:IntKind) | bool | str | ptr (e:Nat) | slice (e:Nat) | arr (n e:Nat) | map (k e:Nat) | struct (fs:List (Nat×Nat)) | tup (ts:List Nat) | other
inductive Sh where
 | int (k:IntKind) | bool | str | slice | ptr | map | any | addr | cst (x:Value)
structure TE where
 ld:LD
 size:Nat
 bytes:Nat
 zero:Value
 shs:List Sh
def nD:TypeDesc->LD
 | .int k=>.int k
 | .bool=>.bool
 | .string=>.str
 | .pointer e=>.ptr e
 | .slice e=>.slice e
 | .array n e=>.arr n e
 | .map k e=>.map k e
 | .struct fs=>.struct (fs.toList.map fun f=>(f.offset,f.type))
 | .tuple ts=>.tup ts.toList
 | _=>.other
abbrev nP:=List (Nat×TE)
def tf:nP->Nat->Option TE
 | [],_=>none
 | (i,e) ::r,t=>bif Nat.beq i t then some e else tf r t
def TyOk(P:Program)(e:Nat×TE):Prop :=
 (P.info? e.1).map (fun i=>(i.size,i.bytes,i.zero))=some (e.2.size,e.2.bytes,some e.2.zero)/\(P.underlying e.1).map nD=some e.2.ld
def mB(P:Program)(T:nP):Prop:=∀ e∈T,TyOk P e
theorem zE:∀ {T:nP} {t:Nat} {e:TE},tf T t=some e->(t,e)∈T
 | (i,x) ::r,t,e,h=>by
  unfold tf at h;cases hb:Nat.beq i t with
  | true =>
   rw[hb]at h;have:i=t:=Nat.eq_of_beq_eq_true hb;subst this;simp at h;subst h;exact List.mem_cons_self
  | false =>
   rw[hb]at h;exact List.mem_cons_of_mem _ (zE h)
structure Ty(P:Program)(t:Nat)(e:TE):Prop where
 info:∃ i,P.info? t=some i/\i.size=e.size/\i.bytes=e.bytes/\i.zero=some e.zero
 und:∃ d,P.underlying t=some d/\nD d=e.ld
theorem mB.get{P:Program}{T:nP}(h:mB P T){t:Nat}{e:TE}(ht:tf T t=some e):Ty P t e:=by
 obtain⟨h1,h2⟩:=h _ (zE ht);obtain⟨i,hi,he⟩:=Option.map_eq_some_iff.1 h1;obtain⟨d,hd,hl⟩:=Option.map_eq_some_iff.1 h2;simp only[Prod.mk.injEq]at he;exact⟨⟨i,hi,he.1,he.2.1,he.2.2⟩,d,hd,hl⟩
section
variable {P : Program} {t : Nat} {e : TE} (w : World)
theorem Ty.sizeOf(h:Ty P t e):(Go.sizeOf t).run P w=.ok e.size w:=by
 obtain⟨i,hi,h1,_⟩:=h.info;simp[Go.sizeOf,typeInfo,program,Sem.run,hi,h1]
theorem Ty.zeroValue(h:Ty P t e):(Go.zeroValue t).run P w=.ok e.zero w:=by
 obtain⟨i,hi,_,_,h1⟩:=h.info;simp[Go.zeroValue,typeInfo,program,Sem.run,hi,h1]
theorem Ty.run_und{d:TypeDesc}(hd:P.underlying t=some d):(Go.underlying t).run P w=.ok d w:=by
 simp[Go.underlying,program,Sem.run,hd]
theorem Ty.slice(h:Ty P t e){x:Nat}(hl:e.ld=.slice x):P.underlying t=some (.slice x):=by
 obtain⟨d,hd,h1⟩:=h.und;rw[hl]at h1;cases d <;>simp[nD]at h1;subst h1;exact hd
theorem Ty.ptr(h:Ty P t e){x:Nat}(hl:e.ld=.ptr x):P.underlying t=some (.pointer x):=by
 obtain⟨d,hd,h1⟩:=h.und;rw[hl]at h1;cases d <;>simp[nD]at h1;subst h1;exact hd
theorem Ty.arr(h:Ty P t e){n x:Nat}(hl:e.ld=.arr n x):P.underlying t=some (.array n x):=by
 obtain⟨d,hd,h1⟩:=h.und;rw[hl]at h1;cases d <;>simp[nD]at h1;obtain⟨rfl,rfl⟩:=h1;exact hd
theorem Ty.map(h:Ty P t e){n x:Nat}(hl:e.ld=.map n x):P.underlying t=some (.map n x):=by
 obtain⟨d,hd,h1⟩:=h.und;rw[hl]at h1;cases d <;>simp[nD]at h1;obtain⟨rfl,rfl⟩:=h1;exact hd
theorem Ty.struct(h:Ty P t e){fs:List (Nat×Nat)}(hl:e.ld=.struct fs):∃ a,P.underlying t=some (.struct a)/\a.toList.map (fun f=>(f.offset,f.type))=fs:=by
 obtain⟨d,hd,h1⟩:=h.und;rw[hl]at h1;cases d <;>simp[nD]at h1;exact⟨_,hd,h1⟩
theorem Ty.int(h:Ty P t e){k:IntKind}(hl:e.ld=.int k):P.underlying t=some (.int k):=by
 obtain⟨d,hd,h1⟩:=h.und;rw[hl]at h1;cases d <;>simp[nD]at h1;subst h1;exact hd
theorem Ty.str(h:Ty P t e)(hl:e.ld=.str):P.underlying t=some .string:=by
 obtain⟨d,hd,h1⟩:=h.und;rw[hl]at h1;cases d <;>simp[nD]at h1;exact hd
def LD.agg:LD->Bool
 | .struct _ | .arr _ _=>true
 | _=>false
theorem Ty.isAgg(h:Ty P t e):(Go.isAgg t).run P w=.ok e.ld.agg w:=by
 obtain⟨d,hd,h1⟩:=h.und;simp only[Go.isAgg,Sem.run_bind,Ty.run_und w hd,Result.andThen_ok];rw[← h1];cases d <;>simp[nD,LD.agg]
end
/-! ### Slots -/
inductive SV where
 | un
 | v (x:Value)
 | b (c:Bool)
 | p (q:Prop) (d:Decidable q)
abbrev Fr:=Nat->SV
def upd(F:Fr)(d:Nat)(s:SV):Fr:=fun t=>bif Nat.beq t d then s else F t
def dS:SV->Value->Prop
 | .un,_=>True
 | .v x,y=>y=x
 | .b c,y=>y=.bool c
 | .p q d,y=>y=.bool (@decide q d)
def Ag(F:Fr)(a:Act):Prop:=∀ t,dS (F t) (a.tmps.getD t undef)
def ev(F:Fr):Operand->SV
 | .tmp t=>F t
 | .const x=>.v x
 | .global g=>.v (.pointer (some ⟨g,0,none⟩))
 | .func f=>.v (.func (.func f) #[] #[])
theorem Ag.ev{F:Fr}{a:Act}(h:Ag F a)(x:Operand):dS (ev F x) (a.eval x):=by
 cases x with
 | tmp t=>exact h t
 | _=>rfl
theorem Ag.put{F:Fr}{a:Act}{s:SV}{v:Value}{d n:Nat}(h:Ag F a)(hn:a.tmps.size=n)(hd:d<n)(hs:dS s v):Ag (upd F d s) (a.put (some d) v):=by
 intro t;unfold upd;cases hb:Nat.beq t d with
 | true =>
  have:t=d:=Nat.eq_of_beq_eq_true hb;subst this;simp[Act.put,hn,hd,hs]
 | false =>
  have Cg:d≠t:=fun e=>by subst e;simp at hb
  have:=h t;simp only[cond_false];simpa[Act.put,Array.getElem?_setIfInBounds_ne Cg]using this
def mk:Value->SV
 | .bool c=>.b c
 | x=>.v x
theorem dS.mk(x:Value):dS (mk x) x:=by cases x <;>rfl
/-! ### Reading operands -/
def vv(F:Fr)(x:Operand)(K:Value->Prop):Prop :=
 match ev F x with
 | .un=>False
 | .v a=>K a
 | .b c=>K (.bool c)
 | .p q d=>K (.bool (@decide q d))
theorem aI{F:Fr}{a:Act}(h:Ag F a){x:Operand}{K:Value->Prop}(hk:vv F x K):K (a.eval x):=by
 have:=h.ev x;unfold vv at hk;split at hk
 ·exact hk.elim
 all_goals (rename_i he;rw[he]at this;simp only[dS]at this;rw[this];exact hk)
def uL(F:Fr):List Operand->(List Value->Prop)->Prop
 | [],K=>K []
 | x ::r,K=>vv F x fun v=>uL F r fun vs=>K (v ::vs)
theorem bT{F:Fr}{a:Act}(h:Ag F a):∀ {xs:List Operand} {K:List Value->Prop},uL F xs K->K (xs.map a.eval)
 | [],_,hk=>hk
 | x ::r,K,hk=>bT h (xs:=r) (K:=fun vs=>K (a.eval x ::vs)) (aI h (x:=x) (K:=fun v=>uL F r fun vs=>K (v ::vs)) hk)
def Ca(F:Fr):List (Nat×Operand)->(List (Nat×Value)->Prop)->Prop
 | [],K=>K []
 | (i,x) ::r,K=>vv F x fun v=>Ca F r fun vs=>K ((i,v) ::vs)
theorem jR{F:Fr}{a:Act}(h:Ag F a):∀ {xs:List (Nat×Operand)} {K:List (Nat×Value)->Prop},Ca F xs K->K (xs.map fun p=>(p.1,a.eval p.2))
 | [],_,hk=>hk
 | (i,x) ::r,K,hk=>jR h (xs:=r) (K:=fun vs=>K ((i,a.eval x) ::vs)) (aI h (x:=x) (K:=fun v=>Ca F r fun vs=>K ((i,v) ::vs)) hk)
def eY(F:Fr)(x:Operand)(K:IntKind->Int->Prop):Prop :=
 match ev F x with
 | .v (.int k n)=>K k n
 | _=>False
theorem aU{F:Fr}{a:Act}(h:Ag F a){x:Operand}{K:IntKind->Int->Prop}(hk:eY F x K):∃ k n,a.eval x=.int k n/\K k n:=by
 have:=h.ev x;unfold eY at hk;split at hk
 ·rename_i k n he;rw[he]at this;exact⟨k,n,this,hk⟩
 ·exact hk.elim
def uR(F:Fr)(x:Operand)(K:Addr->Prop):Prop :=
 match ev F x with
 | .v (.pointer (some p))=>K p
 | _=>False
theorem fO{F:Fr}{a:Act}(h:Ag F a){x:Operand}{K:Addr->Prop}(hk:uR F x K):∃ p,a.eval x=.pointer (some p)/\K p:=by
 have:=h.ev x;unfold uR at hk;split at hk
 ·rename_i p he;rw[he]at this;exact⟨p,this,hk⟩
 ·exact hk.elim
/-! ### Whole numbers -/
def aH:IntKind->Int->Prop
 | .i8,z=>-128<=z/\z<=127
 | .i16,z=>-32768<=z/\z<=32767
 | .i32,z=>-2147483648<=z/\z<=2147483647
 | .i64,z=>-9223372036854775808<=z/\z<=9223372036854775807
 | .u8,z=>0<=z/\z<=255
 | .u16,z=>0<=z/\z<=65535
 | .u32,z=>0<=z/\z<=4294967295
 | .u64,z=>0<=z/\z<=18446744073709551615
theorem cV{k:IntKind}{z:Int}(h:aH k z):k.wrap z=z:=by
 cases k <;>simp only[aH]at h <;>simp only[IntKind.wrap,IntKind.bits,IntKind.signed] <;>simp <;>omega
def iS(op:BinOp)(k:IntKind)(x y:Int):Int :=
 match op with
 | .and=>k.wrap ((BitVec.ofInt k.bits x &&& BitVec.ofInt k.bits y).toNat)
 | .or=>k.wrap ((BitVec.ofInt k.bits x ||| BitVec.ofInt k.bits y).toNat)
 | .xor=>k.wrap ((BitVec.ofInt k.bits x^^^BitVec.ofInt k.bits y).toNat)
 | _=>k.wrap ((BitVec.ofInt k.bits x &&& ~~~BitVec.ofInt k.bits y).toNat)
def BE(wr:Bool)(op:BinOp)(k:IntKind)(x y:Int)(K:SV->Prop):Prop :=
 match op with
 | .add=>bif wr then K (.v (.int k (k.wrap (x+y)))) else aH k (x+y)/\K (.v (.int k (x+y)))
 | .sub=>bif wr then K (.v (.int k (k.wrap (x-y)))) else aH k (x-y)/\K (.v (.int k (x-y)))
 | .mul=>bif wr then K (.v (.int k (k.wrap (x*y)))) else aH k (x*y)/\K (.v (.int k (x*y)))
 | .quo=>bif wr then y≠0/\K (.v (.int k (k.wrap (x.tdiv y)))) else(0<=x/\0<y/\aH k (x / y))/\K (.v (.int k (x / y)))
 | .rem=>bif wr then y≠0/\K (.v (.int k (x.tmod y))) else(0<=x/\0<y)/\K (.v (.int k (x % y)))
 | .and | .or | .xor | .andNot=>K (.v (.int k (iS op k x y)))
 | .eql=>K (.p (x=y) inferInstance)
 | .neq=>K (.p (x≠y) inferInstance)
 | .lss=>K (.p (x<y) inferInstance)
 | .leq=>K (.p (x<=y) inferInstance)
 | .gtr=>K (.p (x>y) inferInstance)
 | .geq=>K (.p (x≥y) inferInstance)
 | _=>False
def sop(wr:Bool)(op:BinOp)(k:IntKind)(x y:Int)(K:SV->Prop):Prop :=
 match op with
 | .shl=>bif wr then 0<=y/\K (.v (.int k (k.wrap (x*2^(min y.toNat k.bits))))) else(0<=y/\aH k (x*2^(min y.toNat k.bits)))/\K (.v (.int k (x*2^(min y.toNat k.bits))))
 | .shr=>0<=y/\K (.v (.int k (x / 2^(min y.toNat k.bits))))
 | _=>False
theorem sX{P:Program}{wr:Bool}{op:BinOp}{k:IntKind}{x y:Int}{t:TypeId}{K:SV->Prop}(h:BE wr op k x y K):
    ∃ s v,dS s v/\(∀ w,(binOp op t (.int k x) (.int k y)).run P w=.ok v w)/\K s:=by
  cases op <;>simp only[BE]at h
  case add=>cases wr with
    | true=>exact⟨.v _,_,(rfl:_=_),fun w=>by simp[binOp,Op.intArith],h⟩
    | false=>exact⟨.v _,_,(rfl:_=_),fun w=>by simp[binOp,Op.intArith,cV h.1],h.2⟩
  case sub=>cases wr with
    | true=>exact⟨.v _,_,(rfl:_=_),fun w=>by simp[binOp,Op.intArith],h⟩
    | false=>exact⟨.v _,_,(rfl:_=_),fun w=>by simp[binOp,Op.intArith,cV h.1],h.2⟩
  case mul=>cases wr with
    | true=>exact⟨.v _,_,(rfl:_=_),fun w=>by simp[binOp,Op.intArith],h⟩
    | false=>exact⟨.v _,_,(rfl:_=_),fun w=>by simp[binOp,Op.intArith,cV h.1],h.2⟩
  case quo=>cases wr with
    | true=>exact⟨.v _,_,(rfl:_=_),fun w=>by simp[binOp,Op.intDiv,h.1],h.2⟩
    | false =>
      simp only[cond_false]at h;obtain⟨⟨h1,h2,h3⟩,h4⟩:=h;refine⟨.v _,_,(rfl:_=_),fun w=>?_,h4⟩;simp[binOp,Op.intDiv,show y≠0 by omega,Int.tdiv_eq_ediv_of_nonneg h1,cV h3]
  case rem=>cases wr with
    | true=>exact⟨.v _,_,(rfl:_=_),fun w=>by simp[binOp,Op.intDiv,h.1],h.2⟩
    | false =>
      simp only[cond_false]at h;obtain⟨⟨h1,h2⟩,h4⟩:=h;refine⟨.v _,_,(rfl:_=_),fun w=>?_,h4⟩;simp[binOp,Op.intDiv,show y≠0 by omega,Int.tmod_eq_emod_of_nonneg h1]
  case and=>exact⟨.v _,_,(rfl:_=_),fun w=>by simp[binOp,Op.intBits,iS],h⟩
  case or=>exact⟨.v _,_,(rfl:_=_),fun w=>by simp[binOp,Op.intBits,iS],h⟩
  case xor=>exact⟨.v _,_,(rfl:_=_),fun w=>by simp[binOp,Op.intBits,iS],h⟩
  case andNot=>exact⟨.v _,_,(rfl:_=_),fun w=>by simp[binOp,Op.intBits,iS],h⟩
  case eql=>exact⟨.p _ _,_,(rfl:_=_),fun w=>by simp[binOp,Op.intCmp];rfl,h⟩
  case neq=>exact⟨.p _ _,_,(rfl:_=_),fun w=>by simp[binOp,Op.intCmp,bne];rfl,h⟩
  case lss=>exact⟨.p _ _,_,(rfl:_=_),fun w=>by simp[binOp,Op.intCmp],h⟩
  case leq=>exact⟨.p _ _,_,(rfl:_=_),fun w=>by simp[binOp,Op.intCmp],h⟩
  case gtr=>exact⟨.p _ _,_,(rfl:_=_),fun w=>by simp[binOp,Op.intCmp],h⟩
  case geq=>exact⟨.p _ _,_,(rfl:_=_),fun w=>by simp[binOp,Op.intCmp],h⟩
theorem zJ{P:Program}{wr:Bool}{op:BinOp}{k yk:IntKind}{x y:Int}{t:TypeId}{K:SV->Prop}(h:sop wr op k x y K):
    ∃ s v,dS s v/\(∀ w,(binOp op t (.int k x) (.int yk y)).run P w=.ok v w)/\K s:=by
  cases op <;>simp only[sop]at h
  case shl=>cases wr with
    | true =>
      simp only[cond_true]at h;exact⟨.v _,_,(rfl:_=_),fun w=>by simp[binOp,Op.shift,show ¬ y<0 by omega],h.2⟩
    | false =>
      simp only[cond_false]at h;exact⟨.v _,_,(rfl:_=_),fun w=>by simp[binOp,Op.shift,show ¬ y<0 by omega,cV h.1.2],h.2⟩
  case shr =>
    refine⟨.v _,_,(rfl:_=_),fun w=>?_,h.2⟩;have:(0:Int)<=2^(min y.toNat k.bits):=Int.pow_nonneg (by omega);simp[binOp,Op.shift,show ¬ y<0 by omega,Int.fdiv_eq_ediv_of_nonneg _ this]
end Go.V
/-! The own library V, part 3: operations that compute: what must hold for them, and what they yield. -/
namespace Go.V
/-! ### Something of a type -/
def wC(s:Sh)(K:SV->Value->Prop):Prop :=
 match s with
 | .int k=>∃ x:Int,K (.v (.int k x)) (.int k x)
 | .bool=>∃ c:Bool,K (.b c) (.bool c)
 | .str=>∃ x:ByteArray,K (.v (.string x)) (.string x)
 | .slice=>∃(A:OA)(n c:Nat),K (.v (.slice A n c)) (.slice A n c)
 | .ptr=>∃ a:OA,K (.v (.pointer a)) (.pointer a)
 | .map=>∃ r:Option Nat,K (.v (.map r)) (.map r)
 | .any=>∃ x:Value,K (.v x) x
 | .addr=>∃ a:Addr,K (.v (.pointer (some a))) (.pointer (some a))
 | .cst x=>K (.v x) x
def BW:List Sh->(List Value->Prop)->Prop
 | [],K=>K []
 | s ::r,K=>wC s fun _ v=>BW r fun vs=>K (v ::vs)
def xK(te:TE)(K:SV->Value->Prop):Prop :=
 match te.ld with
 | .struct _ | .arr _ _=>BW te.shs fun cs=>K (.v (.agg cs.toArray)) (.agg cs.toArray)
 | _=>wC (te.shs.headD .any) K
def tJ(T:nP):List Nat->(List Value->Prop)->Prop
 | [],K=>K []
 | t ::r,K=>match tf T t with
  | some te=>xK te fun _ v=>tJ T r fun vs=>K (v ::vs)
  | none=>False
def uM(T:nP)(t:Nat)(K:SV->Value->Prop):Prop :=
 match tf T t with
 | some te=>(match te.ld with
  | .tup ts=>tJ T ts fun vs=>K (.v (.tuple vs.toArray)) (.tuple vs.toArray)
  | _=>xK te K)
 | none=>False
theorem gB{s:Sh}{K:SV->Value->Prop}(h:wC s K):∃ x v,dS x v/\K x v:=by
 cases s <;>simp only[wC]at h
 case slice=>obtain⟨A,n,c,h⟩:=h;exact⟨.v _,_,(rfl:_=_),h⟩
 case bool=>obtain⟨c,h⟩:=h;exact⟨.b _,_,(rfl:_=_),h⟩
 case cst x=>exact⟨.v _,_,(rfl:_=_),h⟩
 all_goals (obtain⟨x,h⟩:=h;exact⟨.v _,_,(rfl:_=_),h⟩)
theorem lD:∀ {s:List Sh} {K:List Value->Prop},BW s K->∃ vs,K vs
 | [],_,h=>⟨[],h⟩
 | s ::r,K,h=>by
  obtain⟨_,v,_,h⟩:=gB h;obtain⟨vs,h⟩:=lD h;exact⟨v ::vs,h⟩
theorem nM{te:TE}{K:SV->Value->Prop}(h:xK te K):∃ x v,dS x v/\K x v:=by
 unfold xK at h;split at h
 ·obtain⟨vs,h⟩:=lD h;exact⟨.v _,_,(rfl:_=_),h⟩
 ·obtain⟨vs,h⟩:=lD h;exact⟨.v _,_,(rfl:_=_),h⟩
 ·exact gB h
theorem jO{T:nP}:∀ {s:List Nat} {K:List Value->Prop},tJ T s K->∃ vs,K vs
 | [],_,h=>⟨[],h⟩
 | s ::r,K,h=>by
  unfold tJ at h;split at h
  ·obtain⟨_,v,_,h⟩:=nM h;obtain⟨vs,h⟩:=jO h;exact⟨v ::vs,h⟩
  ·exact h.elim
theorem cN{T:nP}{t:Nat}{K:SV->Value->Prop}(h:uM T t K):∃ x v,dS x v/\K x v:=by
 unfold uM at h;split at h
 ·split at h
  ·obtain⟨vs,h⟩:=jO h;exact⟨.v _,_,(rfl:_=_),h⟩
  ·exact nM h
 ·exact h.elim
/-! ### Small words -/
def bM(A:OA)(c l sz:Nat):OA:=if c=l then A else A.map (·.add (l*sz))
def mx(x y:Int):Int:=if y>x then y else x
def mn(x y:Int):Int:=if y<x then y else x
def bt(s:ByteArray)(i:Nat):Int:=((s.data.toList.getD i 0).toNat:Int)
def mxs(k:IntKind):Int->List Value->(Int->Prop)->Prop
 | x,[],K=>K x
 | x,.int _ y ::r,K=>mxs k (mx x y) r K
 | _,_,_=>False
def mns(k:IntKind):Int->List Value->(Int->Prop)->Prop
 | x,[],K=>K x
 | x,.int _ y ::r,K=>mns k (mn x y) r K
 | _,_,_=>False
def qE(i:Int):Nat->List Value->(SV->Prop)->Prop
 | _,[],_=>True
 | j,c ::r,K=>(i=(j:Int)->K (mk c))/\qE i (j+1) r K
def qF(sz:Nat)(cs:List Value)(i:Int):Nat->Nat->(SV->Prop)->Prop
 | _,0,_=>True
 | j,c+1,K=>(i=(j:Int)->K (.v (.agg ((cs.drop (j*sz)).take sz).toArray)))/\qF sz cs i (j+1) c K
def wS(T:nP):List (Nat×Nat)->(List (Nat×Nat)->Prop)->Prop
 | [],K=>K []
 | (o,t) ::r,K=>match tf T t with
  | some te=>wS T r fun l=>K ((o,te.size) ::l)
  | none=>False
def rG(a:Addr)(i sz:Nat):Addr:=bif Nat.beq sz 1 then a.add i else a.add (i*sz)
theorem pO(a:Addr)(i sz:Nat):rG a i sz=a.add (i*sz):=by
 unfold rG;cases h:Nat.beq sz 1 with
 | true =>
  have:sz=1:=Nat.eq_of_beq_eq_true h;simp[this]
 | false=>rfl
def semP(ρ:Operand->Value)(o:Oper):Option (Sem Value) :=
 match o.op with
 | .binOp op t x y _=>some (do eqGuard op t x y (ρ x) (ρ y);Go.binOp op t (ρ x) (ρ y))
 | .unOp op _ x=>some (Op.unary op (ρ x))
 | .convert src dst x=>some (Go.convert src dst (ρ x))
 | .makeInterface t x=>some (Instr.makeInterface t (ρ x))
 | .typeAssert x t u ok=>some (Instr.typeAssert (ρ x) t u ok)
 | .makeMap t r=>some (Instr.makeMap t (r.map ρ))
 | .makeSlice t l c=>some (Instr.makeSlice t (ρ l) (ρ c))
 | .slice t x lo hi mx=>some (Instr.sliceAt t (ρ x) (lo.map ρ) (hi.map ρ) (mx.map ρ))
 | .index t x i=>some (Instr.index t (ρ x) (ρ i))
 | .lookup t x i ok=>some (Instr.lookup t (ρ x) (ρ i) ok)
 | .mapEntry t m k=>some (Instr.mapEntry t (ρ m) (ρ k))
 | .range t x=>some (Instr.range t (ρ x))
 | .next it s=>some (Instr.next (ρ it) s o.type)
 | .entry it=>some (Instr.entry (ρ it))
 | .call { callee:=.builtin .append,args,argTypes }=>some (Builtin.append_ argTypes o.type (args.map ρ))
 | .call { callee:=.builtin .copy,args,argTypes }=>some (Builtin.copy_ argTypes o.type (args.map ρ))
 | .call { callee:=.builtin .delete,args,argTypes }=>some (Builtin.delete_ argTypes o.type (args.map ρ))
 | .call { callee:=.builtin .clear,args,argTypes }=>some (Builtin.clear_ argTypes o.type (args.map ρ))
 | .call { callee:=.builtin .len,args,argTypes }=>some (Builtin.len_ argTypes o.type (args.map ρ))
 | _=>none
theorem yB{P:Program}{ρ:Operand->Value}{o:Oper}{s:Sem Value}(h:semP ρ o=some s)(w:World):(execOp ρ o).run P w=(s.run P w).andThen fun v w'=>.ok (.value v) w':=by
 obtain⟨d,op,t,pos,after,g⟩:=o;have e:∀ x:Sem Value,(do pure (Next.value (← x)):Sem Next).run P w=(x.run P w).andThen fun v w'=>.ok (.value v) w':=fun x=>by simp
 have r:∀(b:Builtin)(args:Array Operand)(ts:Array TypeId),(execOp ρ ⟨d,.call ⟨.builtin b,args,ts⟩,t,pos,after,g⟩).run P w=(builtin b ts t (args.map fun | .const _=>true | _=>false) (args.map ρ)).run P w:=fun b args ts=>by
  simp only[execOp,resolve];rfl
 unfold semP at h;split at h
 case h_15 ho=>simp only at ho;cases ho;cases h;rw[r];exact e _
 case h_16 ho=>simp only at ho;cases ho;cases h;rw[r];exact e _
 case h_17 ho=>simp only at ho;cases ho;cases h;rw[r];exact e _
 case h_18 ho=>simp only at ho;cases ho;cases h;rw[r];exact e _
 case h_19 ho=>simp only at ho;cases ho;cases h;rw[r];exact e _
 case h_20=>cases h
 all_goals (rename_i ho;simp only at ho;cases ho;cases h;simp only[execOp];exact e _)
/-! ### Operations that compute -/
def aV(P:Program)(T:nP)(wr:Bool)(o:Oper)(F:Fr)(K:SV->Prop):Prop :=
 match o.op with
 | .move x | .assign x=>K (ev F x)
 | .pick c a b=>(match ev F c with
  | .v (.bool true)=>K (ev F a)
  | .v (.bool false)=>K (ev F b)
  | _=>False)
 | .nilCheck x=>(match ev F x with
  | .v (.pointer p)=>∃ a,p=some a/\K (.v (.pointer (some a)))
  | .v (.func (.func g) f c)=>K (.v (.func (.func g) f c))
  | _=>False)
 | .binOp op t x y _=>(match op with
  | .shl | .shr=>eY F x fun k a=>eY F y fun _ b=>sop wr op k a b K
  | .eql | .neq=>(match ev F x,ev F y with
   | .v (.int k a),.v (.int k' b)=>if k=k' then BE wr op k a b K else False
   | .v (.pointer p),.v (.pointer none)=>(match tf T t with
    | some ⟨.ptr _,_,_,_,_⟩=>(match op with
     | .eql=>K (.p (p=none) inferInstance)
     | _=>K (.p (p≠none) inferInstance))
    | _=>False)
   | .v (.slice A _ _),.v (.slice none _ _)=>(match tf T t with
    | some ⟨.slice _,_,_,_,_⟩=>(match op with
     | .eql=>K (.p (A=none) inferInstance)
     | _=>K (.p (A≠none) inferInstance))
    | _=>False)
   | .v (.map r),.v (.map none)=>(match tf T t with
    | some ⟨.map _ _,_,_,_,_⟩=>(match op with
     | .eql=>K (.p (r=none) inferInstance)
     | _=>K (.p (r≠none) inferInstance))
    | _=>False)
   | _,_=>vv F x fun a=>vv F y fun b=>uM T o.type fun s v=>(∀ w,(do eqGuard op t x y a b;Go.binOp op t a b:Sem Value).run P w=.ok v w)/\K s)
  | _=>(match ev F x,ev F y with
   | .v (.int k a),.v (.int k' b)=>if k=k' then BE wr op k a b K else False
   | _,_=>vv F x fun a=>vv F y fun b=>uM T o.type fun s v=>(∀ w,(Go.binOp op t a b:Sem Value).run P w=.ok v w)/\K s))
 | .unOp op _ x=>(match op,ev F x with
  | .not,.v (.bool true)=>K (.v (.bool false))
  | .not,.v (.bool false)=>K (.v (.bool true))
  | .not,.b c=>K (.p (c=false) inferInstance)
  | .not,.p q d=>K (.p (¬ q) (@instDecidableNot q d))
  | .neg,.v (.int k a)=>BE wr .sub k 0 a K
  | .xor,.v (.int k a)=>K (.v (.int k (iS .xor k (if k.signed then -1 else k.max) a)))
  | _,_=>False)
 | .fieldAddr s x f=>(match tf T s with
  | some ⟨.struct fs,_,_,_,_⟩=>(match fs[f]? with
   | some (off,ty)=>(match tf T ty with
    | some te=>bif Nat.beq te.size 0 then False else uR F x fun a=>K (.v (.pointer (some (a.add off))))
    | none=>False)
   | none=>False)
  | _=>False)
 | .field s x f=>(match tf T s with
  | some ⟨.struct fs,_,_,_,_⟩=>(match fs[f]? with
   | some (off,ty)=>(match tf T ty with
    | some te=>vv F x fun v=>(match v with
     | .agg cs=>bif te.ld.agg then K (.v (.agg (cs.extract off (off+te.size)))) else(match cs[off]? with
      | some c=>K (mk c)
      | none=>False)
     | _=>False)
    | none=>False)
   | none=>False)
  | _=>False)
 | .indexAddr t x ix=>eY F ix fun _ i=>(match tf T t with
  | some ⟨.slice e,_,_,_,_⟩=>(match tf T e with
   | some te=>(match ev F x with
    | .v (.slice A n _)=>∃ a,A=some a/\0<=i/\i<(n:Int)/\K (.v (.pointer (some (rG a i.toNat te.size))))
    | _=>False)
   | none=>False)
  | some ⟨.arr n e,_,_,_,_⟩=>(match tf T e with
   | some te=>uR F x fun a=>(0<=i/\i<(n:Int))/\K (.v (.pointer (some (rG a i.toNat te.size))))
   | none=>False)
  | _=>False)
 | .index t x ix=>eY F ix fun _ i=>(match tf T t with
  | some ⟨.arr n e,_,_,_,_⟩=>(match tf T e with
   | some te=>vv F x fun v=>(match v with
    | .agg cs=>bif te.ld.agg then(0<=i/\i<(n:Int))/\qF te.size cs.toList i 0 n K else bif Nat.beq te.size 1 then bif Nat.beq cs.size n then(0<=i/\i<(n:Int))/\qE i 0 cs.toList K else False else False
    | _=>False)
   | none=>False)
  | some ⟨.str,_,_,_,_⟩=>vv F x fun v=>(match v with
   | .string s=>(0<=i/\i<(s.size:Int))/\K (.v (.int .u8 (bt s i.toNat)))
   | _=>False)
  | _=>False)
 | .slice t x lo hi none=>(match tf T t with
  | some ⟨.slice e,_,_,_,_⟩=>(match tf T e with
   | some te=>(match ev F x with
    | .v (.slice A n c)=>(match lo,hi with
     | none,none=>K (.v (.slice A n c))
     | none,some h=>eY F h fun _ h=>(0<=h/\h<=(c:Int))/\K (.v (.slice A h.toNat c))
     | some l,none=>eY F l fun _ l=>(0<=l/\l<=(n:Int))/\K (.v (.slice (bM A c l.toNat te.size) (n-l.toNat) (c-l.toNat)))
     | some l,some h=>eY F l fun _ l=>eY F h fun _ h=>(0<=h/\h<=(c:Int)/\0<=l/\l<=h)/\K (.v (.slice (bM A c l.toNat te.size) (h.toNat-l.toNat) (c-l.toNat))))
    | _=>False)
   | none=>False)
  | some ⟨.str,_,_,_,_⟩=>(match ev F x with
   | .v (.string s)=>(match lo,hi with
    | none,none=>K (.v (.string (s.extract 0 s.size)))
    | none,some h=>eY F h fun _ h=>(0<=h/\h<=(s.size:Int))/\K (.v (.string (s.extract 0 h.toNat)))
    | some l,none=>eY F l fun _ l=>(0<=l/\l<=(s.size:Int))/\K (.v (.string (s.extract l.toNat s.size)))
    | some l,some h=>eY F l fun _ l=>eY F h fun _ h=>(0<=h/\h<=(s.size:Int)/\0<=l/\l<=h)/\K (.v (.string (s.extract l.toNat h.toNat))))
   | _=>False)
  | some ⟨.arr _ _,_,_,_,_⟩=>vv F x fun m=>(match lo,hi with
   | none,some h=>eY F h fun k h=>uM T o.type fun s v=>(∀ w,(Instr.sliceAt t m none (some (.int k h)) none).run P w=.ok v w)/\K s
   | _,_=>False)
  | _=>False)
 | .slice t x (some l) (some h) (some mo)=>(match tf T t with
  | some ⟨.slice e,_,_,_,_⟩=>(match tf T e with
   | some te=>(match ev F x with
    | .v (.slice A _ c)=>eY F l fun _ l=>eY F h fun _ h=>eY F mo fun _ m=>(0<=m/\m<=(c:Int)/\0<=h/\h<=m/\0<=l/\l<=h)/\K (.v (.slice (bM A m.toNat l.toNat te.size) (h.toNat-l.toNat) (m.toNat-l.toNat)))
    | _=>False)
   | none=>False)
  | _=>False)
 | .build t parts=>(match tf T t with
  | some ⟨.struct fs,_,_,z,_⟩=>wS T fs fun ps=>Ca F parts.toList fun vs=>(match Instr.fill (ps[·]?) z.cells vs with
   | some cells=>K (.v (.agg cells))
   | none=>False)
  | some ⟨.arr _ e,_,_,z,_⟩=>(match tf T e with
   | some te=>Ca F parts.toList fun vs=>(match Instr.fill (fun i=>some (i*te.size,te.size)) z.cells vs with
    | some cells=>K (.v (.agg cells))
    | none=>False)
   | none=>False)
  | _=>False)
 | .makeFunc fn first captured=>uL F first.toList fun f=>uL F captured.toList fun c=>K (.v (.func fn f.toArray c.toArray))
 | .extract x i=>(match ev F x with
  | .v (.tuple vs)=>(match vs[i]? with
   | some v=>K (mk v)
   | none=>False)
  | _=>False)
 | .convert src dst x=>(match tf T src,tf T dst,ev F x with
  | some ⟨.int _,_,_,_,_⟩,some ⟨.int k,_,_,_,_⟩,.v (.int _ n)=>bif wr then K (.v (.int k (k.wrap n))) else aH k n/\K (.v (.int k n))
  | some ⟨.str,_,_,_,_⟩,some ⟨.str,_,_,_,_⟩,.v (.string s)=>K (.v (.string s))
  | _,_,_=>False)
 | .makeInterface t x=>(match tf T t with
  | some ⟨.ptr _,_,_,_,_⟩=>vv F x fun a=>K (.v (.iface t a))
  | _=>vv F x fun a=>uM T o.type fun s v=>(∀ w,(Instr.makeInterface t a).run P w=.ok v w)/\K s)
 | .call { callee:=.builtin .len,args,argTypes }=>(match args[0]?,argTypes[0]? with
  | some x,some t=>(match tf T t with
   | some ⟨.slice _,_,_,_,_⟩=>(match ev F x with
    | .v (.slice _ n _)=>K (.v (.int .i64 (n:Int)))
    | _=>False)
   | some ⟨.str,_,_,_,_⟩=>(match ev F x with
    | .v (.string s)=>K (.v (.int .i64 (s.size:Int)))
    | _=>False)
   | some ⟨.arr n _,_,_,_,_⟩=>K (.v (.int .i64 (n:Int)))
   | _=>False)
  | _,_=>False)
 | .call { callee:=.builtin .max,args,.. }=>(match args.toList with
  | x ::r=>eY F x fun k x=>uL F r fun vs=>mxs k x vs fun z=>K (.v (.int k z))
  | _=>False)
 | .call { callee:=.builtin .min,args,.. }=>(match args.toList with
  | x ::r=>eY F x fun k x=>uL F r fun vs=>mns k x vs fun z=>K (.v (.int k z))
  | _=>False)
 | _=>False
end Go.V
/-! The own library V, part 4: operations that compute yield what part 3 says. -/
namespace Go.V
variable {P : Program} {T : nP} {F : Fr} {a : Act} {wr : Bool} {K : SV → Prop} {dst : Option Tmp} {ty : TypeId} {pos : String} {after : Array Edge} {guard : Option (Nat × Bool)}
def cP(P:Program)(o:Oper)(a:Act)(K:SV->Prop):Prop:=∃ s v,dS s v/\(∀ w,(execOp a.eval o).run P w=.ok (.value v) w)/\K s
theorem cP.of{o:Oper}{S:Sem Value}(ho:∀ w,(execOp a.eval o).run P w=(S.run P w).andThen fun v w'=>.ok (.value v) w')(h:∃ s v,dS s v/\(∀ w,S.run P w=.ok v w)/\K s):cP P o a K:=by
 obtain⟨s,v,h1,h2,h3⟩:=h;exact⟨s,v,h1,fun w=>by rw[ho,h2];rfl,h3⟩
theorem aM{ρ:Operand->Value}{o:Oper}{S:Sem Value}(h:execOp ρ o=(do pure (Next.value (← S))))(w:World):(execOp ρ o).run P w=(S.run P w).andThen fun v w'=>.ok (.value v) w':=by
 rw[h];simp
theorem tO(d:Nat){t e:TypeId}(h:P.underlying t=some (.pointer e))(p:OA)(w:World):(Op.equalIn (d+1) t (.pointer p) (.pointer none)).run P w=.ok p.isNone w:=by
 cases p <;>simp[Op.equalIn,Ty.run_und w h]
theorem nN(d:Nat){t e:TypeId}(h:P.underlying t=some (.slice e))(A:OA)(n c n' c':Nat)(w:World):(Op.equalIn (d+1) t (.slice A n c) (.slice none n' c')).run P w=.ok A.isNone w:=by
 cases A <;>simp[Op.equalIn,Ty.run_und w h]
theorem tP(d:Nat){t k e:TypeId}(h:P.underlying t=some (.map k e))(r:Option Nat)(w:World):(Op.equalIn (d+1) t (.map r) (.map none)).run P w=.ok r.isNone w:=by
 cases r <;>simp[Op.equalIn,Ty.run_und w h]
theorem dY{op:BinOp}{t:TypeId}{x y:Operand}{A B:Value}(h1:∀ cs,A≠.agg cs)(h2:A≠.nilIface):eqGuard op t x y A B=pure ():=by
 unfold eqGuard;cases op <;>simp
 all_goals (split <;>first | rfl | exact absurd rfl h2 | exact absurd rfl (h1 _))
theorem jM{α:Type}[DecidableEq α](p:Option α):p.isNone=decide (p=none):=by cases p <;>simp
theorem jL{α:Type}[DecidableEq α](p:Option α):(!p.isNone)=decide (p≠none):=by cases p <;>simp
theorem vX (hT:mB P T) (hA:Ag F a) {op:BinOp} {t yt:TypeId} {x y:Operand}
    (h:aV P T wr ⟨dst,.binOp op t x y yt,ty,pos,after,guard⟩ F K):cP P ⟨dst,.binOp op t x y yt,ty,pos,after,guard⟩ a K:=by
  refine cP.of (S:=do eqGuard op t x y (a.eval x) (a.eval y);Go.binOp op t (a.eval x) (a.eval y)) (aM (by simp only[execOp])) ?_;have noguard:∀(A B:Value),(op≠.eql/\op≠.neq)->∀ w,(do eqGuard op t x y A B;Go.binOp op t A B:Sem Value).run P w=(Go.binOp op t A B).run P w:=by
    intro A B De w;have:eqGuard op t x y A B=pure ():=by
      unfold eqGuard;cases op <;>simp at De ⊢
    rw[this];simp
  have intguard:∀(k k':IntKind)(m n:Int),∀ w,(do eqGuard op t x y (.int k m) (.int k' n);Go.binOp op t (.int k m) (.int k' n):Sem Value).run P w=(Go.binOp op t (.int k m) (.int k' n)).run P w:=by
    intro k k' m n w;have:eqGuard op t x y (.int k m) (.int k' n)=pure ():=by
      unfold eqGuard;cases op <;>simp
    rw[this];simp
  have shift:(op=.shl∨op=.shr)->(eY F x fun k m=>eY F y fun _ n=>sop wr op k m n K)->∃ s v,dS s v/\(∀ w,(do eqGuard op t x y (a.eval x) (a.eval y);Go.binOp op t (a.eval x) (a.eval y):Sem Value).run P w=.ok v w)/\K s:=by
    intro _ h;obtain⟨k,m,hx,h⟩:=aU hA h;obtain⟨k',n,hy,h⟩:=aU hA h;obtain⟨s,v,h1,h2,h3⟩:=zJ (P:=P) (yk:=k') (t:=t) h;exact⟨s,v,h1,fun w=>by rw[hx,hy,intguard];exact h2 w,h3⟩
  have ints:∀ {k k':IntKind} {m n:Int},ev F x=.v (.int k m)->ev F y=.v (.int k' n)->(if k=k' then BE wr op k m n K else False) →
      ∃ s v,dS s v/\(∀ w,(do eqGuard op t x y (a.eval x) (a.eval y);Go.binOp op t (a.eval x) (a.eval y):Sem Value).run P w=.ok v w)/\K s:=by
    intro k k' m n hx hy h;have CA:a.eval x=.int k m:=by have:=hA.ev x;rw[hx]at this;exact this
    have Db:a.eval y=.int k' n:=by have:=hA.ev y;rw[hy]at this;exact this
    split at h
    · rename_i hk;subst hk;obtain⟨s,v,h1,h2,h3⟩:=sX (P:=P) (t:=t) h;exact⟨s,v,h1,fun w=>by rw[CA,Db,intguard];exact h2 w,h3⟩
    · exact h.elim
  have other:(op≠.eql/\op≠.neq)->(vv F x fun A=>vv F y fun B=>uM T ty fun s v=>(∀ w,(Go.binOp op t A B:Sem Value).run P w=.ok v w)/\K s) →
      ∃ s v,dS s v/\(∀ w,(do eqGuard op t x y (a.eval x) (a.eval y);Go.binOp op t (a.eval x) (a.eval y):Sem Value).run P w=.ok v w)/\K s:=by
    intro De h;obtain⟨s,v,h1,h2,h3⟩:=cN (aI hA (aI hA h));exact⟨s,v,h1,fun w=>by rw[noguard _ _ De];exact h2 w,h3⟩
  have main:(op≠.eql/\op≠.neq)->∀ hh:(match ev F x,ev F y with
      | .v (.int k a),.v (.int k' b)=>if k=k' then BE wr op k a b K else False
      | _,_=>vv F x fun A=>vv F y fun B=>uM T ty fun s v=>(∀ w,(Go.binOp op t A B:Sem Value).run P w=.ok v w)/\K s),
      ∃ s v,dS s v/\(∀ w,(do eqGuard op t x y (a.eval x) (a.eval y);Go.binOp op t (a.eval x) (a.eval y):Sem Value).run P w=.ok v w)/\K s:=by
    intro De h;split at h
    · rename_i hx hy;exact ints hx hy h
    · exact other De h
  have eqs:(op=.eql∨op=.neq)->∀ hh:(match ev F x,ev F y with
      | .v (.int k a),.v (.int k' b)=>if k=k' then BE wr op k a b K else False
      | .v (.pointer p),.v (.pointer none)=>(match tf T t with
        | some ⟨.ptr _,_,_,_,_⟩=>(match op with
          | .eql=>K (.p (p=none) inferInstance)
          | _=>K (.p (p≠none) inferInstance))
        | _=>False)
      | .v (.slice A _ _),.v (.slice none _ _)=>(match tf T t with
        | some ⟨.slice _,_,_,_,_⟩=>(match op with
          | .eql=>K (.p (A=none) inferInstance)
          | _=>K (.p (A≠none) inferInstance))
        | _=>False)
      | .v (.map r),.v (.map none)=>(match tf T t with
        | some ⟨.map _ _,_,_,_,_⟩=>(match op with
          | .eql=>K (.p (r=none) inferInstance)
          | _=>K (.p (r≠none) inferInstance))
        | _=>False)
      | _,_=>vv F x fun A=>vv F y fun B=>uM T ty fun s v=>(∀ w,(do eqGuard op t x y A B;Go.binOp op t A B:Sem Value).run P w=.ok v w)/\K s),
      ∃ s v,dS s v/\(∀ w,(do eqGuard op t x y (a.eval x) (a.eval y);Go.binOp op t (a.eval x) (a.eval y):Sem Value).run P w=.ok v w)/\K s:=by
    intro De h;split at h
    · rename_i hx hy;exact ints hx hy h
    · rename_i p hx hy;have CA:a.eval x=.pointer p:=by have:=hA.ev x;rw[hx]at this;exact this
      have Db:a.eval y=.pointer none:=by have:=hA.ev y;rw[hy]at this;exact this
      split at h
      · rename_i e _ _ _ _ ht;have hu:=(hT.get ht).ptr rfl;rcases De with rfl | rfl
        · refine⟨.p _ _,_,(rfl:_=_),fun w=>?_,h⟩;rw[CA,Db];rw[dY (by simp) (by simp)];simp only[pure_bind];show((do pure (.bool (← Op.equalIn (9999+1) t _ _)):Sem Value)).run P w=_;simp only[Sem.run_bind,tO 9999 hu,Result.andThen_ok,jM];rfl
        · refine⟨.p _ _,_,(rfl:_=_),fun w=>?_,h⟩;rw[CA,Db];rw[dY (by simp) (by simp)];simp only[pure_bind];show((do pure (.bool (!(← Op.equalIn (9999+1) t _ _))):Sem Value)).run P w=_;simp only[Sem.run_bind,tO 9999 hu,Result.andThen_ok,jL];rfl
      · exact h.elim
    · rename_i A n c n' c' hx hy;have CA:a.eval x=.slice A n c:=by have:=hA.ev x;rw[hx]at this;exact this
      have Db:a.eval y=.slice none n' c':=by have:=hA.ev y;rw[hy]at this;exact this
      split at h
      · rename_i e _ _ _ _ ht;have hu:=(hT.get ht).slice rfl;rcases De with rfl | rfl
        · refine⟨.p _ _,_,(rfl:_=_),fun w=>?_,h⟩;rw[CA,Db];rw[dY (by simp) (by simp)];simp only[pure_bind];show((do pure (.bool (← Op.equalIn (9999+1) t _ _)):Sem Value)).run P w=_;simp only[Sem.run_bind,nN 9999 hu,Result.andThen_ok,jM];rfl
        · refine⟨.p _ _,_,(rfl:_=_),fun w=>?_,h⟩;rw[CA,Db];rw[dY (by simp) (by simp)];simp only[pure_bind];show((do pure (.bool (!(← Op.equalIn (9999+1) t _ _))):Sem Value)).run P w=_;simp only[Sem.run_bind,nN 9999 hu,Result.andThen_ok,jL];rfl
      · exact h.elim
    · rename_i r hx hy;have CA:a.eval x=.map r:=by have:=hA.ev x;rw[hx]at this;exact this
      have Db:a.eval y=.map none:=by have:=hA.ev y;rw[hy]at this;exact this
      split at h
      · rename_i k e _ _ _ _ ht;have hu:=(hT.get ht).map rfl;rcases De with rfl | rfl
        · refine⟨.p _ _,_,(rfl:_=_),fun w=>?_,h⟩;rw[CA,Db];rw[dY (by simp) (by simp)];simp only[pure_bind];show((do pure (.bool (← Op.equalIn (9999+1) t _ _)):Sem Value)).run P w=_;simp only[Sem.run_bind,tP 9999 hu,Result.andThen_ok,jM];rfl
        · refine⟨.p _ _,_,(rfl:_=_),fun w=>?_,h⟩;rw[CA,Db];rw[dY (by simp) (by simp)];simp only[pure_bind];show((do pure (.bool (!(← Op.equalIn (9999+1) t _ _))):Sem Value)).run P w=_;simp only[Sem.run_bind,tP 9999 hu,Result.andThen_ok,jL];rfl
      · exact h.elim
    · obtain⟨s,v,h1,h2,h3⟩:=cN (aI hA (aI hA h));exact⟨s,v,h1,h2,h3⟩
  simp only[aV]at h;cases op
  case shl=>exact shift (.inl rfl) h
  case shr=>exact shift (.inr rfl) h
  case eql=>exact eqs (.inl rfl) h
  case neq=>exact eqs (.inr rfl) h
  all_goals exact main (by simp) h
theorem yL(hA:Ag F a){op:UnOp}{t:TypeId}{x:Operand}
    (h:aV P T wr ⟨dst,.unOp op t x,ty,pos,after,guard⟩ F K):cP P ⟨dst,.unOp op t x,ty,pos,after,guard⟩ a K:=by
  refine cP.of (S:=Op.unary op (a.eval x)) (aM (by simp only[execOp])) ?_;have hx:=hA.ev x;simp only[aV]at h;split at h
  · rename_i he;rw[he]at hx;simp only[dS]at hx;exact⟨.v _,_,(rfl:_=_),fun w=>by rw[hx];simp[Op.unary],h⟩
  · rename_i he;rw[he]at hx;simp only[dS]at hx;exact⟨.v _,_,(rfl:_=_),fun w=>by rw[hx];simp[Op.unary],h⟩
  · rename_i c he;rw[he]at hx;simp only[dS]at hx;exact⟨.p _ _,_,(rfl:_=_),fun w=>by rw[hx];cases c <;>simp[Op.unary],h⟩
  · rename_i q d he;rw[he]at hx;simp only[dS]at hx;exact⟨.p _ _,_,(rfl:_=_),fun w=>by rw[hx];simp[Op.unary],h⟩
  · rename_i k m he;rw[he]at hx;simp only[dS]at hx;obtain⟨s,v,h1,h2,h3⟩:=sX (P:=P) (t:=0) h;refine⟨s,v,h1,fun w=>?_,h3⟩;rw[hx,← h2 w];simp[Op.unary,Go.binOp]
  · rename_i k m he;rw[he]at hx;simp only[dS]at hx;exact⟨.v _,_,(rfl:_=_),fun w=>by rw[hx];simp[Op.unary,Op.intBits,iS],h⟩
  · exact h.elim
theorem nK (hT:mB P T) (hA:Ag F a) {s:TypeId} {x:Operand} {f:Nat}
    (h:aV P T wr ⟨dst,.fieldAddr s x f,ty,pos,after,guard⟩ F K):cP P ⟨dst,.fieldAddr s x f,ty,pos,after,guard⟩ a K:=by
  refine cP.of (S:=Instr.fieldAt s (a.eval x) f) (aM (by simp only[execOp])) ?_;simp only[aV]at h;split at h
  · rename_i fs _ _ _ _ hs;split at h
    · rename_i off ft hf;split at h
      · rename_i te Cf;obtain⟨fa,hu,Cz⟩:=(hT.get hs).struct rfl;have hz:Nat.beq te.size 0=false:=by
          cases hb:Nat.beq te.size 0 with
          | false=>rfl
          | true=>rw[hb]at h;exact h.elim
        rw[hz]at h;simp only[cond_false]at h;obtain⟨p,hp,hK⟩:=fO hA h;refine⟨.v _,_,(rfl:_=_),fun w=>?_,hK⟩;have Cg:te.size≠0:=fun e=>by rw[e]at hz;simp at hz
        have FA:∃ g,fa[f]?=some g/\g.offset=off/\g.type=ft:=by
          rw[← Cz]at hf;simp only[List.getElem?_map,Option.map_eq_some_iff,Prod.mk.injEq]at hf;obtain⟨g,hg,h1,h2⟩:=hf;exact⟨g,by simpa using hg,h1,h2⟩
        obtain⟨g,hg,rfl,rfl⟩:=FA;rw[hp];simp[Instr.fieldAt,Ty.run_und w hu,hg,Instr.sureAddr,fieldPlace,(hT.get Cf).sizeOf w,Cg]
      · exact h.elim
    · exact h.elim
  · exact h.elim
theorem vV (hT:mB P T) (hA:Ag F a) {s:TypeId} {x:Operand} {f:Nat}
    (h:aV P T wr ⟨dst,.field s x f,ty,pos,after,guard⟩ F K):cP P ⟨dst,.field s x f,ty,pos,after,guard⟩ a K:=by
  refine cP.of (S:=Instr.field s (a.eval x) f) (aM (by simp only[execOp])) ?_;simp only[aV]at h;split at h
  · rename_i fs _ _ _ _ hs;split at h
    · rename_i off ft hf;split at h
      · rename_i te Cf;obtain⟨fa,hu,Cz⟩:=(hT.get hs).struct rfl;have h:=aI hA h;have FA:∃ g,fa[f]?=some g/\g.offset=off/\g.type=ft:=by
          rw[← Cz]at hf;simp only[List.getElem?_map,Option.map_eq_some_iff,Prod.mk.injEq]at hf;obtain⟨g,hg,h1,h2⟩:=hf;exact⟨g,by simpa using hg,h1,h2⟩
        obtain⟨g,hg,rfl,rfl⟩:=FA;split at h
        · rename_i cs ES;rw[ES];cases hb:te.ld.agg with
          | true =>
            rw[hb]at h;refine⟨.v _,_,(rfl:_=_),fun w=>?_,h⟩;simp[Instr.field,Ty.run_und w hu,hg,asAgg,part,(hT.get Cf).isAgg w,hb,(hT.get Cf).sizeOf w]
          | false =>
            rw[hb]at h;simp only[cond_false]at h;split at h
            · rename_i c hc;refine⟨mk c,c,dS.mk c,fun w=>?_,h⟩;simp[Instr.field,Ty.run_und w hu,hg,asAgg,part,(hT.get Cf).isAgg w,hb,hc]
            · exact h.elim
        · exact h.elim
      · exact h.elim
    · exact h.elim
  · exact h.elim
end Go.V
/-! The own library V, part 5: the other operations that compute. -/
namespace Go.V
variable {P : Program} {T : nP} {F : Fr} {a : Act} {wr : Bool} {K : SV → Prop} {dst : Option Tmp} {ty : TypeId} {pos : String} {after : Array Edge} {guard : Option (Nat × Bool)}
theorem yM(hA:Ag F a){c x y:Operand}
    (h:aV P T wr ⟨dst,.pick c x y,ty,pos,after,guard⟩ F K):cP P ⟨dst,.pick c x y,ty,pos,after,guard⟩ a K:=by
  simp only[aV]at h;have hc:=hA.ev c;split at h
  · rename_i he;rw[he]at hc;simp only[dS]at hc;exact⟨_,_,hA.ev x,fun w=>by simp[execOp,hc,asBool],h⟩
  · rename_i he;rw[he]at hc;simp only[dS]at hc;exact⟨_,_,hA.ev y,fun w=>by simp[execOp,hc,asBool],h⟩
  · exact h.elim
theorem oE(hA:Ag F a){x:Operand}
    (h:aV P T wr ⟨dst,.nilCheck x,ty,pos,after,guard⟩ F K):cP P ⟨dst,.nilCheck x,ty,pos,after,guard⟩ a K:=by
  simp only[aV]at h;have hc:=hA.ev x;split at h
  · rename_i p he;rw[he]at hc;simp only[dS]at hc;obtain⟨ad,rfl,h⟩:=h;exact⟨.v _,_,(rfl:_=_),fun w=>by simp[execOp,hc],h⟩
  · rename_i g f c he;rw[he]at hc;simp only[dS]at hc;exact⟨.v _,_,(rfl:_=_),fun w=>by simp[execOp,hc],h⟩
  · exact h.elim
theorem nJ (hT:mB P T) (hA:Ag F a) {t:TypeId} {x ix:Operand}
    (h:aV P T wr ⟨dst,.indexAddr t x ix,ty,pos,after,guard⟩ F K):cP P ⟨dst,.indexAddr t x ix,ty,pos,after,guard⟩ a K:=by
  refine cP.of (S:=Instr.indexAt t (a.eval x) (a.eval ix)) (aM (by simp only[execOp])) ?_;simp only[aV]at h;obtain⟨k,i,hi,h⟩:=aU hA h;split at h
  · rename_i e _ _ _ _ ht;split at h
    · rename_i te Cf;split at h
      · rename_i A n c he;have hx:=hA.ev x;rw[he]at hx;simp only[dS]at hx;obtain⟨ad,rfl,h0,h1,h⟩:=h;rw[pO]at h;refine⟨.v _,_,(rfl:_=_),fun w=>?_,h⟩;simp[Instr.indexAt,hi,hx,asIntOf,Ty.run_und w ((hT.get ht).slice rfl),h0,h1,(hT.get Cf).sizeOf w]
      · exact h.elim
    · exact h.elim
  · rename_i n e _ _ _ _ ht;split at h
    · rename_i te Cf;obtain⟨ad,hx,h⟩:=fO hA h;obtain⟨⟨h0,h1⟩,h⟩:=h;rw[pO]at h;refine⟨.v _,_,(rfl:_=_),fun w=>?_,h⟩;simp[Instr.indexAt,hi,hx,asIntOf,Ty.run_und w ((hT.get ht).arr rfl),Instr.sureAddr,h0,h1,(hT.get Cf).sizeOf w]
    · exact h.elim
  · exact h.elim
theorem lK{i:Int}:∀ {j:Nat} {cs:List Value},qE i j cs K->(j:Int)<=i->i<(j:Int)+cs.length->∃ c,cs[i.toNat-j]?=some c/\K (mk c)
 | j,[],_,h1,h2=>by simp at h2;omega
 | j,c ::r,h,h1,h2=>by
  simp only[qE]at h;by_cases he:i=(j:Int)
  ·exact⟨c,by simp[he],h.1 he⟩
  ·obtain⟨c',hc,hk⟩:=lK (j:=j+1) (cs:=r) h.2 (by omega) (by simp at h2 ⊢;omega);refine⟨c',?_,hk⟩;rw[show i.toNat-j=(i.toNat-(j+1))+1 by omega];simpa using hc
theorem lL{sz:Nat}{cs:List Value}{i:Int}:∀ {c j:Nat},qF sz cs i j c K->(j:Int)<=i->i<(j:Int)+c->K (.v (.agg ((cs.drop (i.toNat*sz)).take sz).toArray))
 | 0,j,_,h1,h2=>by omega
 | c+1,j,h,h1,h2=>by
  simp only[qF]at h;by_cases he:i=(j:Int)
  ·have:=h.1 he;rw[he];exact this
  ·exact lL (c:=c) (j:=j+1) h.2 (by omega) (by omega)
theorem vU (hT:mB P T) (hA:Ag F a) {t:TypeId} {x ix:Operand}
    (h:aV P T wr ⟨dst,.index t x ix,ty,pos,after,guard⟩ F K):cP P ⟨dst,.index t x ix,ty,pos,after,guard⟩ a K:=by
  refine cP.of (S:=Instr.index t (a.eval x) (a.eval ix)) (aM (by simp only[execOp])) ?_;simp only[aV]at h;obtain⟨k,i,hi,h⟩:=aU hA h;split at h
  · rename_i n e _ _ _ _ ht;split at h
    · rename_i te Cf;have h:=aI hA h;split at h
      · rename_i cs ES;cases hb:te.ld.agg with
        | true =>
          rw[hb]at h;simp only[cond_true]at h;obtain⟨⟨h3,h4⟩,h⟩:=h;refine⟨.v _,_,(rfl:_=_),fun w=>?_,lL h (by simpa using h3) (by simpa using h4)⟩;have he:cs.extract (i.toNat*te.size) (i.toNat*te.size+te.size)=((cs.toList.drop (i.toNat*te.size)).take te.size).toArray:=by
            apply Array.toList_inj.1;simp[Array.toList_extract,List.extract]
          simp[Instr.index,hi,ES,asIntOf,Ty.run_und w ((hT.get ht).arr rfl),h3,h4,part,(hT.get Cf).isAgg w,hb,(hT.get Cf).sizeOf w,he]
        | false =>
          rw[hb]at h;simp only[cond_false]at h;cases h1:Nat.beq te.size 1 with
          | false=>rw[h1]at h;exact h.elim
          | true =>
            rw[h1]at h;simp only[cond_true]at h;cases h2:Nat.beq cs.size n with
            | false=>rw[h2]at h;exact h.elim
            | true =>
              rw[h2]at h;simp only[cond_true]at h;have e1:te.size=1:=Nat.eq_of_beq_eq_true h1;have e2:cs.size=n:=Nat.eq_of_beq_eq_true h2;obtain⟨⟨h3,h4⟩,h⟩:=h;obtain⟨c,hc,hk⟩:=lK h (by simpa using h3) (by simp;omega);refine⟨mk c,c,dS.mk c,fun w=>?_,hk⟩;have HN:cs[i.toNat]?=some c:=by simpa using hc
              simp[Instr.index,hi,ES,asIntOf,Ty.run_und w ((hT.get ht).arr rfl),h3,h4,part,(hT.get Cf).isAgg w,hb,(hT.get Cf).sizeOf w,e1,HN]
      · exact h.elim
    · exact h.elim
  · rename_i _ _ _ _ ht;have h:=aI hA h;split at h
    · rename_i s hs;obtain⟨⟨h3,h4⟩,h⟩:=h;refine⟨.v _,_,(rfl:_=_),fun w=>?_,h⟩;have Cc:i.toNat<s.size:=by omega
      have CR:i.toNat<s.data.toList.length:=by simpa using Cc
      have hg:s[i.toNat]?=some (s.data.toList.getD i.toNat 0):=by
        rw[getElem?_pos s i.toNat Cc];simp only[List.getD_eq_getElem?_getD,List.getElem?_eq_getElem CR,Option.getD_some];rfl
      simp[Instr.index,hi,hs,asIntOf,Ty.run_und w ((hT.get ht).str rfl),h3,hg,bt]
    · exact h.elim
  · exact h.elim
theorem vW (hT:mB P T) (hA:Ag F a) {t:TypeId} {parts:Array (Nat×Operand)}
    (h:aV P T wr ⟨dst,.build t parts,ty,pos,after,guard⟩ F K):cP P ⟨dst,.build t parts,ty,pos,after,guard⟩ a K:=by
  refine cP.of (S:=Instr.build t (parts.map fun(i,x)=>(i,a.eval x))) (aM (by simp only[execOp])) ?_;have hl:∀ vs,vs=parts.toList.map (fun p=>(p.1,a.eval p.2))->(parts.map fun(i,x)=>(i,a.eval x)).toList=vs:=by
    rintro _ rfl;simp
  simp only[aV]at h;split at h
  · rename_i fs _ _ z _ ht;have sz :∀ {fs:List (Nat×Nat)} {K:List (Nat×Nat)->Prop},wS T fs K->∃ l,K l/\∀(f:List Field),f.map (fun g=>(g.offset,g.type))=fs->∀ w,(f.mapM fun g=>do pure (g.offset,← sizeOf g.type):Sem (List (Nat×Nat))).run P w=.ok l w:=by
      intro fs
      induction fs with
      | nil =>
        intro K h;refine⟨[],h,fun f hf w=>?_⟩;simp at hf;subst hf;simp
      | cons p r ih =>
        obtain⟨o,ty⟩:=p;intro K h;unfold wS at h;split at h
        · rename_i te Cf;obtain⟨l,hK,hl⟩:=ih h;refine⟨_,hK,fun f hf w=>?_⟩;cases f with
          | nil=>simp at hf
          | cons g f =>
            simp only[List.map_cons,List.cons.injEq,Prod.mk.injEq]at hf;obtain⟨⟨rfl,rfl⟩,hf⟩:=hf;simp only[List.mapM_cons,Sem.run_bind,Sem.run_pure,Result.andThen_ok,(hT.get Cf).sizeOf w,hl f hf w]
        · exact h.elim
    obtain⟨ps,h,Hh⟩:=sz h;have h:=jR hA h;split at h
    · rename_i cells hc;obtain⟨fa,hu,Cz⟩:=(hT.get ht).struct rfl;refine⟨.v _,_,(rfl:_=_),fun w=>?_,h⟩;have hm:(fa.mapM fun g=>do pure (g.offset,← sizeOf g.type):Sem (Array (Nat×Nat))).run P w=.ok ps.toArray w:=by
        rw[Array.mapM_eq_mapM_toList,Sem.run_map,Hh _ Cz w];rfl
      simp only[Instr.build,Sem.run_bind,(hT.get ht).zeroValue w,Result.andThen_ok,Ty.run_und w hu,hm];rw[hl _ rfl];have:(fun x:Nat=>ps.toArray[x]?)=(fun x:Nat=>ps[x]?):=by funext x;simp
      rw[this,hc];simp
    · exact h.elim
  · rename_i n e _ _ z _ ht;split at h
    · rename_i te Cf;have h:=jR hA h;split at h
      · rename_i cells hc;refine⟨.v _,_,(rfl:_=_),fun w=>?_,h⟩;simp only[Instr.build,Sem.run_bind,(hT.get ht).zeroValue w,Result.andThen_ok,Ty.run_und w ((hT.get ht).arr rfl),(hT.get Cf).sizeOf w];rw[hl _ rfl,hc];simp
      · exact h.elim
    · exact h.elim
  · exact h.elim
theorem oF(hA:Ag F a){fn:Fn}{f c:Array Operand}
    (h:aV P T wr ⟨dst,.makeFunc fn f c,ty,pos,after,guard⟩ F K):cP P ⟨dst,.makeFunc fn f c,ty,pos,after,guard⟩ a K:=by
  refine cP.of (S:=Instr.makeFunc fn (f.map a.eval) (c.map a.eval)) (aM (by simp only[execOp])) ?_;simp only[aV]at h;have h:=bT hA (bT hA h);refine⟨.v _,_,(rfl:_=_),fun w=>?_,h⟩;simp[Instr.makeFunc];constructor <;>apply Array.toList_inj.1 <;>simp
theorem qK(hA:Ag F a){x:Operand}{i:Nat}
    (h:aV P T wr ⟨dst,.extract x i,ty,pos,after,guard⟩ F K):cP P ⟨dst,.extract x i,ty,pos,after,guard⟩ a K:=by
  refine cP.of (S:=Instr.extract (a.eval x) i) (aM (by simp only[execOp])) ?_;simp only[aV]at h;have hx:=hA.ev x;split at h
  · rename_i vs he;rw[he]at hx;simp only[dS]at hx;split at h
    · rename_i v hv;exact⟨mk v,v,dS.mk v,fun w=>by simp[Instr.extract,hx,hv],h⟩
    · exact h.elim
  · exact h.elim
theorem qL(hT:mB P T)(hA:Ag F a){src d:TypeId}{x:Operand}
    (h:aV P T wr ⟨dst,.convert src d x,ty,pos,after,guard⟩ F K):cP P ⟨dst,.convert src d x,ty,pos,after,guard⟩ a K:=by
  refine cP.of (S:=Go.convert src d (a.eval x)) (aM (by simp only[execOp])) ?_;simp only[aV]at h;have hx:=hA.ev x;split at h
  · rename_i k1 _ _ _ _ k _ _ _ _ k2 n h1 h2 he;rw[he]at hx;simp only[dS]at hx;have u1:=fun w=>Ty.run_und w ((hT.get h1).int rfl);have u2:=fun w=>Ty.run_und w ((hT.get h2).int rfl);cases wr with
    | true=>exact⟨.v _,_,(rfl:_=_),fun w=>by simp[Go.convert,hx,u1,u2,Conv.intToInt],h⟩
    | false=>exact⟨.v _,_,(rfl:_=_),fun w=>by simp[Go.convert,hx,u1,u2,Conv.intToInt,cV h.1],h.2⟩
  · rename_i _ _ _ _ _ _ _ _ s h1 h2 he;rw[he]at hx;simp only[dS]at hx;have u1:=fun w=>Ty.run_und w ((hT.get h1).str rfl);have u2:=fun w=>Ty.run_und w ((hT.get h2).str rfl);exact⟨.v _,_,(rfl:_=_),fun w=>by simp[Go.convert,hx,u1,u2],h⟩
  · exact h.elim
theorem jN(hT:mB P T)(hA:Ag F a){t:TypeId}{x:Operand}
    (h:aV P T wr ⟨dst,.makeInterface t x,ty,pos,after,guard⟩ F K):cP P ⟨dst,.makeInterface t x,ty,pos,after,guard⟩ a K:=by
  refine cP.of (S:=Instr.makeInterface t (a.eval x)) (aM (by simp only[execOp])) ?_;simp only[aV]at h;split at h
  · rename_i e _ _ _ _ ht;have hu:=(hT.get ht).ptr rfl;exact⟨.v _,_,(rfl:_=_),fun w=>by simp[Instr.makeInterface,Ty.run_und w hu],aI hA h⟩
  · obtain⟨s,v,h1,h2,h3⟩:=cN (aI hA h);exact⟨s,v,h1,h2,h3⟩
theorem Ak (hT:mB P T) (hA:Ag F a) {args:Array Operand} {ts:Array TypeId}
    (h:aV P T wr ⟨dst,.call ⟨.builtin .len,args,ts⟩,ty,pos,after,guard⟩ F K):cP P ⟨dst,.call ⟨.builtin .len,args,ts⟩,ty,pos,after,guard⟩ a K:=by
  refine cP.of (S:=Builtin.len_ ts ty (args.map a.eval)) (yB rfl) ?_;simp only[aV]at h;split at h
  · rename_i x t hx ht;have IN:(args.map a.eval)[0]?=some (a.eval x):=by simp[hx]
    have he:=hA.ev x;split at h
    · rename_i e _ _ _ _ Cf;split at h
      · rename_i A n c hs;rw[hs]at he;simp only[dS]at he;refine⟨.v _,_,(rfl:_=_),fun w=>?_,h⟩;simp[Builtin.len_,hx,ht,he,Ty.run_und w ((hT.get Cf).slice rfl),goInt]
      · exact h.elim
    · rename_i _ _ _ _ Cf;split at h
      · rename_i s hs;rw[hs]at he;simp only[dS]at he;refine⟨.v _,_,(rfl:_=_),fun w=>?_,h⟩;simp[Builtin.len_,hx,ht,he,Ty.run_und w ((hT.get Cf).str rfl),goInt]
      · exact h.elim
    · rename_i n e _ _ _ _ Cf;refine⟨.v _,_,(rfl:_=_),fun w=>?_,h⟩;simp[Builtin.len_,hx,ht,Ty.run_und w ((hT.get Cf).arr rfl),goInt]
    · exact h.elim
  · exact h.elim
theorem sP{k:IntKind}:∀ {vs:List Value} {x:Int} {K:Int->Prop},mxs k x vs K->∃ z,K z/\∀ w,(vs.foldlM Builtin.max2 (.int k x)).run P w=.ok (.int k z) w
 | [],x,K,h=>⟨x,h,fun w=>by simp⟩
 | v ::r,x,K,h=>by
  cases v with
  | int k' y =>
   simp only[mxs]at h;obtain⟨z,hk,hz⟩:=sP h;refine⟨z,hk,fun w=>?_⟩;simp only[List.foldlM_cons,Builtin.max2,pure_bind];exact hz w
  | _=>simp only[mxs]at h
theorem sQ{k:IntKind}:∀ {vs:List Value} {x:Int} {K:Int->Prop},mns k x vs K->∃ z,K z/\∀ w,(vs.foldlM Builtin.min2 (.int k x)).run P w=.ok (.int k z) w
 | [],x,K,h=>⟨x,h,fun w=>by simp⟩
 | v ::r,x,K,h=>by
  cases v with
  | int k' y =>
   simp only[mns]at h;obtain⟨z,hk,hz⟩:=sQ h;refine⟨z,hk,fun w=>?_⟩;simp only[List.foldlM_cons,Builtin.min2,pure_bind];exact hz w
  | _=>simp only[mns]at h
theorem cA{b:Builtin}{args:Array Operand}{ts:Array TypeId}{S:Sem Value}(hS:∀ c,builtin b ts ty c (args.map a.eval)=(do pure (.value (← S))))(w:World):
    (execOp a.eval ⟨dst,.call ⟨.builtin b,args,ts⟩,ty,pos,after,guard⟩).run P w=(S.run P w).andThen fun v w'=>.ok (.value v) w':=by
  have:(execOp a.eval ⟨dst,.call ⟨.builtin b,args,ts⟩,ty,pos,after,guard⟩).run P w=(builtin b ts ty (args.map fun | .const _=>true | _=>false) (args.map a.eval)).run P w:=by
    simp only[execOp,resolve];rfl
  rw[this,hS];simp
theorem Aj(hA:Ag F a){args:Array Operand}{ts:Array TypeId}
    (h:aV P T wr ⟨dst,.call ⟨.builtin .max,args,ts⟩,ty,pos,after,guard⟩ F K):cP P ⟨dst,.call ⟨.builtin .max,args,ts⟩,ty,pos,after,guard⟩ a K:=by
  refine cP.of (S:=Builtin.max_ ts ty (args.map a.eval)) (cA fun c=>rfl) ?_;simp only[aV]at h;split at h
  · rename_i x r hx;obtain⟨k,n,hn,h⟩:=aU hA h;have h:=bT hA h;obtain⟨z,hk,hz⟩:=sP (P:=P) h;refine⟨.v _,_,(rfl:_=_),fun w=>?_,hk⟩;simp only[Builtin.max_,Array.toList_map,hx,List.map_cons,hn];exact hz w
  · exact h.elim
theorem Ai(hA:Ag F a){args:Array Operand}{ts:Array TypeId}
    (h:aV P T wr ⟨dst,.call ⟨.builtin .min,args,ts⟩,ty,pos,after,guard⟩ F K):cP P ⟨dst,.call ⟨.builtin .min,args,ts⟩,ty,pos,after,guard⟩ a K:=by
  refine cP.of (S:=Builtin.min_ ts ty (args.map a.eval)) (cA fun c=>rfl) ?_;simp only[aV]at h;split at h
  · rename_i x r hx;obtain⟨k,n,hn,h⟩:=aU hA h;have h:=bT hA h;obtain⟨z,hk,hz⟩:=sQ (P:=P) h;refine⟨.v _,_,(rfl:_=_),fun w=>?_,hk⟩;simp only[Builtin.min_,Array.toList_map,hx,List.map_cons,hn];exact hz w
  · exact h.elim
theorem cut0(A:OA):A.map (·.add 0)=A:=by cases A <;>simp[Addr.add]
theorem vT (hT:mB P T) (hA:Ag F a) {t:TypeId} {x:Operand} {lo hi mxo:Option Operand}
    (h:aV P T wr ⟨dst,.slice t x lo hi mxo,ty,pos,after,guard⟩ F K):cP P ⟨dst,.slice t x lo hi mxo,ty,pos,after,guard⟩ a K:=by
  refine cP.of (S:=Instr.sliceAt t (a.eval x) (lo.map a.eval) (hi.map a.eval) (mxo.map a.eval)) (aM (by simp only[execOp])) ?_;have bnd:∀(k:IntKind)(i:Int)(y:Nat)(c:BoundsCode)(w:World),0<=i->i<=(y:Int)->(Instr.sliceBound (.int k i) y c).run P w=.ok i.toNat w:=by
    intro k i y c w h0 h1;simp[Instr.sliceBound,asIntOf,h0,h1]
  cases mxo with
  | some m =>
    cases lo with
    | none=>simp only[aV]at h
    | some l =>
    cases hi with
    | none=>simp only[aV]at h
    | some hi =>
    simp only[aV]at h;have he:=hA.ev x;split at h
    · rename_i e _ _ _ _ ht;split at h
      · rename_i te Cf;have hu:=(hT.get ht).slice rfl;split at h
        · rename_i A n c hs;rw[hs]at he;simp only[dS]at he;obtain⟨k,i,CN,h⟩:=aU hA h;obtain⟨k',j,Eb,h⟩:=aU hA h;obtain⟨k'',q,Hf,h⟩:=aU hA h;obtain⟨⟨h0,h1,h2,h3,h4,h5⟩,h⟩:=h;refine⟨.v _,_,(rfl:_=_),fun w=>?_,h⟩;simp only[Option.map_some,CN,Eb,Hf];simp[Instr.sliceAt,Instr.slice,he,Ty.run_und w hu,Instr.sliceBounds,bnd k'' q c _ w h0 h1,bnd k' j q.toNat _ w h2 (by omega),bnd k i j.toNat _ w h4 (by omega),(hT.get Cf).sizeOf w,bM]
        · exact h.elim
      · exact h.elim
    · exact h.elim
  | none =>
    simp only[aV]at h;have he:=hA.ev x;split at h
    · rename_i e _ _ _ _ ht;split at h
      · rename_i te Cf;have hu:=(hT.get ht).slice rfl;split at h
        · rename_i A n c hs;rw[hs]at he;simp only[dS]at he
          have base:∀ (l hh m:Nat) w,(Instr.sliceBounds true n c (lo.map a.eval) (hi.map a.eval) none).run P w=.ok (l,hh,m) w →
              (Instr.sliceAt t (a.eval x) (lo.map a.eval) (hi.map a.eval) none).run P w=.ok (.slice (if m=l then A else A.map (·.add (l*te.size))) (hh-l) (m-l)) w:=by
            intro l hh m w hb;simp[Instr.sliceAt,Instr.slice,he,Ty.run_und w hu,hb,(hT.get Cf).sizeOf w]
          split at h
          · refine⟨.v _,_,(rfl:_=_),fun w=>?_,h⟩;rw[show(none:Option Operand).map a.eval=none from rfl]at base ⊢;rw[base 0 n c w (by simp[Instr.sliceBounds])];simp[cut0]
          · rename_i hv;obtain⟨k,i,CN,h⟩:=aU hA h;obtain⟨⟨h0,h1⟩,h⟩:=h;refine⟨.v _,_,(rfl:_=_),fun w=>?_,h⟩;simp only[Option.map_none,Option.map_some,CN]at base ⊢;rw[base 0 i.toNat c w (by simp[Instr.sliceBounds,bnd k i c _ w h0 h1])];simp[cut0]
          · rename_i lv;obtain⟨k,i,CN,h⟩:=aU hA h;obtain⟨⟨h0,h1⟩,h⟩:=h;refine⟨.v _,_,(rfl:_=_),fun w=>?_,h⟩;simp only[Option.map_none,Option.map_some,CN]at base ⊢;rw[base i.toNat n c w (by simp[Instr.sliceBounds,bnd k i n _ w h0 h1])];rfl
          · rename_i lv hv;obtain⟨k,i,CN,h⟩:=aU hA h;obtain⟨k',j,Eb,h⟩:=aU hA h;obtain⟨⟨h0,h1,h2,h3⟩,h⟩:=h;refine⟨.v _,_,(rfl:_=_),fun w=>?_,h⟩;simp only[Option.map_none,Option.map_some,CN,Eb]at base ⊢;rw[base i.toNat j.toNat c w (by simp[Instr.sliceBounds,bnd k' j c _ w h0 h1,bnd k i j.toNat _ w h2 (by omega)])];rfl
        · exact h.elim
      · exact h.elim
    · rename_i _ _ _ _ ht;have hu:=(hT.get ht).str rfl;split at h
      · rename_i s hs;rw[hs]at he;simp only[dS]at he
        have base:∀ (l hh m:Nat) w,(Instr.sliceBounds false s.size s.size (lo.map a.eval) (hi.map a.eval) none).run P w=.ok (l,hh,m) w →
            (Instr.sliceAt t (a.eval x) (lo.map a.eval) (hi.map a.eval) none).run P w=.ok (.string (s.extract l hh)) w:=by
          intro l hh m w hb;simp[Instr.sliceAt,Instr.slice,he,Ty.run_und w hu,hb]
        split at h
        · refine⟨.v _,_,(rfl:_=_),fun w=>?_,h⟩;rw[show(none:Option Operand).map a.eval=none from rfl]at base ⊢;rw[base 0 s.size s.size w (by simp[Instr.sliceBounds])]
        · rename_i hv;obtain⟨k,i,CN,h⟩:=aU hA h;obtain⟨⟨h0,h1⟩,h⟩:=h;refine⟨.v _,_,(rfl:_=_),fun w=>?_,h⟩;simp only[Option.map_none,Option.map_some,CN]at base ⊢;rw[base 0 i.toNat s.size w (by simp[Instr.sliceBounds,bnd k i s.size _ w h0 h1])]
        · rename_i lv;obtain⟨k,i,CN,h⟩:=aU hA h;obtain⟨⟨h0,h1⟩,h⟩:=h;refine⟨.v _,_,(rfl:_=_),fun w=>?_,h⟩;simp only[Option.map_none,Option.map_some,CN]at base ⊢;rw[base i.toNat s.size s.size w (by simp[Instr.sliceBounds,bnd k i s.size _ w h0 h1])]
        · rename_i lv hv;obtain⟨k,i,CN,h⟩:=aU hA h;obtain⟨k',j,Eb,h⟩:=aU hA h;obtain⟨⟨h0,h1,h2,h3⟩,h⟩:=h;refine⟨.v _,_,(rfl:_=_),fun w=>?_,h⟩;simp only[Option.map_none,Option.map_some,CN,Eb]at base ⊢;rw[base i.toNat j.toNat s.size w (by simp[Instr.sliceBounds,bnd k' j s.size _ w h0 h1,bnd k i j.toNat _ w h2 (by omega)])]
      · exact h.elim
    · have h:=aI hA h;split at h
      · obtain⟨k,i,CN,h⟩:=aU hA h;obtain⟨s,v,hv,hr,h⟩:=cN h;refine⟨s,v,hv,fun w=>?_,h⟩;simp only[Option.map_none,Option.map_some,CN];exact hr w
      · exact h.elim
    · exact h.elim
theorem uQ(hT:mB P T)(hA:Ag F a){o:Oper}(h:aV P T wr o F K):cP P o a K:=by
 obtain⟨dst,op,ty,pos,after,guard⟩:=o;cases op
 case move x=>exact⟨_,_,hA.ev x,fun w=>by simp[execOp],h⟩
 case assign x=>exact⟨_,_,hA.ev x,fun w=>by simp[execOp],h⟩
 case pick=>exact yM hA h
 case nilCheck=>exact oE hA h
 case binOp=>exact vX hT hA h
 case unOp=>exact yL hA h
 case convert=>exact qL hT hA h
 case makeInterface=>exact jN hT hA h
 case makeFunc=>exact oF hA h
 case slice=>exact vT hT hA h
 case fieldAddr=>exact nK hT hA h
 case field=>exact vV hT hA h
 case indexAddr=>exact nJ hT hA h
 case index=>exact vU hT hA h
 case build=>exact vW hT hA h
 case extract=>exact qK hA h
 case call c =>
  obtain⟨callee,args,ts⟩:=c;cases callee with
  | value f=>simp only[aV]at h
  | invoke r m=>simp only[aV]at h
  | builtin b =>
   cases b
   case len=>exact Ak hT hA h
   case max=>exact Aj hA h
   case min=>exact Ai hA h
   all_goals simp only[aV]at h
 all_goals simp only[aV]at h
end Go.V
/-! The own library V, part 6: operations that read, and operations that act. -/
namespace Go.V
/-! ### Reading -/
def Dm(m:Nat)(C:World->Prop)(w:World)(φ:World->Prop):Prop :=
 match m with
 | 0=>∀ w',C w'->φ w'
 | _=>φ w
theorem mC{m:Nat}{C:World->Prop}{w:World}{φ ψ:World->Prop}(h:∀ w,φ w->ψ w)(hd:Dm m C w φ):Dm m C w ψ:=by
 cases m with
 | zero=>exact fun w' hC=>h _ (hd w' hC)
 | succ m=>exact h _ hd
theorem B9{m:Nat}{C:World->Prop}{w:World}{φ ψ:World->Prop}(h:Dm m C w φ)(k:Dm m C w ψ):Dm m C w (fun w=>φ w/\ψ w):=by
 cases m with
 | zero=>exact fun w' hC=>⟨h w' hC,k w' hC⟩
 | succ m=>exact⟨h,k⟩
theorem Bw{m:Nat}{C:World->Prop}{w:World}{φ:World->Prop}(h:∀ w,φ w):Dm m C w φ:=by
 cases m with
 | zero=>exact fun w' _=>h w'
 | succ m=>exact h w
def qQ(D:(World->Prop)->Prop)(a:Addr):Nat->List Sh->(List Value->Prop)->Prop
 | _,[],K=>K []
 | i,s ::r,K=>wC s fun _ v=>D (fun w=>w.cell? (a.add i)=some v)/\qQ D a (i+1) r fun vs=>K (v ::vs)
def iX(P:Program)(T:nP)(o:Oper)(F:Fr)(D:(World->Prop)->Prop)(K:SV->Prop):Prop :=
 match o.op with
 | .load t x=>uR F x fun a=>(match tf T t with
  | some te=>bif te.ld.agg then(bif Nat.beq te.shs.length te.size then qQ D a 0 te.shs fun cs=>K (.v (.agg cs.toArray)) else False)
   else wC (te.shs.headD .any) fun s v=>D (fun w=>w.cell? a=some v)/\K s
  | none=>False)
 | .lookup t x i ok=>vv F x fun m=>vv F i fun k=>uM T o.type fun s v=>D (fun w=>(Instr.lookup t m k ok).run P w=.ok v w)/\K s
 | .call { callee:=.builtin .len,args,argTypes }=>uL F args.toList fun vs=>uM T o.type fun s v=>D (fun w=>(Builtin.len_ argTypes o.type vs.toArray).run P w=.ok v w)/\K s
 | .convert src dst x=>vv F x fun m=>uM T o.type fun s v=>D (fun w=>(Go.convert src dst m).run P w=.ok v w)/\K s
 | _=>False
section
variable {P : Program} {T : nP} {F : Fr} {a : Act} {dst : Option Tmp} {ty : TypeId} {pos : String} {after : Array Edge} {guard : Option (Nat × Bool)} {m : Nat} {C : World → Prop} {w : World}
theorem dR{ad:Addr}{w:World}:∀(vs:List Value)(i:Nat)(acc:Array Value),(∀ j v,vs[j]?=some v->w.cell? (ad.add (i+j))=some v)->(loadCellsFrom ad i vs.length acc).run P w=.ok (acc++vs.toArray) w
 | [],i,acc,_=>by simp[loadCellsFrom]
 | v ::r,i,acc,h=>by
  have h0:=h 0 v (by simp);simp only[Nat.add_zero]at h0;simp only[List.length_cons,loadCellsFrom,Sem.run_bind];have:(load (ad.add i)).run P w=.ok v w:=by simp[load,Sem.run,h0]
  rw[this];simp only[Result.andThen_ok];rw[dR r (i+1) (acc.push v) (fun j u hu=>by
   have:=h (j+1) u (by simpa using hu);rw[show i+1+j=i+(j+1) by omega];exact this)]
  congr 1;apply Array.toList_inj.1;simp
theorem iF{D:(World->Prop)->Prop}(GK:∀ φ ψ:World->Prop,D φ->D ψ->D (fun w=>φ w/\ψ w))(GJ:∀ φ ψ:World->Prop,(∀ w,φ w->ψ w)->D φ->D ψ)(GI:∀ φ:World->Prop,(∀ w,φ w)->D φ){ad:Addr}:
    ∀ {ss:List Sh} {i:Nat} {K:List Value->Prop},qQ D ad i ss K->∃ vs,vs.length=ss.length/\D (fun w=>∀ j v,vs[j]?=some v->w.cell? (ad.add (i+j))=some v)/\K vs
  | [],i,K,h=>⟨[],rfl,GI _ (by simp),h⟩
  | s ::r,i,K,h=>by
    obtain⟨_,v,_,h1,h2⟩:=gB h;obtain⟨vs,hl,h3,h4⟩:=iF GK GJ GI h2;refine⟨v ::vs,by simp[hl],GJ _ _ ?_ (GK _ _ h1 h3),h4⟩;rintro w ⟨h1,h3⟩ j u hu;cases j with
    | zero=>simp at hu;subst hu;exact h1
    | succ j=>rw[show i+(j+1)=i+1+j by omega];exact h3 j u (by simpa using hu)
theorem uP (hT:mB P T) (hA:Ag F a) {o:Oper} {K:SV->Prop} (h:iX P T o F (Dm m C w) K) :
    ∃ s v,dS s v/\Dm m C w (fun w=>(execOp a.eval o).run P w=.ok (.value v) w)/\K s:=by
  obtain⟨dst,op,ty,pos,after,guard⟩:=o
  have fin:∀ {S:Sem Value} {o:Oper},(∀ w,(execOp a.eval o).run P w=(S.run P w).andThen fun v w'=>.ok (.value v) w')->(∃ s v,dS s v/\Dm m C w (fun w=>S.run P w=.ok v w)/\K s) →
      ∃ s v,dS s v/\Dm m C w (fun w=>(execOp a.eval o).run P w=.ok (.value v) w)/\K s:=by
    rintro S o hS ⟨s,v,h1,h2,h3⟩;exact⟨s,v,h1,mC (fun w h=>by rw[hS,h];rfl) h2,h3⟩
  cases op
  case load t x =>
    refine fin (S:=Instr.loadAt t (a.eval x)) (aM (by simp only[execOp])) ?_;simp only[iX]at h;obtain⟨ad,hx,h⟩:=fO hA h;split at h
    · rename_i te Cf;cases hb:te.ld.agg with
      | true =>
        rw[hb]at h;simp only[cond_true]at h;cases hl:Nat.beq te.shs.length te.size with
        | false=>rw[hl]at h;exact h.elim
        | true =>
          rw[hl]at h;simp only[cond_true]at h;obtain⟨vs,Ch,hD,hK⟩:=iF (fun _ _=>B9) (fun _ _=>mC) (fun _=>Bw) h;refine⟨.v _,_,(rfl:_=_),mC (fun w hw=>?_) hD,hK⟩;have hs:te.size=vs.length:=by rw[Ch];exact(Nat.eq_of_beq_eq_true hl).symm
          simp only[Instr.loadAt,hx,Instr.sureAddr,pure_bind,loadVar,Sem.run_bind,(hT.get Cf).isAgg w,Result.andThen_ok,hb,if_true,(hT.get Cf).sizeOf w,loadCells,hs];rw[dR vs 0 #[] hw];simp
      | false =>
        rw[hb]at h;simp only[cond_false]at h;obtain⟨s,v,h1,h2,h3⟩:=gB h;refine⟨s,v,h1,mC (fun w hw=>?_) h2,h3⟩;simp[Instr.loadAt,hx,Instr.sureAddr,loadVar,(hT.get Cf).isAgg w,hb,load,Sem.run,hw]
    · exact h.elim
  case lookup t x i ok =>
    simp only[iX]at h;refine fin (S:=Instr.lookup t (a.eval x) (a.eval i) ok) (aM (by simp only[execOp])) ?_;exact cN (aI hA (aI hA h)) |>.elim fun s ⟨v,h1,h2,h3⟩=>⟨s,v,h1,h2,h3⟩
  case convert src d x =>
    simp only[iX]at h;refine fin (S:=Go.convert src d (a.eval x)) (aM (by simp only[execOp])) ?_;exact cN (aI hA h) |>.elim fun s ⟨v,h1,h2,h3⟩=>⟨s,v,h1,h2,h3⟩
  case call c =>
    obtain⟨callee,args,ts⟩:=c;cases callee with
    | value f=>simp only[iX]at h
    | invoke r m=>simp only[iX]at h
    | builtin b =>
      cases b
      case len =>
        simp only[iX]at h;refine fin (S:=Builtin.len_ ts ty (args.map a.eval)) (cA fun c=>rfl) ?_;have h:=bT hA h;rw[show(List.map a.eval args.toList).toArray=args.map a.eval from by apply Array.toList_inj.1;simp]at h;exact cN h |>.elim fun s ⟨v,h1,h2,h3⟩=>⟨s,v,h1,h2,h3⟩
      all_goals simp only[iX]at h
  all_goals simp only[iX]at h
end
/-! ### Acting -/
def lW(a:Addr):Nat->List Value->World->(World->Prop)->Prop
 | _,[],w,K=>K w
 | i,v ::r,w,K=>bif v.oneCell' then(∃ u,w.cell? (a.add i)=some u)/\w.frozen? (a.add i)=false/\lW a (i+1) r (w.setCell (a.add i) v) K else False
def fY(P:Program)(T:nP)(t:Nat)(S:Sem Value)(w:World)(K:SV->World->Prop):Prop :=
 uM T t fun s v=>∃ w',S.run P w=.ok v w'/\K s w'
def Ah(P:Program)(S:Sem Unit)(w:World)(K:SV->World->Prop):Prop:=∃ w',S.run P w=.ok () w'/\K .un w'
def dL (P:Program) (T:nP) (fs:List Nat) (et:List Nat) (o:Oper) (F:Fr) (w:World) (K:SV->World->Prop):Prop :=
  match o.op with
  | .store t x y=>uR F x fun a=>vv F y fun v=>(match tf T t with
    | some te=>bif Nat.beq v.cells.size te.size then(bif te.ld.agg then lW a 0 v.cells.toList w (K .un) else
        bif v.oneCell' then(∃ u,w.cell? a=some u)/\w.frozen? a=false/\K .un (w.setCell a v) else False) else False
    | none=>False)
  | .box t x=>vv F x fun v=>K (.v (.pointer (some ⟨w.heap.size,0,none⟩))) (w.alloc (.cells v.cells t))
  | .alloc t=>(match tf T t with
    | some te=>K (.v (.pointer (some ⟨w.heap.size,0,none⟩))) (w.alloc (.cells te.zero.cells t))
    | none=>False)
  | .buildSlice t n parts=>(match tf T t with
    | some ⟨.slice e,_,_,_,_⟩=>(match tf T e with
      | some te=>bif Nat.ble (n*te.size) 16777216 then Ca F parts.toList fun vs=>(match Instr.fill (fun i=>some (i*te.size,te.size)) ((Array.range (n*te.size)).map (te.zero.cells[· % te.zero.cells.size]!)) vs with
        | some cells=>K (.v (.slice (some ⟨w.heap.size,0,none⟩) n n)) (w.alloc (.cells cells e))
        | none=>False) else False
      | none=>False)
    | _=>False)
  | .makeMap _ none=>K (.v (.map (some w.heap.size))) (w.alloc (.map #[] 0))
  | .makeMap t (some x)=>vv F x fun v=>fY P T o.type (Instr.makeMap t (some v)) w K
  | .makeSlice t l c=>vv F l fun l=>vv F c fun c=>fY P T o.type (Instr.makeSlice t l c) w K
  | .convert src dst x=>vv F x fun v=>fY P T o.type (Go.convert src dst v) w K
  | .typeAssert x t u ok=>vv F x fun v=>fY P T o.type (Instr.typeAssert v t u ok) w K
  | .makeInterface t x=>vv F x fun v=>fY P T o.type (Instr.makeInterface t v) w K
  | .mapEntry t m k=>vv F m fun m=>vv F k fun k=>fY P T o.type (Instr.mapEntry t m k) w K
  | .mapUpdate t m k x | .insert t m k x=>vv F m fun m=>vv F k fun k=>vv F x fun x=>Ah P (Instr.mapUpdate t m k x) w K
  | .entryStore t m s x=>vv F m fun m=>vv F s fun s=>vv F x fun x=>Ah P (Instr.entryStore t m s x) w K
  | .range t x=>vv F x fun v=>∃(p:OA)(w':World),(Instr.range t v).run P w=.ok (.pointer p) w'/\K (.v (.pointer p)) w'
  | .next it true=>vv F it fun v=>∃ w':World,((Instr.next v true o.type).run P w=.ok (.tuple #[.bool false]) w'/\K (.v (.tuple #[.bool false])) w')∨∃(k x:Int),(Instr.next v true o.type).run P w=.ok (.tuple #[.bool true,.int .i64 k,.int .i32 x]) w'/\K (.v (.tuple #[.bool true,.int .i64 k,.int .i32 x])) w'
  | .next it false=>vv F it fun v=>∃ w':World,((Instr.next v false o.type).run P w=.ok (.tuple #[.bool false]) w'/\K (.v (.tuple #[.bool false])) w')∨∃(k x:Value),(Instr.next v false o.type).run P w=.ok (.tuple #[.bool true,k,x]) w'/\K (.v (.tuple #[.bool true,k,x])) w'
  | .entry it=>vv F it fun v=>tJ T et fun vs=>∃ w':World,(Instr.entry v).run P w=.ok (.tuple vs.toArray) w'/\K (.v (.tuple vs.toArray)) w'
  | .binOp op t x y _=>vv F x fun a=>vv F y fun b=>fY P T o.type (do eqGuard op t x y a b;Go.binOp op t a b) w K
  | .call { callee:=.builtin .append,args,argTypes }=>uL F args.toList fun vs=>fY P T o.type (Builtin.append_ argTypes o.type vs.toArray) w K
  | .call { callee:=.builtin .copy,args,argTypes }=>uL F args.toList fun vs=>fY P T o.type (Builtin.copy_ argTypes o.type vs.toArray) w K
  | .call { callee:=.builtin .delete,args,argTypes }=>uL F args.toList fun vs=>fY P T o.type (Builtin.delete_ argTypes o.type vs.toArray) w K
  | .call { callee:=.builtin .clear,args,argTypes }=>uL F args.toList fun vs=>fY P T o.type (Builtin.clear_ argTypes o.type vs.toArray) w K
  | .call { callee:=.builtin .cap,args,argTypes }=>uL F args.toList fun vs=>fY P T o.type (Builtin.cap_ argTypes o.type vs.toArray) w K
  | .call { callee:=.value f,args,.. }=>(match ev F f with
    | .v (.func (.func g) first captured)=>bif fs.contains g then uL F args.toList fun vs =>
        Calls P g (first.toList++(vs++captured.toList)).toArray w fun e w'=>uM T o.type fun s v=>e=.returned v/\K s w'
      else uL F args.toList fun vs=>uM T o.type fun s v=>∃ w':World,(callFunc g (first.toList++(vs++captured.toList)).toArray).run P w=.ok (.value v) w'/\K s w'
    | _=>False)
  | .call { callee:=.invoke r m,args,.. }=>vv F r fun rv=>uL F args.toList fun vs=>∃(g:Nat)(as:List Value),(callMethod rv m vs.toArray).run P w=.ok (.enter g as.toArray) w ∧
      Calls P g as.toArray w fun e w'=>uM T o.type fun s v=>e=.returned v/\K s w'
  | _=>False
def Bu(P:Program)(fs:List Nat):Prop:=∀ g∈fs,∀ args w,(callFunc g args).run P w=.ok (.enter g args) w
section
variable {P : Program} {T : nP} {fs et : List Nat} {F : Fr} {a : Act} {w : World} {K : SV → World → Prop}
def uK(P:Program)(o:Oper)(a:Act)(w:World)(K:SV->World->Prop):Prop :=
 o.wp P a w (fun a' w'=>∃ s v,a'=a.put o.dst v/\dS s v/\K s w') vH
theorem aY{o:Oper}{S:Sem Value}(ho:(execOp a.eval o).run P w=(S.run P w).andThen fun v w'=>.ok (.value v) w')(h:∃ s v,dS s v/\∃ w',S.run P w=.ok v w'/\K s w'):uK P o a w K:=by
 obtain⟨s,v,h1,w',h2,h3⟩:=h;unfold uK Oper.wp;rw[ho,h2];exact⟨s,v,rfl,h1,h3⟩
theorem iT{o:Oper}{S:Sem Unit}(ho:(execOp a.eval o).run P w=(S.run P w).andThen fun _ w'=>.ok .skip w')(h:∃ w',S.run P w=.ok () w'/\K .un w'):uK P o a w K:=by
 obtain⟨w',h2,h3⟩:=h;unfold uK Oper.wp;rw[ho,h2];exact⟨.un,undef,rfl,trivial,h3⟩
theorem iO{ρ:Operand->Value}{o:Oper}{S:Sem Unit}(h:execOp ρ o=(do S;pure Next.skip))(w:World):(execOp ρ o).run P w=(S.run P w).andThen fun _ w'=>.ok .skip w':=by
 rw[h];simp only[Sem.run_bind];rfl
theorem hJ{ad:Addr}:∀ {vs:List Value} {i:Nat} {w:World} {K:World->Prop},lW ad i vs w K->∃ w',(storeCells ad vs i).run P w=.ok () w'/\K w'
 | [],i,w,K,h=>⟨w,by simp[storeCells],h⟩
 | v ::r,i,w,K,h=>by
  unfold lW at h;cases hb:v.oneCell' with
  | false=>rw[hb]at h;exact h.elim
  | true =>
   rw[hb]at h;obtain⟨⟨u,hu⟩,hf,h⟩:=h;obtain⟨w',h1,h2⟩:=hJ h;refine⟨w',?_,h2⟩;have:(store (ad.add i) v).run P w=.ok () (w.setCell (ad.add i) v):=by
    cases v <;>simp_all [store,Sem.run,Value.oneCell']
   simp only[storeCells,Sem.run_bind,this,Result.andThen_ok,h1]
theorem bQ{t:Nat}{S:Sem Value}(h:fY P T t S w K):∃ s v,dS s v/\∃ w',S.run P w=.ok v w'/\K s w':=cN h
theorem gG(e:TypeId)(cs:Array Value)(w:World):(newRow e cs).run P w=.ok ⟨w.heap.size,0,none⟩ (w.alloc (.cells cs e)):=by
 rfl
theorem xU(hT:mB P T)(Cz:Bu P fs)(hA:Ag F a){o:Oper}(h:dL P T fs et o F w K):uK P o a w K:=by
 obtain⟨dst,op,ty,pos,after,guard⟩:=o;have arr:∀(args:Array Operand),(List.map a.eval args.toList).toArray=args.map a.eval:=fun args=>by apply Array.toList_inj.1;simp
 cases op
 case store t x y =>
  refine iT (S:=Instr.storeAt t (a.eval x) (a.eval y)) (iO (by simp only[execOp]) w) ?_;simp only[dL]at h;obtain⟨ad,hx,h⟩:=fO hA h;have h:=aI hA h;split at h
  ·rename_i te Cf;cases hb:Nat.beq (a.eval y).cells.size te.size with
   | false=>rw[hb]at h;exact h.elim
   | true =>
    rw[hb]at h;simp only[cond_true]at h;have hs:(a.eval y).cells.size=te.size:=Nat.eq_of_beq_eq_true hb;have base:∀ w',(storeCells ad (a.eval y).cells.toList).run P w=.ok () w'->(Instr.storeAt t (a.eval x) (a.eval y)).run P w=.ok () w':=by
     intro w' hw;simp[Instr.storeAt,hx,Instr.sureAddr,storeVar,(hT.get Cf).sizeOf w,hs,hw]
    cases hg:te.ld.agg with
    | true =>
     rw[hg]at h;obtain⟨w',h1,h2⟩:=hJ (P:=P) h;exact⟨w',base w' h1,h2⟩
    | false =>
     rw[hg]at h;simp only[cond_false]at h;cases ho:(a.eval y).oneCell' with
     | false=>rw[ho]at h;exact h.elim
     | true =>
      rw[ho]at h;simp only[cond_true]at h;obtain⟨⟨u,hu⟩,hf,h⟩:=h;refine⟨_,base _ ?_,h⟩;have hc:(a.eval y).cells.toList=[a.eval y]:=by
       generalize a.eval y=v at *;cases v <;>simp_all [Value.cells,Value.oneCell']
      have h0:ad.add 0=ad:=by simp[Addr.add]
      rw[hc];have:(store (ad.add 0) (a.eval y)).run P w=.ok () (w.setCell ad (a.eval y)):=by
       rw[h0];generalize a.eval y=v at *;cases v <;>simp_all [store,Sem.run,Value.oneCell']
      simp only[storeCells,Sem.run_bind,this,Result.andThen_ok];rfl
  ·exact h.elim
 case box t x =>
  refine aY (S:=Instr.box t (a.eval x)) (aM (by simp only[execOp]) w) ?_;simp only[dL]at h;have h:=aI hA h;exact⟨.v _,_,(rfl:_=_),_,by simp only[Instr.box,newVar,Sem.run_bind,gG,Result.andThen_ok];rfl,h⟩
 case alloc t =>
  refine aY (S:=Instr.alloc t true (.tuple #[])) (aM (by simp only[execOp]) w) ?_;simp only[dL]at h;split at h
  ·rename_i te Cf;exact⟨.v _,_,(rfl:_=_),_,by simp only[Instr.alloc,newVar,Sem.run_bind,(hT.get Cf).zeroValue w,gG,Result.andThen_ok];rfl,h⟩
  ·exact h.elim
 case buildSlice t n parts =>
  refine aY (S:=Instr.buildSlice t n (parts.map fun(i,x)=>(i,a.eval x))) (aM (by simp only[execOp]) w) ?_;simp only[dL]at h;split at h
  ·rename_i e _ _ _ _ ht;split at h
   ·rename_i te Cf;cases hb:Nat.ble (n*te.size) 16777216 with
    | false=>rw[hb]at h;exact h.elim
    | true =>
     rw[hb]at h;simp only[cond_true]at h;have h:=jR hA h;split at h
     ·rename_i cells hc;refine⟨.v _,_,(rfl:_=_),_,?_,h⟩;have CJ:¬ (n*te.size>2^24):=by
       have:=Nat.le_of_ble_eq_true hb;omega
      have hl:(parts.map fun(i,x)=>(i,a.eval x)).toList=parts.toList.map (fun p=>(p.1,a.eval p.2)):=by simp
      simp only[Instr.buildSlice,Sem.run_bind,Ty.run_und w ((hT.get ht).slice rfl),Result.andThen_ok,(hT.get Cf).sizeOf w,if_neg CJ];rw[hl];by_cases hz:n*te.size=0
      ·rw[if_pos hz];rw[pure_bind];have e0:(Array.range (n*te.size)).map ((#[]:Array Value)[· % (#[]:Array Value).size]!)=(Array.range (n*te.size)).map (te.zero.cells[· % te.zero.cells.size]!):=by
        rw[hz];simp
       rw[e0,hc];simp only[Sem.run_bind,gG,Result.andThen_ok];rfl
      ·rw[if_neg hz];simp only[Sem.run_bind,(hT.get Cf).zeroValue w,Sem.run_pure,Result.andThen_ok];rw[hc];simp only[Sem.run_bind,gG,Result.andThen_ok];rfl
     ·exact h.elim
   ·exact h.elim
  ·exact h.elim
 case makeMap t r =>
  cases r with
  | none =>
   refine aY (S:=Instr.makeMap t none) (aM (by simp only[execOp,Option.map_none]) w) ?_;simp only[dL]at h;exact⟨.v _,_,(rfl:_=_),_,rfl,h⟩
  | some x =>
   refine aY (S:=Instr.makeMap t (some (a.eval x))) (aM (by simp only[execOp,Option.map_some]) w) ?_;simp only[dL]at h;exact bQ (aI hA h)
 case makeSlice t l c =>
  refine aY (S:=Instr.makeSlice t (a.eval l) (a.eval c)) (aM (by simp only[execOp]) w) ?_;simp only[dL]at h;exact bQ (aI hA (aI hA h))
 case convert src d x =>
  refine aY (S:=Go.convert src d (a.eval x)) (aM (by simp only[execOp]) w) ?_;simp only[dL]at h;exact bQ (aI hA h)
 case typeAssert x t u ok =>
  refine aY (S:=Instr.typeAssert (a.eval x) t u ok) (aM (by simp only[execOp]) w) ?_;simp only[dL]at h;exact bQ (aI hA h)
 case makeInterface t x =>
  refine aY (S:=Instr.makeInterface t (a.eval x)) (aM (by simp only[execOp]) w) ?_;simp only[dL]at h;exact bQ (aI hA h)
 case mapEntry t m k =>
  refine aY (S:=Instr.mapEntry t (a.eval m) (a.eval k)) (aM (by simp only[execOp]) w) ?_;simp only[dL]at h;exact bQ (aI hA (aI hA h))
 case mapUpdate t m k x =>
  refine iT (S:=Instr.mapUpdate t (a.eval m) (a.eval k) (a.eval x)) (iO (by simp only[execOp]) w) ?_;simp only[dL]at h;exact aI hA (aI hA (aI hA h))
 case insert t m k x =>
  refine iT (S:=Instr.mapUpdate t (a.eval m) (a.eval k) (a.eval x)) (iO (by simp only[execOp]) w) ?_;simp only[dL]at h;exact aI hA (aI hA (aI hA h))
 case entryStore t m s x =>
  refine iT (S:=Instr.entryStore t (a.eval m) (a.eval s) (a.eval x)) (iO (by simp only[execOp]) w) ?_;simp only[dL]at h;exact aI hA (aI hA (aI hA h))
 case range t x =>
  refine aY (S:=Instr.range t (a.eval x)) (aM (by simp only[execOp]) w) ?_;simp only[dL]at h;obtain⟨p,w',h1,h2⟩:=aI hA h;exact⟨.v _,_,(rfl:_=_),w',h1,h2⟩
 case next it s =>
  refine aY (S:=Instr.next (a.eval it) s ty) (aM (by simp only[execOp]) w) ?_;cases s with
  | true =>
   simp only[dL]at h;obtain⟨w',⟨h1,h2⟩ | ⟨k,x,h1,h2⟩⟩:=aI hA h
   ·exact⟨.v _,_,(rfl:_=_),w',h1,h2⟩
   ·exact⟨.v _,_,(rfl:_=_),w',h1,h2⟩
  | false =>
   simp only[dL]at h;obtain⟨w',⟨h1,h2⟩ | ⟨k,x,h1,h2⟩⟩:=aI hA h
   ·exact⟨.v _,_,(rfl:_=_),w',h1,h2⟩
   ·exact⟨.v _,_,(rfl:_=_),w',h1,h2⟩
 case entry it =>
  refine aY (S:=Instr.entry (a.eval it)) (aM (by simp only[execOp]) w) ?_;simp only[dL]at h;obtain⟨vs,w',h1,h2⟩:=jO (aI hA h);exact⟨.v _,_,(rfl:_=_),w',h1,h2⟩
 case binOp op t x y yt =>
  refine aY (S:=do eqGuard op t x y (a.eval x) (a.eval y);Go.binOp op t (a.eval x) (a.eval y)) (aM (by simp only[execOp]) w) ?_;simp only[dL]at h;exact bQ (aI hA (aI hA h))
 case call c =>
  obtain⟨callee,args,ts⟩:=c;cases callee with
  | invoke r m =>
   simp only[dL]at h;obtain⟨g,as,h1,h2⟩:=bT hA (aI hA h);rw[arr]at h1;unfold uK Oper.wp;have Cp:(execOp a.eval ⟨dst,.call ⟨.invoke r m,args,ts⟩,ty,pos,after,guard⟩).run P w=.ok (.enter g as.toArray) w:=by
    have e0:(#[a.eval r]++args.map a.eval)[0]?=some (a.eval r):=by rw[Array.getElem?_append_left (by exact Nat.zero_lt_one)];rfl
    have e1:(#[a.eval r]++args.map a.eval).extract 1 (#[a.eval r]++args.map a.eval).size=args.map a.eval:=by
     apply Array.toList_inj.1;simp;exact List.take_of_length_le (by simp)
    simp only[execOp,resolve,pure_bind,invoke,e0,e1];exact h1
   rw[Cp];refine h2.mono fun e w' hw=>?_;obtain⟨s,v,h1,rfl,h3⟩:=cN hw;exact⟨s,v,rfl,h1,h3⟩
  | builtin b =>
   cases b
   case append =>
    simp only[dL]at h;have h:=bT hA h;rw[arr]at h;exact aY (S:=Builtin.append_ ts ty (args.map a.eval)) (cA (fun c=>rfl) w) (bQ h)
   case copy =>
    simp only[dL]at h;have h:=bT hA h;rw[arr]at h;exact aY (S:=Builtin.copy_ ts ty (args.map a.eval)) (cA (fun c=>rfl) w) (bQ h)
   case delete =>
    simp only[dL]at h;have h:=bT hA h;rw[arr]at h;exact aY (S:=Builtin.delete_ ts ty (args.map a.eval)) (cA (fun c=>rfl) w) (bQ h)
   case clear =>
    simp only[dL]at h;have h:=bT hA h;rw[arr]at h;exact aY (S:=Builtin.clear_ ts ty (args.map a.eval)) (cA (fun c=>rfl) w) (bQ h)
   case cap =>
    simp only[dL]at h;have h:=bT hA h;rw[arr]at h;exact aY (S:=Builtin.cap_ ts ty (args.map a.eval)) (cA (fun c=>rfl) w) (bQ h)
   all_goals simp only[dL]at h
  | value f =>
   simp only[dL]at h;have hf:=hA.ev f;split at h
   ·rename_i g first captured he
    rw[he]at hf;simp only[dS]at hf;cases hg:fs.contains g with
    | false =>
     rw[hg]at h;simp only[cond_false]at h;obtain⟨s,v,h1,w',h2,h3⟩:=cN (bT hA h);unfold uK Oper.wp;have Cp:(execOp a.eval ⟨dst,.call ⟨.value f,args,ts⟩,ty,pos,after,guard⟩).run P w=.ok (.value v) w':=by
      simp only[execOp,resolve,hf,Deferred.ofValue,pure_bind,invoke];rw[← h2];congr 2;apply Array.toList_inj.1;simp
     rw[Cp];exact⟨s,v,rfl,h1,h3⟩
    | true =>
     rw[hg]at h;simp only[cond_true]at h;have h:=bT hA h;have HF:=Cz g (List.contains_iff_mem.1 hg);unfold uK Oper.wp;have Cp:(execOp a.eval ⟨dst,.call ⟨.value f,args,ts⟩,ty,pos,after,guard⟩).run P w=.ok (.enter g (first.toList++(List.map a.eval args.toList++captured.toList)).toArray) w:=by
      simp only[execOp,resolve,hf,Deferred.ofValue,pure_bind,invoke];rw[HF];congr 2;apply Array.toList_inj.1;simp
     rw[Cp];refine h.mono fun e w' hw=>?_;obtain⟨s,v,h1,rfl,h3⟩:=cN hw;exact⟨s,v,rfl,h1,h3⟩
   ·exact h.elim
 all_goals simp only[dL]at h
end
end Go.V
/-! The own library V, part 7: a function's whole text: what must hold for a call of it to come to an end as told. -/
namespace Go.V
structure Cx where
 P:Program
 T:nP
 fs:List Nat
 n:Nat
structure Ra where
 wr:List Nat
 ql:List Nat
 waits:cO
 et:List Nat:=[]
inductive Sk where
 | reg (a:Ra)
 | regX (a:Ra) (t:XT)
 | seq (x y:Sk)
 | cond (x y:Sk)
 | join (J:List (Nat×Sh)) (W:List Nat) (x:Sk)
 | block (x:Sk)
 | loop (J:List (Nat×Sh)) (W:List Nat) (x:Sk)
 | leaf
def xI:Option TE->Bool
 | some ⟨.int _,_,_,_,_⟩=>true
 | _=>false
def pT:Option TE->Bool
 | some ⟨.str,_,_,_,_⟩=>true
 | _=>false
def xY:Option TE->Bool
 | some ⟨.slice _,_,_,_,_⟩=>true
 | _=>false
def Ba:Option TE->Bool
 | some ⟨.map _ _,_,_,_,_⟩=>true
 | _=>false
def gL(T:nP)(o:Oper):Nat :=
 match o.op with
 | .load .. | .lookup ..=>1
 | .move _ | .assign _ | .pick .. | .nilCheck _ | .binOp .. | .unOp .. | .fieldAddr .. | .field .. | .indexAddr .. | .index .. | .slice .. | .build .. | .makeFunc .. | .extract .. | .makeInterface ..=>0
 | .convert src dst _=>if xI (tf T src) && xI (tf T dst) || pT (tf T src) && pT (tf T dst) then 0 else if xY (tf T src) && pT (tf T dst) then 1 else 2
 | .call { callee:=.builtin .len,argTypes,.. }=>(match argTypes[0]? with
  | some t=>if Ba (tf T t) then 1 else 0
  | none=>2)
 | .call { callee:=.builtin .max,.. } | .call { callee:=.builtin .min,.. }=>0
 | _=>2
def kinds(T:nP)(ql:List Nat)(ops:List Oper):dC:=fun i =>
 match ops[i]? with
 | some o=>let k:=gL T o;bif ql.contains i && Nat.beq k 1 then 0 else k
 | none=>2
def rR(n:Nat)(F:Fr)(dst:Option Tmp)(s:SV)(K:Fr->Prop):Prop :=
 match dst with
 | none=>K F
 | some d=>bif Nat.blt d n then K (upd F d s) else False
def inC(C:Option (World->Prop))(w:World)(φ:Prop):Prop :=
 match C with
 | none=>φ
 | some C=>C w/\φ
def dU(C:Option (World->Prop)):World->Prop :=
 match C with
 | none=>fun _=>True
 | some C=>C
def AG(cx:Cx)(et:List Nat)(wr:Bool)(m:Nat)(C:Option (World->Prop))(o:Oper)(F:Fr)(w:World)(K:Fr->World->Prop):Prop :=
 match gL cx.T o with
 | 0=>aV cx.P cx.T wr o F fun s=>rR cx.n F o.dst s fun F'=>K F' w
 | 1=>iX cx.P cx.T o F (Dm m (dU C) w) fun s=>rR cx.n F o.dst s fun F'=>K F' w
 | _=>dL cx.P cx.T cx.fs et o F w fun s w'=>inC C w' (rR cx.n F o.dst s fun F'=>K F' w')
def lT(cx:Cx)(a:Ra)(C:Option (World->Prop))(ops:List Oper):List (Nat×Oper)->Fr->World->(Fr->World->Prop)->Prop
 | [],F,w,K=>K F w
 | (i,o) ::r,F,w,K =>
  let go (F:Fr):Prop:=AG cx a.et (a.wr.contains i) (bif a.ql.contains i then 0 else 1) C o F w fun F' w'=>lT cx a C ops r F' w' K;let skip (F:Fr):Prop:=rR cx.n F o.dst (.v undef) fun F'=>lT cx a C ops r F' w K
  match o.guard with
  | none=>go F
  | some (j,want)=>(match (ops[j]?).bind (·.dst)with
   | none=>False
   | some t=>bif Nat.blt t cx.n then(match F t with
    | .v (.bool true)=>bif want then go F else skip F
    | .v (.bool false)=>bif want then skip F else go F
    | .v (.tuple _)=>skip F
    | .b c=>(c=true->bif want then go (upd F t (.v (.bool true))) else skip (upd F t (.v (.bool true))))/\(c=false->bif want then skip (upd F t (.v (.bool false))) else go (upd F t (.v (.bool false))))
    | .p q _=>(q->bif want then go (upd F t (.v (.bool true))) else skip (upd F t (.v (.bool true))))/\(¬ q->bif want then skip (upd F t (.v (.bool false))) else go (upd F t (.v (.bool false))))
    | _=>False) else False)
def BL(cx:Cx)(a:Ra)(ops:List Oper)(draw:Bool)(F:Fr)(w:World)(K:Fr->World->Prop):Prop :=
 bif draw then
  bif yH ops (kinds cx.T a.ql ops) a.waits then
   (match a.ql with
   | []=>lT cx a none ops (dT 0 ops) F w.drew K
   | _=>∃ C:World->Prop,C w.drew/\lT cx a (some C) ops (dT 0 ops) F w.drew K)
  else False
 else lT cx a none ops (dT 0 ops) F w K
def vxt(cx:Cx)(a:Ra)(C:Option (World->Prop))(ops:List Oper)(F:Fr)(w:World)(K:Fr->World->Prop):XT->Prop
 | .leaf L=>lT cx a C ops (pick ops L) F w K
 | .split _ _ x y=>vxt cx a C ops F w K x/\vxt cx a C ops F w K y
 | .dead _=>True
def zB(cx:Cx)(a:Ra)(t:XT)(ops:List Oper)(draw:Bool)(F:Fr)(w:World)(K:Fr->World->Prop):Prop :=
 bif draw then
  bif A0 ops (kinds cx.T a.ql ops) a.waits t then
   (match a.ql with
   | []=>vxt cx a none ops F w.drew K t
   | _=>∃ C:World->Prop,C w.drew/\vxt cx a (some C) ops F w.drew K t)
  else False
 else False
section
variable {cx : Cx} {F : Fr} {a : Act} {w : World}
structure St(cx:Cx)(F:Fr)(a:Act):Prop where
 ag:Ag F a
 size:a.tmps.size=cx.n
 defers:a.defers=[]
theorem zL(a:Act)(d:Option Tmp)(v:Value):(a.put d v).tmps.size=a.tmps.size:=by cases d <;>simp[Act.put]
theorem wG(a:Act)(d:Option Tmp)(v:Value):(a.put d v).defers=a.defers:=by cases d <;>rfl
theorem fN(hS:St cx F a){d:Option Tmp}{s:SV}{v:Value}(hs:dS s v){K:Fr->Prop}(h:rR cx.n F d s K):∃ F',St cx F' (a.put d v)/\K F':=by
 cases d with
 | none=>exact⟨F,hS,h⟩
 | some d =>
  simp only[rR]at h;cases hb:Nat.blt d cx.n with
  | false=>rw[hb]at h;exact h.elim
  | true =>
   rw[hb]at h;have hd:d<cx.n:=by simpa[Nat.blt_eq]using hb
   exact⟨_,⟨hS.ag.put hS.size hd hs,by rw[zL];exact hS.size,by rw[wG];exact hS.defers⟩,h⟩
theorem St.known(hS:St cx F a){t:Nat}{c:Bool}(h:dS (.v (.bool c)) (a.tmps.getD t undef)):St cx (upd F t (.v (.bool c))) a:=by
 refine⟨fun u=>?_,hS.size,hS.defers⟩;unfold upd;cases hb:Nat.beq u t with
 | true =>
  have:u=t:=Nat.eq_of_beq_eq_true hb;subst this;exact h
 | false=>exact hS.ag u
theorem xT (hT:mB cx.P cx.T) (Cz:Bu cx.P cx.fs) (hS:St cx F a) {et:List Nat} {wr:Bool} {m k:Nat} {C:Option (World->Prop)} {ops:Array Oper} {o:Oper} {K:Fr->World->Prop} {K':Act->World->Prop}
    (hw:Region.wanted o (yielded ops a.tmps)=true) (hk:k=gL cx.T o∨(k=0/\gL cx.T o=1/\m=0)) (hm:m=0->gL cx.T o=1->k=0)
    (hK:∀ F' a' w',St cx F' a'->K F' w'->K' a' w') (h:AG cx et wr m C o F w K):aR cx.P ops (dU C) k o K' a w:=by
  unfold AG at h;unfold aR;rw[if_pos hw];split at h
  · rename_i Hw;obtain rfl:k=0:=by
      rcases hk with hk | hk
      · rw[hk,Hw]
      · exact hk.1
    obtain⟨s,v,h1,h2,h3⟩:=uQ hT hS.ag h;obtain⟨F',Co,Dd⟩:=fN hS h1 h3;exact⟨v,fun w' _=>.inl (h2 w'),hK _ _ _ Co Dd⟩
  · rename_i DM;obtain⟨s,v,h1,h2,h3⟩:=uP hT hS.ag h;obtain⟨F',Co,Dd⟩:=fN hS h1 h3;rcases Nat.eq_zero_or_pos m with DJ | DJ
    · obtain rfl:=hm DJ DM;subst DJ;exact⟨v,fun w' hC=>.inl (h2 w' hC),hK _ _ _ Co Dd⟩
    · obtain⟨m,rfl⟩:∃ m',m=m'+1:=⟨m-1,by omega⟩;obtain rfl:k=1:=by
        rcases hk with hk | hk
        · rw[hk,DM]
        · omega
      exact⟨v,.inl h2,hK _ _ _ Co Dd⟩
  · rename_i Hr Dq;have Ea:k=gL cx.T o:=by
      rcases hk with hk | hk
      · exact hk
      · exact absurd hk.2.1 Dq
    split
    · exact absurd Ea.symm Hr
    · exact absurd Ea.symm Dq
    · refine Oper.wp_mono ?_ (xU hT Cz hS.ag h);rintro a' w' ⟨s,v,rfl,h1,h2⟩;refine⟨⟨v,rfl⟩,?_⟩;cases C with
      | none =>
        simp only[inC]at h2;obtain⟨F',Co,Dd⟩:=fN hS h1 h2;exact⟨trivial,hK _ _ _ Co Dd⟩
      | some C =>
        simp only[inC]at h2;obtain⟨F',Co,Dd⟩:=fN hS h1 h2.2;exact⟨h2.1,hK _ _ _ Co Dd⟩
theorem xZ(hS:St cx F a){k:Nat}{C:Option (World->Prop)}{ops:Array Oper}{o:Oper}{K:Fr->World->Prop}{K':Act->World->Prop}
    (hw:Region.wanted o (yielded ops a.tmps)=false) (hK:∀ F' a' w',St cx F' a'->K F' w'->K' a' w') (h:rR cx.n F o.dst (.v undef) fun F'=>K F' w):aR cx.P ops (dU C) k o K' a w:=by
  unfold aR;rw[if_neg (by rw[hw];simp)];obtain⟨F',Co,Dd⟩:=fN (s:=.v undef) (v:=undef) hS rfl h;exact hK _ _ _ Co Dd
theorem kT (hT:mB cx.P cx.T) (Cz:Bu cx.P cx.fs) {ra:Ra} {C:Option (World->Prop)} {ops:List Oper} {K:Fr->World->Prop} :
    ∀ (r:List (Nat×Oper)) (F:Fr) (a:Act) (w:World),(∀ x∈r,ops[x.1]?=some x.2)->St cx F a->lT cx ra C ops r F w K →
      bZ cx.P ops.toArray (dU C) (kinds cx.T ra.ql ops) (fun a' w'=>∃ F',St cx F' a'/\K F' w') r a w
  | [],F,a,w,_,hS,h=>⟨F,hS,h⟩
  | (i, o) :: r,F,a,w,hr,hS,h=>by
    have hi:ops[i]?=some o:=hr (i,o) (by simp);have ih:∀ F' a' w',St cx F' a'->lT cx ra C ops r F' w' K->bZ cx.P ops.toArray (dU C) (kinds cx.T ra.ql ops) (fun a' w'=>∃ F',St cx F' a'/\K F' w') r a' w' :=
      fun F' a' w' Co h'=>kT hT Cz r F' a' w' (fun x hx=>hr x (by simp[hx])) Co h'
    have Gk:kinds cx.T ra.ql ops i=(bif ra.ql.contains i && Nat.beq (gL cx.T o) 1 then 0 else gL cx.T o):=by
      unfold kinds;rw[hi]
    have go:∀(F:Fr),St cx F a->Region.wanted o (yielded ops.toArray a.tmps)=true →
        AG cx ra.et (ra.wr.contains i) (bif ra.ql.contains i then 0 else 1) C o F w (fun F' w'=>lT cx ra C ops r F' w' K) →
        aR cx.P ops.toArray (dU C) (kinds cx.T ra.ql ops i) o (bZ cx.P ops.toArray (dU C) (kinds cx.T ra.ql ops) (fun a' w'=>∃ F',St cx F' a'/\K F' w') r) a w:=by
      intro F hS hw h;refine xT hT Cz hS hw ?_ ?_ ih h
      · rw[Gk];cases hq:ra.ql.contains i <;>cases hk:Nat.beq (gL cx.T o) 1 <;>simp;have:=Nat.eq_of_beq_eq_true hk;omega
      · rw[Gk];intro hm DM;cases hq:ra.ql.contains i with
        | false=>rw[hq]at hm;simp at hm
        | true=>simp[DM]
    have skip:∀(F:Fr),St cx F a->Region.wanted o (yielded ops.toArray a.tmps)=false->rR cx.n F o.dst (.v undef) (fun F'=>lT cx ra C ops r F' w K) →
        aR cx.P ops.toArray (dU C) (kinds cx.T ra.ql ops i) o (bZ cx.P ops.toArray (dU C) (kinds cx.T ra.ql ops) (fun a' w'=>∃ F',St cx F' a'/\K F' w') r) a w:=by
      intro F hS hw h;exact xZ hS hw ih h
    simp only[lT]at h;simp only[bZ];split at h
    · rename_i hg;exact go F hS (by simp[Region.wanted,hg]) h
    · rename_i j want hg;split at h
      · exact h.elim
      · rename_i t ht;have DT:=ht;have yl:∀ c:Bool,a.tmps.getD t undef=.bool c->yielded ops.toArray a.tmps j=some c∨¬ t<cx.n:=by
          intro c hc;by_cases DS:t<cx.n
          · left;unfold yielded;have:(ops.toArray[j]?).bind (·.dst)=some t:=by simpa using ht
            rw[this];have Cc:t<a.tmps.size:=by rw[hS.size];exact DS
            simp only[Option.bind_some,Array.getElem?_eq_getElem Cc];simp[Array.getD,Cc]at hc;rw[hc]
          · exact .inr DS
        cases hb:Nat.blt t cx.n with
        | false=>rw[hb]at h;exact h.elim
        | true =>
          rw[hb]at h;simp only[cond_true]at h;have DS:t<cx.n:=by simpa[Nat.blt_eq]using hb
          have CD:∀ c:Bool,a.tmps.getD t undef=.bool c->Region.wanted o (yielded ops.toArray a.tmps)=(c ==want):=by
            intro c hc;rcases yl c hc with h | h
            · simp[Region.wanted,hg,h]
            · exact absurd DS h
          have ht:=hS.ag t;split at h
          · rename_i he;rw[he]at ht;simp only[dS]at ht;have hw:=CD true ht;cases want with
            | true=>exact go F hS (by rw[hw];rfl) h
            | false=>exact skip F hS (by rw[hw];rfl) h
          · rename_i he;rw[he]at ht;simp only[dS]at ht;have hw:=CD false ht;cases want with
            | true=>exact skip F hS (by rw[hw];rfl) h
            | false=>exact go F hS (by rw[hw];rfl) h
          · rename_i vs he;rw[he]at ht;simp only[dS]at ht;refine skip F hS ?_ h;have:yielded ops.toArray a.tmps j=none:=by
              unfold yielded;have h2:(ops.toArray[j]?).bind (·.dst)=some t:=by simpa using DT
              rw[h2];have Cc:t<a.tmps.size:=by rw[hS.size];exact DS
              simp only[Option.bind_some,Array.getElem?_eq_getElem Cc];simp[Array.getD,Cc]at ht;rw[ht]
            simp[Region.wanted,hg,this]
          · rename_i c he;rw[he]at ht;simp only[dS]at ht;have hw:=CD c ht;have Co:=hS.known (t:=t) (c:=c) (by simpa[dS]using ht);cases c with
            | true =>
              have h:=h.1 rfl;cases want with
              | true=>exact go _ Co (by rw[hw];rfl) h
              | false=>exact skip _ Co (by rw[hw];rfl) h
            | false =>
              have h:=h.2 rfl;cases want with
              | true=>exact skip _ Co (by rw[hw];rfl) h
              | false=>exact go _ Co (by rw[hw];rfl) h
          · rename_i q d he;rw[he]at ht;simp only[dS]at ht;by_cases hq:q
            · have DU:a.tmps.getD t undef=.bool true:=by rw[ht];simp[hq]
              have hw:=CD true DU;have Co:=hS.known (t:=t) (c:=true) (by simpa[dS]using DU);have h:=h.1 hq;cases want with
              | true=>exact go _ Co (by rw[hw];rfl) h
              | false=>exact skip _ Co (by rw[hw];rfl) h
            · have DU:a.tmps.getD t undef=.bool false:=by rw[ht];simp[hq]
              have hw:=CD false DU;have Co:=hS.known (t:=t) (c:=false) (by simpa[dS]using DU);have h:=h.2 hq;cases want with
              | true=>exact skip _ Co (by rw[hw];rfl) h
              | false=>exact go _ Co (by rw[hw];rfl) h
          · exact h.elim
theorem tQ(l:List Oper):∀ x∈dT 0 l,l[x.1]?=some x.2:=by
 rintro⟨i,o⟩ hx;have:=(cK.1 hx).2;simpa using this
end
end Go.V
/-! The own library V, part 8: code, loops, functions. -/
namespace Go.V
def TF:List (Nat×Sh)->Type->Type
 | [],X=>X
 | (_,.int _) ::r,X=>Int->TF r X
 | (_,.bool) ::r,X=>Bool->TF r X
 | (_,.str) ::r,X=>ByteArray->TF r X
 | (_,.slice) ::r,X=>OA->Nat->Nat->TF r X
 | (_,.ptr) ::r,X=>OA->TF r X
 | (_,.map) ::r,X=>Option Nat->TF r X
 | (_,.any) ::r,X=>Value->TF r X
 | (_,.addr) ::r,X=>Addr->TF r X
 | (_,.cst _) ::r,X=>TF r X
def lU{X:Type}:(J:List (Nat×Sh))->TF J X->Fr->(X->Prop)->Prop
 | [],I,_,K=>K I
 | (t,.int k) ::r,I,F,K=>(match F t with
  | .v (.int k' x)=>if k=k' then lU r (I x) F K else False
  | _=>False)
 | (t,.bool) ::r,I,F,K=>(match F t with
  | .v (.bool c)=>lU r (I c) F K
  | .b c=>lU r (I c) F K
  | .p q d=>lU r (I (@decide q d)) F K
  | _=>False)
 | (t,.str) ::r,I,F,K=>(match F t with
  | .v (.string x)=>lU r (I x) F K
  | _=>False)
 | (t,.slice) ::r,I,F,K=>(match F t with
  | .v (.slice A n c)=>lU r (I A n c) F K
  | _=>False)
 | (t,.ptr) ::r,I,F,K=>(match F t with
  | .v (.pointer p)=>lU r (I p) F K
  | _=>False)
 | (t,.map) ::r,I,F,K=>(match F t with
  | .v (.map p)=>lU r (I p) F K
  | _=>False)
 | (t,.any) ::r,I,F,K=>(match F t with
  | .v x=>lU r (I x) F K
  | _=>False)
 | (t,.addr) ::r,I,F,K=>(match F t with
  | .v (.pointer (some a))=>lU r (I a) F K
  | _=>False)
 | (_,.cst _) ::_,_,_,_=>False
def lH{X:Type}:(J:List (Nat×Sh))->TF J X->Fr->(X->Fr->Prop)->Prop
 | [],I,F,K=>K I F
 | (t,.int k) ::r,I,F,K=>∀ x:Int,lH r (I x) (upd F t (.v (.int k x))) K
 | (t,.bool) ::r,I,F,K=>∀ c:Bool,lH r (I c) (upd F t (.b c)) K
 | (t,.str) ::r,I,F,K=>∀ x:ByteArray,lH r (I x) (upd F t (.v (.string x))) K
 | (t,.slice) ::r,I,F,K=>∀(A:OA)(n c:Nat),lH r (I A n c) (upd F t (.v (.slice A n c))) K
 | (t,.ptr) ::r,I,F,K=>∀ p:OA,lH r (I p) (upd F t (.v (.pointer p))) K
 | (t,.map) ::r,I,F,K=>∀ p:Option Nat,lH r (I p) (upd F t (.v (.map p))) K
 | (t,.any) ::r,I,F,K=>∀ x:Value,lH r (I x) (upd F t (.v x)) K
 | (t,.addr) ::r,I,F,K=>∀ a:Addr,lH r (I a) (upd F t (.v (.pointer (some a)))) K
 | (_,.cst _) ::r,I,F,K=>lH r I F K
def hav(F:Fr)(W:List Nat):Fr:=fun t=>bif W.contains t then .un else F t
def aX:Code->List Nat->Bool
 | .region _ ops _,W=>ops.toList.all fun o=>match o.dst with
  | some d=>W.contains d
  | none=>true
 | .seq a b,W=>aX a W && aX b W
 | .cond _ a b,W=>aX a W && aX b W
 | .block _ a,W=>aX a W
 | .loop a,W=>aX a W
 | .skip,_ | .exit _,_ | .ret,_=>true
 | _,_=>false
def normalTo(e:Exit)(A B:Prop):Prop :=
 match e with
 | .normal=>A
 | _=>B
def XC (cx:Cx):Sk->Code->(Exit->Fr->World->Prop)->Fr->World->Prop
  | .reg ra,.region _ ops draw,Q,F,w=>BL cx ra ops.toList draw F w fun F w=>Q .normal F w
  | .regX ra t,.region _ ops draw,Q,F,w=>zB cx ra t ops.toList draw F w fun F w=>Q .normal F w
  | .seq x y,.seq c d,Q,F,w=>XC cx x c (fun e F w=>match e with
    | .normal=>XC cx y d Q F w
    | e=>Q e F w) F w
  | .cond x y,.cond c t e,Q,F,w=>(match ev F c with
    | .v (.bool true)=>XC cx x t Q F w
    | .v (.bool false)=>XC cx y e Q F w
    | .b b=>(b=true->XC cx x t Q F w)/\(b=false->XC cx y e Q F w)
    | .p q _=>(q->XC cx x t Q F w)/\(¬ q->XC cx y e Q F w)
    | _=>False)
  | .join J W x,c,Q,F,w=>bif aX c W then
      ∃ I : TF J (World->Prop),
        XC cx x c (fun e F' w'=>match e with
            | .normal=>lU J I F' fun I=>I w'
            | e=>Q e F' w') F w ∧
        lH J I (hav F W) fun I F'=>∀ w',I w'->Q .normal F' w'
    else False
  | .block x,.block id c,Q,F,w=>XC cx x c (fun e F w=>match e with
    | .exit i=>bif Nat.beq i id then Q .normal F w else Q (.exit i) F w
    | e=>Q e F w) F w
  | .loop J W x,.loop c,Q,F,w=>bif aX c W then
      ∃ I :Nat->TF J (World->Prop),(∃ m,lU J (I m) F fun I=>I w) ∧
        ∀ m,lH J (I m) (hav F W) fun Im F'=>∀ w',Im w'->XC cx x c (fun e F w=>match e with
          | .normal=>∃ m',m'<m/\lU J (I m') F fun I=>I w
          | e=>Q e F w) F' w'
    else False
  | .leaf,.skip,Q,F,w=>Q .normal F w
  | .leaf,.exit i,Q,F,w=>Q (.exit i) F w
  | .leaf,.ret,Q,F,w=>Q .ret F w
  | _,_,_,_,_=>False
section
variable {cx : Cx} {F : Fr} {a : Act} {w : World}
def dD(c:Code)(a a':Act):Prop:=∀(W:List Nat)(t:Nat),aX c W=true->W.contains t=false->a'.tmps.getD t undef=a.tmps.getD t undef
theorem dD.refl(c:Code)(a:Act):dD c a a:=fun _ _ _ _=>rfl
theorem dD.trans{c:Code}{a a' a'':Act}(h:dD c a a')(k:dD c a' a''):dD c a a'':=fun W t h1 h2=>(k W t h1 h2).trans (h W t h1 h2)
theorem yD{a:Act}{d:Option Tmp}{v:Value}{t:Nat}(h:d≠some t):(a.put d v).tmps.getD t undef=a.tmps.getD t undef:=by
 cases d with
 | none=>rfl
 | some d =>
  have Cg:d≠t:=fun e=>h (by rw[e]);simp[Act.put,Array.getElem?_setIfInBounds_ne Cg]
theorem Af{c:Code}{W:List Nat}{F':Fr}{a':Act}(hS:St cx F a)(Co:St cx F' a')(hW:aX c W=true)(h:dD c a a'):St cx (hav F W) a':=by
 refine⟨fun t=>?_,Co.size,Co.defers⟩;unfold hav;cases hc:W.contains t with
 | true=>exact trivial
 | false =>
  simp only[cond_false];rw[h W t hW hc];exact hS.ag t
theorem St.upd(hS:St cx F a){t:Nat}{s:SV}(h:dS s (a.tmps.getD t undef)):St cx (upd F t s) a:=by
 refine⟨fun u=>?_,hS.size,hS.defers⟩;unfold V.upd;cases hb:Nat.beq u t with
 | true =>
  have:u=t:=Nat.eq_of_beq_eq_true hb;subst this;exact h
 | false=>exact hS.ag u
theorem eL{X:Type}:∀ {J:List (Nat×Sh)} {I:TF J X} {F F':Fr} {K:X->Prop} {K':X->Fr->Prop},St cx F a->St cx F' a->lU J I F K->lH J I F' K'->∃(i:X)(F'':Fr),St cx F'' a/\K i/\K' i F''
 | [],I,F,F',K,K',_,h2,h3,h4=>⟨I,F',h2,h3,h4⟩
 | (t,.int k) ::r,I,F,F',K,K',h1,h2,h3,h4=>by
  have ht:=h1.ag t;simp only[lU]at h3;split at h3
  ·rename_i k' x he;rw[he]at ht;split at h3
   ·rename_i hk;subst hk;exact eL h1 (h2.upd ht) h3 (h4 x)
   ·exact h3.elim
  ·exact h3.elim
 | (t,.bool) ::r,I,F,F',K,K',h1,h2,h3,h4=>by
  have ht:=h1.ag t;simp only[lU]at h3;split at h3
  ·rename_i c he;rw[he]at ht;exact eL h1 (h2.upd (s:=.b c) ht) h3 (h4 c)
  ·rename_i c he;rw[he]at ht;exact eL h1 (h2.upd (s:=.b c) ht) h3 (h4 c)
  ·rename_i q d he;rw[he]at ht;exact eL h1 (h2.upd (s:=.b (@decide q d)) ht) h3 (h4 _)
  ·exact h3.elim
 | (t,.str) ::r,I,F,F',K,K',h1,h2,h3,h4=>by
  have ht:=h1.ag t;simp only[lU]at h3;split at h3
  ·rename_i x he;rw[he]at ht;exact eL h1 (h2.upd ht) h3 (h4 x)
  ·exact h3.elim
 | (t,.slice) ::r,I,F,F',K,K',h1,h2,h3,h4=>by
  have ht:=h1.ag t;simp only[lU]at h3;split at h3
  ·rename_i A n c he;rw[he]at ht;exact eL h1 (h2.upd ht) h3 (h4 A n c)
  ·exact h3.elim
 | (t,.ptr) ::r,I,F,F',K,K',h1,h2,h3,h4=>by
  have ht:=h1.ag t;simp only[lU]at h3;split at h3
  ·rename_i x he;rw[he]at ht;exact eL h1 (h2.upd ht) h3 (h4 x)
  ·exact h3.elim
 | (t,.map) ::r,I,F,F',K,K',h1,h2,h3,h4=>by
  have ht:=h1.ag t;simp only[lU]at h3;split at h3
  ·rename_i x he;rw[he]at ht;exact eL h1 (h2.upd ht) h3 (h4 x)
  ·exact h3.elim
 | (t,.any) ::r,I,F,F',K,K',h1,h2,h3,h4=>by
  have ht:=h1.ag t;simp only[lU]at h3;split at h3
  ·rename_i x he;rw[he]at ht;exact eL h1 (h2.upd ht) h3 (h4 x)
  ·exact h3.elim
 | (t,.addr) ::r,I,F,F',K,K',h1,h2,h3,h4=>by
  have ht:=h1.ag t;simp only[lU]at h3;split at h3
  ·rename_i x he;rw[he]at ht;exact eL h1 (h2.upd ht) h3 (h4 x)
  ·exact h3.elim
 | (_,.cst _) ::r,I,F,F',K,K',h1,h2,h3,h4=>by
  simp only[lU]at h3
theorem gU {P:Program} {ops:Array Oper} {C:World->Prop} {kd:dC} {D:Nat->Prop} {Q:Act->World->Prop} :
    ∀ (l:List (Nat×Oper)) (a:Act) (w:World),(∀ x∈l,∀ d,x.2.dst=some d->D d)->bZ P ops C kd Q l a w->bZ P ops C kd (fun a' w'=>(∀ t,¬ D t->a'.tmps.getD t undef=a.tmps.getD t undef)/\Q a' w') l a w
  | [],a,w,_,h=>⟨fun _ _=>rfl,h⟩
  | (i, o) ::l,a,w,hl,h=>by
    have ho:=hl (i,o) (by simp);have ih:=fun a w (h:bZ P ops C kd Q l a w)=>gU (D:=D) (Q:=Q) l a w (fun x hx=>hl x (by simp[hx])) h;simp only[bZ]at h ⊢;have key:∀ v a' w',a'=a.put o.dst v->bZ P ops C kd Q l a' w'->bZ P ops C kd (fun a'' w''=>(∀ t,¬ D t->a''.tmps.getD t undef=a.tmps.getD t undef)/\Q a'' w'') l a' w':=by
      rintro v a' w' rfl h;refine gD ?_ _ _ _ (ih _ _ h);rintro a'' w'' ⟨h1,h2⟩;exact⟨fun t ht=>(h1 t ht).trans (yD fun e=>ht (ho t e)),h2⟩
    unfold aR at h ⊢;split
    · rename_i hw;rw[if_pos hw]at h;split at h
      · obtain⟨v,h1,h2⟩:=h;exact⟨v,h1,key v _ _ rfl h2⟩
      · obtain⟨v,h1,h2⟩:=h;exact⟨v,h1,key v _ _ rfl h2⟩
      · refine Oper.wp_mono ?_ h;rintro a' w' ⟨⟨u,rfl⟩,h1,h2⟩;exact⟨⟨u,rfl⟩,h1,key u _ _ rfl h2⟩
    · rename_i hw;rw[if_neg hw]at h;exact key _ _ _ rfl h
def uJ(cx:Cx)(c:Code)(a:Act)(Q:Exit->Fr->World->Prop):Exit->Act->World->Prop:=fun e a' w'=>∃ F',St cx F' a'/\dD c a a'/\Q e F' w'
theorem uO (hT:mB cx.P cx.T) (Cz:Bu cx.P cx.fs) (Cy:cx.P.follows .mixedOrders=true) (hS:St cx F a) {ra:Ra} {id:Nat} {ops:List Oper} {draw:Bool} {Q:Exit->Fr->World->Prop}
    (h:BL cx ra ops draw F w fun F w=>Q .normal F w):(Code.region id ops.toArray draw).wp cx.P (uJ cx (Code.region id ops.toArray draw) a Q) a w:=by
  have mono:∀ {C:Option (World->Prop)} {w:World},lT cx ra C ops (dT 0 ops) F w (fun F w=>Q .normal F w) →
      bZ cx.P ops.toArray (dU C) (kinds cx.T ra.ql ops) (fun a' w'=>dU C w'->uJ cx (Code.region id ops.toArray draw) a Q .normal a' w') (dT 0 ops) a w:=by
    intro C w h;have h1:=kT hT Cz _ _ _ _ (tQ ops) hS h;refine gD ?_ _ _ _ (gU (D:=fun t=>∃ o∈ops,o.dst=some t) _ _ _ ?_ h1)
    · rintro a' w' ⟨hs,F',Co,hK⟩ _;refine⟨F',Co,fun W t hW ht=>hs t ?_,hK⟩;rintro⟨o,ho,hd⟩;simp only[aX,List.all_eq_true]at hW;have:=hW o (by simpa using ho);rw[hd]at this;simp only at this;rw[ht]at this;cases this
    · rintro⟨i,o⟩ hx d hd;exact⟨o,List.mem_of_getElem? (tQ ops _ hx),hd⟩
  unfold BL at h;cases draw with
  | false =>
    simp only[cond_false]at h;exact nS (C:=dU none) (kd:=kinds cx.T ra.ql ops) trivial (mono h)
  | true =>
    simp only[cond_true]at h;cases hB:yH ops (kinds cx.T ra.ql ops) ra.waits with
    | false=>rw[hB]at h;exact h.elim
    | true =>
      rw[hB]at h;simp only[cond_true]at h;split at h
      · exact iW (C:=dU none) (kd:=kinds cx.T ra.ql ops) Cy hB trivial (mono h)
      · obtain⟨C,hC,h⟩:=h;exact iW (C:=dU (some C)) (kd:=kinds cx.T ra.ql ops) Cy hB hC (mono h)
theorem rQ (hT:mB cx.P cx.T) (Cz:Bu cx.P cx.fs) (Cy:cx.P.follows .mixedOrders=true) (hS:St cx F a) {ra:Ra} {t:XT} {id:Nat} {ops:List Oper} {draw:Bool} {Q:Exit->Fr->World->Prop}
    (h:zB cx ra t ops draw F w fun F w=>Q .normal F w):(Code.region id ops.toArray draw).wp cx.P (uJ cx (Code.region id ops.toArray draw) a Q) a w:=by
  have mono:∀ {C:Option (World->Prop)} {w:World} (t:XT),vxt cx ra C ops F w (fun F w=>Q .normal F w) t →
      wpX cx.P ops (dU C) (kinds cx.T ra.ql ops) (fun a' w'=>dU C w'->uJ cx (Code.region id ops.toArray draw) a Q .normal a' w') a w t:=by
    intro C w t
    induction t with
    | leaf L =>
      intro h;have h1:=kT hT Cz _ _ _ _ (fun x hx=>(kB.1 (show(x.1,x.2)∈pick ops L from hx)).2) hS h;refine gD ?_ _ _ _ (gU (D:=fun t=>∃ o∈ops,o.dst=some t) _ _ _ ?_ h1)
      · rintro a' w' ⟨hs,F',Co,hK⟩ _;refine⟨F',Co,fun W t hW ht=>hs t ?_,hK⟩;rintro⟨o,ho,hd⟩;simp only[aX,List.all_eq_true]at hW;have:=hW o (by simpa using ho);rw[hd]at this;simp only at this;rw[ht]at this;cases this
      · rintro⟨i,o⟩ hx d hd;exact⟨o,List.mem_of_getElem? (kB.1 hx).2,hd⟩
    | split p q x y ihx ihy=>exact fun h=>⟨ihx h.1,ihy h.2⟩
    | dead L=>exact fun _=>trivial
  unfold zB at h;cases draw with
  | false=>exact h.elim
  | true =>
    simp only[cond_true]at h;cases hB:A0 ops (kinds cx.T ra.ql ops) ra.waits t with
    | false=>rw[hB]at h;exact h.elim
    | true =>
      rw[hB]at h;simp only[cond_true]at h;split at h
      · exact lI (C:=dU none) (kd:=kinds cx.T ra.ql ops) Cy hB trivial (mono t h)
      · obtain⟨C,hC,h⟩:=h;exact lI (C:=dU (some C)) (kd:=kinds cx.T ra.ql ops) Cy hB hC (mono t h)
theorem vL {P:Program} {c:Code} {Q:Exit->Act->World->Prop} (I:Nat->Act->World->Prop) {m:Nat} {a:Act} {w:World} (h₀:I m a w)
    (round:∀ m a w,I m a w->c.wp P (Exit.then (fun a' w'=>∃ m',m'<m/\I m' a' w') Q) a w):(Code.loop c).wp P Q a w:=by
  intro b k cs;have key:∀ n a w,I n a w->∃ e a' w',Q e a' w'/\Arrives P (lone (b.at a (.code c ::.inLoop c ::k)) cs w) b k cs e a' w':=by
    intro n
    induction n using Nat.strongRecOn with
    | _ n ih =>
      intro a w hI;obtain⟨e,a₁,w₁,hq,CH⟩:=round n a w hI b (.inLoop c ::k) cs;cases e with
      | normal =>
        obtain⟨m',Cc,HY⟩:=hq;obtain⟨e₂,a₂,w₂,He,Ex⟩:=ih m' Cc a₁ w₁ HY;exact⟨e₂,a₂,w₂,He,.of_steps (Steps.trans CH (.one step_inLoop)) Ex⟩
      | exit id=>exact⟨_,a₁,w₁,hq,.pass (x:=.inLoop c) rfl (fun _ _=>.inl (by simp)) CH⟩
      | goto l=>exact⟨_,a₁,w₁,hq,.pass (x:=.inLoop c) rfl (fun _ _=>.inl (by simp)) CH⟩
      | ret=>exact⟨_,a₁,w₁,hq,.pass (x:=.inLoop c) rfl (fun _ _=>.inl (by simp)) CH⟩
      | panic ch=>exact⟨_,a₁,w₁,hq,.pass (x:=.inLoop c) rfl (fun _ _=>.inl (by simp)) CH⟩
      | outgrown=>exact⟨_,a₁,w₁,hq,.pass (x:=.inLoop c) rfl (fun _ _=>.inl (by simp)) CH⟩
  obtain⟨e,a',w',hq,CH⟩:=key _ a w h₀;exact⟨e,a',w',hq,.of_steps (.one step_loop) CH⟩
theorem rY{c d:Code}{a a':Act}(h:dD c a a'):dD (.seq c d) a a':=fun W t hW ht=>h W t (by simp only[aX,Bool.and_eq_true]at hW;exact hW.1) ht
theorem yA{c d:Code}{a a':Act}(h:dD d a a'):dD (.seq c d) a a':=fun W t hW ht=>h W t (by simp only[aX,Bool.and_eq_true]at hW;exact hW.2) ht
theorem yQ{x:Operand}{c d:Code}{a a':Act}(h:dD c a a'):dD (.cond x c d) a a':=fun W t hW ht=>h W t (by simp only[aX,Bool.and_eq_true]at hW;exact hW.1) ht
theorem wH{x:Operand}{c d:Code}{a a':Act}(h:dD d a a'):dD (.cond x c d) a a':=fun W t hW ht=>h W t (by simp only[aX,Bool.and_eq_true]at hW;exact hW.2) ht
theorem yJ{c:Code}{J:List (Nat×Sh)}{W:List Nat}{I:TF J (World->Prop)}{Q:Exit->Fr->World->Prop}{F':Fr}{a':Act}{w':World}(hS:St cx F a)(hW:aX c W=true)
    (Cd:lH J I (hav F W) fun I F'=>∀ w',I w'->Q .normal F' w') (Co:St cx F' a') (hk:dD c a a') (h:lU J I F' fun I=>I w'):uJ cx c a Q .normal a' w':=by
  obtain⟨i,F'',h1,h2,h3⟩:=eL Co (Af hS Co hW hk) h Cd;exact⟨F'',h1,hk,h3 w' h2⟩
theorem Bp (hT:mB cx.P cx.T) (Cz:Bu cx.P cx.fs) (Cy:cx.P.follows .mixedOrders=true):∀(sk:Sk)(c:Code)(Q:Exit->Fr->World->Prop)(F:Fr)(a:Act)(w:World),
    St cx F a->XC cx sk c Q F w->c.wp cx.P (uJ cx c a Q) a w:=by
  intro sk
  induction sk with
  | reg ra =>
    intro c Q F a w hS h;cases c with
    | region id ops draw =>
      simp only[XC]at h;have e:ops=ops.toList.toArray:=by simp
      rw[e];exact uO hT Cz Cy hS h
    | _=>simp only[XC]at h
  | regX ra t =>
    intro c Q F a w hS h;cases c with
    | region id ops draw =>
      simp only[XC]at h;have e:ops=ops.toList.toArray:=by simp
      rw[e];exact rQ hT Cz Cy hS h
    | _=>simp only[XC]at h
  | seq x y ihx ihy =>
    intro c Q F a w hS h;cases c with
    | seq c d =>
      simp only[XC]at h;refine wp_seq (wp_mono (ihx c _ F a w hS h) ?_);intro e a' w' hp;obtain⟨F',h1,h2,h3⟩:=hp;cases e with
      | normal =>
        refine wp_mono (ihy d Q F' a' w' h1 h3) ?_;rintro e a'' w'' ⟨F'',h4,h5,h6⟩;exact⟨F'',h4,(rY h2).trans (yA h5),h6⟩
      | _=>exact⟨F',h1,rY h2,h3⟩
    | _=>simp only[XC]at h
  | cond x y ihx ihy =>
    intro c Q F a w hS h;cases c with
    | cond c t e =>
      have left:XC cx x t Q F w->t.wp cx.P (uJ cx (.cond c t e) a Q) a w:=fun h=>wp_mono (ihx t Q F a w hS h) fun e a' w' ⟨F',h1,h2,h3⟩=>⟨F',h1,yQ h2,h3⟩;have right:XC cx y e Q F w->e.wp cx.P (uJ cx (.cond c t e) a Q) a w:=fun h=>wp_mono (ihy e Q F a w hS h) fun e a' w' ⟨F',h1,h2,h3⟩=>⟨F',h1,wH h2,h3⟩;simp only[XC]at h;have hc:=hS.ag.ev c;split at h
      · rename_i hv;rw[hv]at hc;exact wp_cond_true hc (left h)
      · rename_i hv;rw[hv]at hc;exact wp_cond_false hc (right h)
      · rename_i b hv;rw[hv]at hc;cases b with
        | true=>exact wp_cond_true hc (left (h.1 rfl))
        | false=>exact wp_cond_false hc (right (h.2 rfl))
      · rename_i q d hv;rw[hv]at hc;by_cases hq:q
        · exact wp_cond_true (by rw[hc];simp[hq]) (left (h.1 hq))
        · exact wp_cond_false (by rw[hc];simp[hq]) (right (h.2 hq))
      · exact h.elim
    | _=>simp only[XC]at h
  | join J W x ih =>
    intro c Q F a w hS h;have h:XC cx (.join J W x) c Q F w:=h;simp only[XC]at h;cases hb:aX c W with
    | false=>rw[hb]at h;exact h.elim
    | true =>
      rw[hb]at h;obtain⟨I,h,Cd⟩:=h;refine wp_mono (ih c _ F a w hS h) ?_;rintro ex a' w' ⟨F',h1,h2,h3⟩;cases ex with
      | normal=>exact yJ hS hb Cd h1 h2 h3
      | _=>exact⟨F',h1,h2,h3⟩
  | block x ih =>
    intro c Q F a w hS h;cases c with
    | block id c =>
      simp only[XC]at h;refine wp_block (wp_mono (ih c _ F a w hS h) ?_);rintro e a' w' ⟨F',h1,h2,h3⟩;cases e with
      | exit i =>
        simp only at h3;cases hb:Nat.beq i id with
        | true =>
          rw[hb]at h3;have:=Nat.eq_of_beq_eq_true hb;simp only[Exit.inBlock,this,if_true];exact⟨F',h1,h2,h3⟩
        | false =>
          rw[hb]at h3;have:i≠id:=fun e=>by subst e;simp at hb
          simp only[Exit.inBlock,this,if_false];exact⟨F',h1,h2,h3⟩
      | _=>exact⟨F',h1,h2,h3⟩
    | _=>simp only[XC]at h
  | loop J W x ih =>
    intro c Q F a w hS h;cases c with
    | loop c =>
      simp only[XC]at h;cases hb:aX c W with
      | false=>rw[hb]at h;exact h.elim
      | true =>
        rw[hb]at h;obtain⟨I,⟨m,h0⟩,Cd⟩:=h;refine vL (fun m a' w'=>∃ F',St cx F' a'/\dD c a a'/\lU J (I m) F' fun I=>I w') (m:=m) ⟨F,hS,dD.refl _ _,h0⟩ ?_;rintro m a' w' ⟨F',h1,h2,h3⟩;obtain⟨i,F'',h4,h5,h6⟩:=eL h1 (Af hS h1 hb h2) h3 (Cd m);refine wp_mono (ih c _ F'' a' w' h4 (h6 w' h5)) ?_;rintro e a'' w'' ⟨G,h7,h8,h9⟩;cases e with
        | normal =>
          obtain⟨m',Cc,h9⟩:=h9;exact⟨m',Cc,G,h7,h2.trans h8,h9⟩
        | _=>exact⟨G,h7,h2.trans h8,h9⟩
    | _=>simp only[XC]at h
  | leaf =>
    intro c Q F a w hS h;cases c with
    | skip=>exact wp_skip ⟨F,hS,dD.refl _ _,h⟩
    | exit i=>exact wp_exit ⟨F,hS,dD.refl _ _,h⟩
    | ret=>exact wp_ret ⟨F,hS,dD.refl _ _,h⟩
    | _=>simp only[XC]at h
end
/-! ### Functions -/
def rO(T:nP)(F:Fr)(w:World):List ResultVar->(List Value->Prop)->Prop
 | [],K=>K []
 | .tmp t ::r,K=>vv F (.tmp t) fun v=>rO T F w r fun vs=>K (v ::vs)
 | .cell t ty ::r,K=>uR F (.tmp t) fun a=>(match tf T ty with
  | some te=>bif te.ld.agg then(bif Nat.beq te.shs.length te.size then qQ (fun φ=>φ w) a 0 te.shs fun cs=>rO T F w r fun vs=>K (.agg cs.toArray ::vs) else False)
   else wC (te.shs.headD .any) fun _ v=>w.cell? a=some v/\rO T F w r fun vs=>K (v ::vs)
  | none=>False)
def wX(vs:List Value):Value :=
 match vs with
 | [v]=>v
 | vs=>.tuple vs.toArray
def F0(args:List Value):Fr:=fun t=>match args[t]? with
 | some v=>mk v
 | none=>.un
def XF(cx:Cx)(fn:Func)(sk:Sk)(args:List Value)(w:World)(R:Ending->World->Prop):Prop :=
 match fn.body with
 | some c=>bif Nat.beq fn.ntmps cx.n && Nat.ble args.length cx.n then XC cx sk c (fun e F w=>match e with
  | .normal | .ret=>rO cx.T F w fn.results.toList fun vs=>R (.returned (wX vs)) w
  | _=>False) (F0 args) w else False
 | none=>False
def mR(tmps:Array Value):ResultVar->Sem Value
 | .tmp t=>pure (tmps.getD t undef)
 | .cell a t=>do loadVar t (← asAddr (tmps.getD a undef))
theorem vC(fn:Func)(tmps:Array Value):results fn tmps=(do let vs ← fn.results.mapM (mR tmps);pure (if h:vs.size=1 then vs[0] else .tuple vs)):=by
 unfold results;congr 2
theorem kS {cx:Cx} (hT:mB cx.P cx.T) {F:Fr} {a:Act} {w:World} (hS:St cx F a):∀ {rs:List ResultVar} {K:List Value->Prop},rO cx.T F w rs K →
    ∃ vs,(rs.mapM (mR a.tmps)).run cx.P w=.ok vs w/\K vs
  | [],K,h=>⟨[],by simp,h⟩
  | .tmp t ::r,K,h=>by
    have h:=aI hS.ag (x:=.tmp t) h;obtain⟨vs,h1,h2⟩:=kS hT hS h;refine⟨_,?_,h2⟩;simp only[List.mapM_cons,mR,Sem.run_bind,Sem.run_pure,Result.andThen_ok,h1];rfl
  | .cell t ty ::r,K,h=>by
    simp only[rO]at h;obtain⟨ad,hx,h⟩:=fO hS.ag h;have hx:a.tmps.getD t undef=.pointer (some ad):=hx;split at h
    · rename_i te Cf;have hl:∃ v,(loadVar ty ad).run cx.P w=.ok v w/\rO cx.T F w r fun vs=>K (v ::vs):=by
        cases hb:te.ld.agg with
        | true =>
          rw[hb]at h;simp only[cond_true]at h;cases hl:Nat.beq te.shs.length te.size with
          | false=>rw[hl]at h;exact h.elim
          | true =>
            rw[hl]at h;simp only[cond_true]at h;obtain⟨vs,Ch,hD,hK⟩:=iF (D:=fun φ=>φ w) (fun _ _ h k=>⟨h,k⟩) (fun _ _ h k=>h w k) (fun _ h=>h w) h;refine⟨_,?_,hK⟩;have hs:te.size=vs.length:=by rw[Ch];exact(Nat.eq_of_beq_eq_true hl).symm
            simp only[loadVar,Sem.run_bind,(hT.get Cf).isAgg w,Result.andThen_ok,hb,if_true,(hT.get Cf).sizeOf w,loadCells,hs];rw[dR vs 0 #[] hD];simp
        | false =>
          rw[hb]at h;simp only[cond_false]at h;obtain⟨s,v,h1,h2,h3⟩:=gB h;refine⟨v,?_,h3⟩;simp[loadVar,(hT.get Cf).isAgg w,hb,load,Sem.run,h2]
      obtain⟨v,hv,h⟩:=hl;obtain⟨vs,h1,h2⟩:=kS hT hS h;refine⟨_,?_,h2⟩;simp only[List.mapM_cons,mR,Sem.run_bind,hx,asAddr,Sem.run_pure,Result.andThen_ok,hv,h1]
    · exact h.elim
theorem mA {cx:Cx} {f:FuncId} {fn:Func} {sk:Sk} {args:List Value} {w:World} {R:Ending->World->Prop} (hT:mB cx.P cx.T) (Cz:Bu cx.P cx.fs) (Cy:cx.P.follows .mixedOrders=true)
    (hf:cx.P.funcs[f]?=some fn) (h:XF cx fn sk args w R):Calls cx.P f args.toArray w R:=by
  unfold XF at h;split at h
  · rename_i c hc;cases hb:Nat.beq fn.ntmps cx.n && Nat.ble args.length cx.n with
    | false=>rw[hb]at h;exact h.elim
    | true =>
      rw[hb]at h;simp only[cond_true]at h;simp only[Bool.and_eq_true]at hb;have hn:fn.ntmps=cx.n:=Nat.eq_of_beq_eq_true hb.1;have hl:args.length<=cx.n:=Nat.le_of_ble_eq_true hb.2;refine calls_of_wp hf hc ?_;have hS:St cx (F0 args) { tmps:=args.toArray++Array.replicate (fn.ntmps-args.toArray.size) undef,defers:=[] }:=by
        refine⟨fun t=>?_,by simp;omega,rfl⟩;unfold F0;split
        · rename_i v hv;have Cc:=(List.getElem?_eq_some_iff.1 hv).1;have:(args.toArray++Array.replicate (fn.ntmps-args.toArray.size) undef).getD t undef=v:=by
            rw[Array.getD_eq_getD_getElem?,Array.getElem?_append_left (by simpa using Cc)];simp[hv]
          rw[this];exact dS.mk v
        · exact trivial
      refine wp_mono (Bp hT Cz Cy sk c _ _ _ w hS h) ?_;rintro e a' w' ⟨F',h1,_,h2⟩;have fin:(rO cx.T F' w' fn.results.toList fun vs=>R (.returned (wX vs)) w')->a'.defers=[]/\∃ v,(results fn a'.tmps).run cx.P w'=.ok v w'/\R (.returned v) w':=by
        intro h2;obtain⟨vs,h3,h4⟩:=kS hT h1 h2;refine⟨h1.defers,wX vs,?_,h4⟩;rw[vC,Sem.run_bind];have:(fn.results.mapM (mR a'.tmps)).run cx.P w'=.ok vs.toArray w':=by
          rw[Array.mapM_eq_mapM_toList,Sem.run_map,h3];rfl
        rw[this];simp only[Result.andThen_ok,Sem.run_pure]
        match vs with
        | []=>rfl
        | [v]=>rfl
        | _ ::_ ::_=>simp[wX]
      cases e with
      | normal=>exact fin h2
      | ret=>exact fin h2
      | _=>exact h2.elim
  · exact h.elim
theorem fOkM {P : Program} {fs : List Nat} (h : (fs.all fun g => match P.funcs[g]? with | some fn => !(fn.name == "runtime.NumGoroutine") && !fn.body.isNone | none => false) = true) : Bu P fs := by
 intro g hg args w;have h1:=List.all_eq_true.1 h g hg;cases hf:P.funcs[g]? with
 | none=>simp[hf]at h1
 | some fn =>
  simp only[hf,Bool.and_eq_true,Bool.not_eq_true']at h1;have e1 : ¬ fn.name = "runtime.NumGoroutine" := by simpa using h1.1
  have e2:¬ fn.body=none:=by intro e;rw[e]at h1;simp at h1
  simp[callFunc,program,Sem.run,hf,e1,e2]
theorem tOkM{P:Program}{T:nP}(h:T.map (fun e=>((P.info? e.1).map (fun i=>(i.size,i.bytes,i.zero)),(P.underlying e.1).map nD))=T.map (fun e=>(some (e.2.size,e.2.bytes,some e.2.zero),some e.2.ld))):mB P T:=fun e he=>by
 have:=List.map_inj_left.1 h e he;exact⟨congrArg Prod.fst this,congrArg Prod.snd this⟩
end Go.V
