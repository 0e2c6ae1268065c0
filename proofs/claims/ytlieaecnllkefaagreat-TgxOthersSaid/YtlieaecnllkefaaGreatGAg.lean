/- Own texts, packed: V1, VX, V2, V3, V4, V5, V6, V7, V8. -/
import Derived.WalkKit
import Derived.Still
import Derived.Laws.World
import Derived.Laws.NewBlocks
import Derived.Laws.Rows
import Derived.Deep.LoopGhost
/-! The own library V, part 1: a region that draws its order is walked in the order of the text, whatever its operations are: operations that leave the world alone commute with all others, operations that act are kept in one order. -/
namespace Go.V
abbrev OA:=Option Addr
abbrev fi:=Nat->Nat
def eg(P:Program)(o:Oper)(a:Act)(w:World)(v:Value):Prop :=
 (execOp a.eval o).run P w=.ok (.value v) w∨((execOp a.eval o).run P w=.ok .skip w/\v=undef)
theorem eg.unique{P:Program}{o:Oper}{a:Act}{w:World}{v u:Value}(h:eg P o a w v)(k:eg P o a w u):v=u:=by
 rcases h with h | ⟨h,rfl⟩ <;>rcases k with k | ⟨k,rfl⟩ <;>rw[h]at k <;>simp at k <;>first | exact k | rfl
def x0:Exit->Act->World->Prop:=fun _ _ _=>False
def cu(P:Program)(ops:Array Oper)(C:World->Prop)(kd:Nat)(o:Oper)(K:Act->World->Prop)(a:Act)(w:World):Prop :=
 if Region.wanted o (yielded ops a.tmps) then
  match kd with
  | 0=>∃ v,(∀ w',C w'->eg P o a w' v)/\K (a.put o.dst v) w
  | 1=>∃ v,eg P o a w v/\K (a.put o.dst v) w
  | _=>o.wp P a w (fun a' w'=>(∃ u,a'=a.put o.dst u)/\C w'/\K a' w') x0
 else K (a.put o.dst undef) w
def eh(P:Program)(ops:Array Oper)(C:World->Prop)(kd:fi)(Q:Act->World->Prop):List (Nat×Oper)->Act->World->Prop
 | [],a,w=>Q a w
 | (i,o) ::rest,a,w=>cu P ops C (kd i) o (eh P ops C kd Q rest) a w
section
variable {P : Program} {ops : Array Oper} {C : World → Prop} {K K' : Act → World → Prop} {a : Act} {w : World}
theorem uD{k:Nat}{o:Oper}(h:∀ a w,K a w->K' a w)(hh:cu P ops C k o K a w):cu P ops C k o K' a w:=by
 unfold cu at *;split
 ·rename_i hw;simp only[hw,if_true]at hh;split at hh
  ·obtain⟨v,h1,h2⟩:=hh;exact⟨v,h1,h _ _ h2⟩
  ·obtain⟨v,h1,h2⟩:=hh;exact⟨v,h1,h _ _ h2⟩
  ·exact Oper.wp_mono (fun a w ⟨h1,h2,h3⟩=>⟨h1,h2,h _ _ h3⟩) hh
 ·rename_i hw;simp only[hw]at hh;exact h _ _ hh
theorem sP{k:Nat}{o:Oper}(hC:C w)(h:∀ a w,C w->K a w->K' a w)(hh:cu P ops C k o K a w):cu P ops C k o K' a w:=by
 unfold cu at *;split
 ·rename_i hw;simp only[hw,if_true]at hh;split at hh
  ·obtain⟨v,h1,h2⟩:=hh;exact⟨v,h1,h _ _ hC h2⟩
  ·obtain⟨v,h1,h2⟩:=hh;exact⟨v,h1,h _ _ hC h2⟩
  ·exact Oper.wp_mono (fun a w ⟨h1,h2,h3⟩=>⟨h1,h2,h _ _ h2 h3⟩) hh
 ·rename_i hw;simp only[hw]at hh;exact h _ _ hC hh
theorem j6{kd:fi}{Q Q':Act->World->Prop}(hQ:∀ a w,Q a w->Q' a w):∀ (l:List (Nat×Oper)) (a:Act) (w:World),eh P ops C kd Q l a w->eh P ops C kd Q' l a w
 | [],_,_,h=>hQ _ _ h
 | (_,_) ::l,_,_,h=>uD (fun a w=>j6 hQ l a w) h
theorem yJ{f:FuncId}{args:Array Value}{R:Ending->World->Prop}(h:Calls P f args w R):∃ e w',R e w':=by
 obtain⟨e,w',_,h,_⟩:=h [];exact⟨e,w',h⟩
theorem Cg{o:Oper}(h:o.wp P a w K x0):∃ a' w',K a' w':=by
 unfold Oper.wp at h;generalize (execOp a.eval o).run P w=r at *;cases r with
 | ok n w' =>
  cases n <;>simp only[Oper.upon]at h
  case value v=>exact⟨_,_,h⟩
  case skip=>exact⟨_,_,h⟩
  case defer d=>exact⟨_,_,h⟩
  case enter f args =>
   obtain⟨e,w'',h⟩:=yJ h;cases e with
   | returned v=>exact⟨_,_,h⟩
   | panicked c=>exact h.elim
   | outgrown=>obtain⟨_,_,h⟩:=h;exact h.elim
  case row s args =>
   obtain⟨v,w'',h,_⟩:=h default [];exact⟨_,_,h⟩
 | halt x w'=>cases x <;>simp only[Oper.upon]at h;exact h.elim
theorem Dh{o:Oper}{d:Option Tmp}{v:Value}(hs:∀ cs b,o.op≠.select cs b)(h1:∀ t,d=some t->t ∉ o.looksAt ops)(h2:∀ t,d=some t->o.dst≠some t)
    (h:o.wp P (a.put d v) w (fun a' w'=>(∃ u,a'=(a.put d v).put o.dst u)/\K a' w') x0) :
    o.wp P a w (fun a' w'=>(∃ u,a'=a.put o.dst u)/\K (a'.put d v) w') x0:=by
  unfold Oper.wp at *;rw[execOp_put (ops:=ops) o hs a d v h1]at h;generalize (execOp a.eval o).run P w=r at *;have key:∀ u w',(∃ u',(a.put d v).put o.dst u=(a.put d v).put o.dst u')/\K ((a.put d v).put o.dst u) w'->(∃ u',a.put o.dst u=a.put o.dst u')/\K ((a.put o.dst u).put d v) w':=by
    rintro u w' ⟨_,hk⟩;rw[Act.put_comm a v u h2]at hk;exact⟨⟨u,rfl⟩,hk⟩
  cases r with
  | ok n w' =>
    cases n <;>simp only[Oper.upon]at h ⊢
    case value u=>exact key _ _ h
    case skip=>exact key _ _ h
    case defer dd =>
      obtain⟨⟨u,hu⟩,hk⟩:=h;exfalso;have:dd ::(a.put d v).defers=((a.put d v).put o.dst u).defers:=by rw[← hu];cases o.dst <;>rfl
      have e:((a.put d v).put o.dst u).defers=(a.put d v).defers:=by cases o.dst <;>rfl
      rw[e]at this;exact absurd this (by simp)
    case enter f args =>
      refine h.mono ?_;intro e w'' he;cases e with
      | returned u=>exact key _ _ he
      | panicked c=>exact he
      | outgrown=>exact he
    case row s args=>exact h.mono fun u w'' he=>key _ _ he
  | halt x w'=>cases x <;>simp only[Oper.upon]at h ⊢;exact h
theorem eg.of_put{o:Oper}{d:Option Tmp}{v u:Value}{w:World}(hs:∀ cs b,o.op≠.select cs b)(h1:∀ t,d=some t->t ∉ o.looksAt ops):eg P o (a.put d v) w u↔eg P o a w u:=by
 unfold eg;rw[execOp_put (ops:=ops) o hs a d v h1]
def lP(x y:Nat):Bool:=x ==0 || y ==0 || (x ==1 && y ==1)
theorem fv{k:Nat}{o:Oper}(hk:k=0∨k=1)(h:cu P ops C k o K a w):
    ∃ v,((Region.wanted o (yielded ops a.tmps)=true/\(if k=0 then ∀ w',C w'->eg P o a w' v else eg P o a w v))∨(Region.wanted o (yielded ops a.tmps)=false/\v=undef))/\K (a.put o.dst v) w:=by
  unfold cu at h;by_cases hw:Region.wanted o (yielded ops a.tmps)=true
  · simp only[hw,if_true]at h;rcases hk with rfl | rfl
    · obtain⟨v,h1,h2⟩:=h;exact⟨v,.inl ⟨hw,by simpa using h1⟩,h2⟩
    · obtain⟨v,h1,h2⟩:=h;exact⟨v,.inl ⟨hw,by simpa using h1⟩,h2⟩
  · simp only[hw]at h;exact⟨undef,.inr ⟨by simpa using hw,rfl⟩,h⟩
theorem dH{k:Nat}{o:Oper}(hk:k=0∨k=1){v:Value}
    (h:(Region.wanted o (yielded ops a.tmps)=true/\(if k=0 then ∀ w',C w'->eg P o a w' v else eg P o a w v))∨(Region.wanted o (yielded ops a.tmps)=false/\v=undef)) (hK:K (a.put o.dst v) w) :
    cu P ops C k o K a w:=by
  unfold cu;rcases h with⟨hw,h⟩ | ⟨hw,rfl⟩
  · simp only[hw,if_true];rcases hk with rfl | rfl
    · exact⟨v,by simpa using h,hK⟩
    · exact⟨v,by simpa using h,hK⟩
  · simp only[hw];exact hK
theorem jm{k:Nat}{o:Oper}(hk:¬ (k=0∨k=1)):cu P ops C k o K a w =
    (if Region.wanted o (yielded ops a.tmps) then o.wp P a w (fun a' w'=>(∃ u,a'=a.put o.dst u)/\C w'/\K a' w') x0 else K (a.put o.dst undef) w):=by
  unfold cu;split
  · split
    · omega
    · omega
    · rfl
  · rfl
theorem Co {i j:Nat} {oi oj:Oper} (hC:C w) (RZ:oi.apart ops oj=true) (hc:lP i j=true)
    (LZ:∀ cs b,oi.op≠.select cs b) (H0:∀ cs b,oj.op≠.select cs b)
    (h:cu P ops C i oi (cu P ops C j oj K) a w):cu P ops C j oj (cu P ops C i oi K) a w:=by
  obtain⟨h1,h2,h3⟩:=Oper.apart_spec RZ;have h4:∀ d,oj.dst=some d->oi.dst≠some d:=fun d hd he=>h2 d he hd;have wi:∀ v,Region.wanted oi (yielded ops (a.put oj.dst v).tmps)=Region.wanted oi (yielded ops a.tmps):=fun v=>wanted_put oi a oj.dst v h3;have wj:∀ v,Region.wanted oj (yielded ops (a.put oi.dst v).tmps)=Region.wanted oj (yielded ops a.tmps):=fun v=>wanted_put oj a oi.dst v h1;by_cases qi:i=0∨i=1
  · obtain⟨v,hv,hn⟩:=fv qi h;clear h;by_cases qj:j=0∨j=1
    · obtain⟨u,hu,hn⟩:=fv qj hn;refine dH (v:=u) qj ?_ (dH (v:=v) qi ?_ ?_)
      · simp only[wj,eg.of_put (ops:=ops) H0 h1]at hu;exact hu
      · simp only[wi,eg.of_put (ops:=ops) LZ h3];exact hv
      · rw[Act.put_comm a u v h4];exact hn
    · -- i quiet, j acts: then i is of kind 0
      have Rx:i=0:=by
        simp only[lP,Bool.or_eq_true,Bool.and_eq_true,beq_iff_eq]at hc;omega
      subst Rx;rw[jm qj]at hn ⊢;rw[wj]at hn;by_cases hw:Region.wanted oj (yielded ops a.tmps)=true
      · rw[if_pos hw]at hn ⊢;have h':=Dh (ops:=ops) (K:=fun a' w'=>C w'/\K a' w') H0 h1 h2 hn;refine Oper.wp_mono ?_ h';rintro a' w' ⟨⟨u,rfl⟩,LG,hK⟩;refine⟨⟨u,rfl⟩,LG,dH (.inl rfl) (v:=v) ?_ hK⟩;simp only[wi,eg.of_put (ops:=ops) LZ h3];simpa using hv
      · rw[if_neg hw]at hn ⊢;refine dH (.inl rfl) (v:=v) ?_ ?_
        · simp only[wi,eg.of_put (ops:=ops) LZ h3];exact hv
        · rw[Act.put_comm a undef v h4];exact hn
  · -- i acts: j is of kind 0
    have Rr:j=0:=by
      simp only[lP,Bool.or_eq_true,Bool.and_eq_true,beq_iff_eq]at hc;omega
    subst Rr;rw[jm qi]at h;by_cases hw:Region.wanted oi (yielded ops a.tmps)=true
    · rw[if_pos hw]at h;have hx:=h;clear h;obtain⟨a',w',⟨u,rfl⟩,LG,hq⟩:=Cg hx;obtain⟨v,hv,_⟩:=fv (.inl rfl) hq;simp only[wj,eg.of_put (ops:=ops) H0 h1,if_true]at hv;refine dH (.inl rfl) (v:=v) (by simpa using hv) ?_;rw[jm qi,wi,if_pos hw];unfold Oper.wp at hx ⊢;rw[execOp_put (ops:=ops) oi LZ a oj.dst v h3]
      have key:∀(u:Value)(w'':World),((∃ u',a.put oi.dst u=a.put oi.dst u')/\C w''/\cu P ops C 0 oj K (a.put oi.dst u) w'') →
          (∃ u',(a.put oj.dst v).put oi.dst u=(a.put oj.dst v).put oi.dst u')/\C w''/\K ((a.put oj.dst v).put oi.dst u) w'':=by
        rintro u w'' ⟨_,Sx,hq⟩;obtain⟨v',LU,D8⟩:=fv (.inl rfl) hq;simp only[wj,eg.of_put (ops:=ops) H0 h1,if_true]at LU;have Qp:v'=v:=by
          rcases hv with⟨ha,hv⟩ | ⟨ha,rfl⟩ <;>rcases LU with⟨hb,LU⟩ | ⟨hb,rfl⟩
          · exact(LU w hC).unique (hv w hC)
          · rw[ha]at hb;cases hb
          · rw[ha]at hb;cases hb
          · rfl
        subst Qp;exact⟨⟨u,rfl⟩,Sx,by rw[Act.put_comm a _ _ h4];exact D8⟩
      generalize (execOp a.eval oi).run P w=r at *;cases r with
      | ok n w' =>
        cases n <;>simp only[Oper.upon]at hx ⊢
        case value u=>exact key _ _ hx
        case skip=>exact key _ _ hx
        case defer dd =>
          obtain⟨⟨u,hu⟩,_⟩:=hx;exfalso;have:dd ::a.defers=(a.put oi.dst u).defers:=by rw[← hu];cases oi.dst <;>rfl
          have e:(a.put oi.dst u).defers=a.defers:=by cases oi.dst <;>rfl
          rw[e]at this;exact absurd this (by simp)
        case enter f args =>
          refine hx.mono ?_;intro e w'' he;cases e with
          | returned u=>exact key _ _ he
          | panicked c=>exact he
          | outgrown=>obtain⟨_,_,he⟩:=he;exact he.elim
        case row s args=>exact hx.mono fun u w'' he=>key _ _ he
      | halt x w'=>cases x <;>simp only[Oper.upon]at hx ⊢;exact hx
    · rw[if_neg hw]at h;obtain⟨v,hv,hK⟩:=fv (.inl rfl) h;simp only[wj,eg.of_put (ops:=ops) H0 h1]at hv;refine dH (.inl rfl) hv ?_;rw[jm qi,wi,if_neg hw];rw[Act.put_comm a _ _ h4];exact hK
theorem uI{kd:fi}{Q:Act->World->Prop}{j:Nat}{oj:Oper}{B:List (Nat×Oper)}(H0:∀ cs b,oj.op≠.select cs b):
    ∀ (A:List (Nat×Oper)),(∀ x∈A,x.2.apart ops oj=true/\lP (kd x.1) (kd j)=true/\∀ cs b,x.2.op≠.select cs b) →
    ∀(a:Act)(w:World),C w->eh P ops C kd Q (A++(j,oj) ::B) a w->cu P ops C (kd j) oj (eh P ops C kd Q (A++B)) a w
  | [],_,_,_,_,h=>h
  | (i,oi) ::A,hA,a,w,hC,h=>by
    have h0:=hA (i,oi) (by simp);refine Co hC h0.1 h0.2.1 h0.2.2 H0 ?_;have:∀ a w,C w->eh P ops C kd Q (A++(j,oj) ::B) a w->cu P ops C (kd j) oj (eh P ops C kd Q (A++B)) a w :=
      fun a w hC h=>uI H0 A (fun x hx=>hA x (by simp[hx])) a w hC h
    simp only[List.cons_append,eh]at h;exact sP hC this h
theorem xC{o:Oper}{Q:Exit->Act->World->Prop}(h:o.wp P a w K x0):o.wp P a w K Q:=by
 unfold Oper.wp at *;generalize (execOp a.eval o).run P w=r at *;cases r with
 | ok n w' =>
  cases n <;>simp only[Oper.upon]at h ⊢
  case enter f args =>
   refine h.mono ?_;intro e w'' he;cases e with
   | returned u=>exact he
   | panicked c=>exact he.elim
   | outgrown=>obtain⟨_,_,he⟩:=he;exact he.elim
  all_goals exact h
 | halt x w'=>cases x <;>simp only[Oper.upon]at h ⊢;exact h.elim
theorem iE{j:Nat}{o:Oper}{k:Nat}{Q:Exit->Act->World->Prop}(hj:ops[j]?=some o)(hC:C w)(hK:∀ a w,C w->K a w->K' a w)(h:cu P ops C k o K a w):wpOp P ops Q j K' a w:=by
 unfold wpOp;simp only[hj];unfold cu at h;split
 ·rename_i hw;simp only[hw,if_true]at h;left;split at h
  ·obtain⟨v,h1,h2⟩:=h;unfold Oper.wp;rcases h1 w hC with h3 | ⟨h3,rfl⟩ <;>rw[h3] <;>exact hK _ _ hC h2
  ·obtain⟨v,h1,h2⟩:=h;unfold Oper.wp;rcases h1 with h3 | ⟨h3,rfl⟩ <;>rw[h3] <;>exact hK _ _ hC h2
  ·exact xC (Oper.wp_mono (fun a' w' ⟨_,h1,h2⟩=>hK _ _ h1 h2) h)
 ·rename_i hw;simp only[hw]at h;exact hK _ _ hC h
def gy:Nat->List Oper->List (Nat×Oper)
 | _,[]=>[]
 | k,o ::l=>(k,o) ::gy (k+1) l
theorem eQ{i:Nat}{o:Oper}:∀ {k:Nat} {l:List Oper},(i,o)∈gy k l↔k<=i/\l[i-k]?=some o
 | k,[]=>by simp[gy]
 | k,x ::l=>by
  simp only[gy,List.mem_cons,Prod.mk.injEq,eQ (k:=k+1) (l:=l)];constructor
  ·rintro(⟨rfl,rfl⟩ | ⟨h1,h2⟩)
   ·simp
   ·refine⟨by omega,?_⟩;rw[show i-k=(i-(k+1))+1 by omega];simpa using h2
  ·rintro⟨h1,h2⟩;rcases Nat.eq_or_lt_of_le h1 with h | h
   ·subst h;left;simp at h2;exact⟨rfl,h2.symm⟩
   ·right;refine⟨by omega,?_⟩;rw[show i-k=(i-(k+1))+1 by omega]at h2;simpa using h2
theorem jq:∀(k:Nat)(l:List Oper),(gy k l).Pairwise (fun x y=>x.1<y.1)
 | _,[]=>List.Pairwise.nil
 | k,o ::l=>by
  simp only[gy];refine List.Pairwise.cons ?_ (jq (k+1) l);rintro⟨i,oi⟩ hm;have:=(eQ.1 hm).1;show k<i;omega
abbrev eT:=List (Nat×Nat×Nat)
def mP(R:eT)(j i:Nat):Bool:=R.any fun t=>t.1 ==j && t.2.1 ==i
def edgeB(o:Oper)(m:Nat):Bool:=o.after.any fun e=>Region.binds .any e && e.on ==m
def nz(ops:List Oper)(R:eT):Bool :=
 R.all fun t=>decide (t.2.2<t.1) && (match ops[t.1]? with | some o=>edgeB o t.2.2 | none=>false) && (t.2.2 ==t.2.1 || mP R t.2.2 t.2.1)
def pI(ops:Array Oper)(kd:fi)(R:eT)(x y:Nat×Oper):Bool:=(x.2.apart ops y.2 && lP (kd x.1) (kd y.1)) || mP R y.1 x.1
def B6(l:List (Nat×Oper)):Bool:=l.all fun x=>x.2.after.all fun e=>!Region.binds .any e || decide (e.on<x.1)
def uP(ops:Array Oper)(kd:fi)(R:eT):List (Nat×Oper)->Bool
 | []=>true
 | x ::l=>l.all (pI ops kd R x) && uP ops kd R l
def Af(ops:List Oper)(kd:fi)(R:eT):Bool :=
 Region.noSelect ops.toArray && B6 (gy 0 ops) && nz ops R && uP ops.toArray kd R (gy 0 ops)
theorem pH{kd:fi}{R:eT}:∀ {l:List (Nat×Oper)},uP ops kd R l=true->l.Pairwise (fun x y=>pI ops kd R x y=true)
 | [],_=>List.Pairwise.nil
 | x ::l,h=>by
  simp only[uP,Bool.and_eq_true,List.all_eq_true]at h;exact List.Pairwise.cons h.1 (pH h.2)
def Cb(ops:List Oper)(listed:Array Bool):Prop:=∀ j o,ops[j]?=some o->listed.getD j true=true->∀ e∈o.after,Region.binds .any e=true->listed.getD e.on false=true
theorem ot {l:List Oper} {R:eT} (hR:nz l R=true) {listed:Array Bool} (hd:Cb l listed) {i:Nat} (hi:listed.getD i false=false) :
    ∀(j:Nat),mP R j i=true->listed.getD j true=false/\j ∉ Region.ready .any l.toArray listed:=by
  intro j
  induction j using Nat.strongRecOn with
  | _ j ih =>
    intro hw;obtain⟨⟨j',i',m⟩,hm,he⟩:=List.any_eq_true.1 hw;simp only[Bool.and_eq_true,beq_iff_eq]at he;obtain⟨rfl,rfl⟩:=he;have h:=List.all_eq_true.1 hR _ hm;simp only[Bool.and_eq_true,decide_eq_true_eq,Bool.or_eq_true,beq_iff_eq]at h;obtain⟨⟨DF,he⟩,hc⟩:=h;cases ho:l[j']? with
    | none=>rw[ho]at he;simp at he
    | some o =>
      rw[ho]at he;obtain⟨e,Le,hb⟩:=Array.any_eq_true'.1 he;simp only[Bool.and_eq_true,beq_iff_eq]at hb;have L7:listed.getD m false=false:=by
        rcases hc with rfl | hc
        · exact hi
        · have:=(ih m DF hc).1;rcases Nat.lt_or_ge m listed.size with h' | h'
          · simp[h']at this ⊢;exact this
          · simp[Array.getElem?_eq_none h']
      constructor
      · cases hj:listed.getD j' true with
        | false=>rfl
        | true =>
          have:=hd j' o ho hj e Le hb.1;rw[hb.2,L7]at this;cases this
      · intro hr;obtain⟨_,o',FE,DN⟩:=mem_ready.1 hr;have:o'=o:=by
          have:l[j']?=some o':=by simpa using FE
          rw[ho]at this;exact(Option.some.inj this).symm
        subst this;have:=DN e Le hb.1;rw[hb.2,L7]at this;cases this
theorem uy {l :List Oper} {kd:fi} {R:eT} {Qn:Act->World->Prop} {Q:Exit->Act->World->Prop} (hB:Af l kd R=true) (hQ:∀ a w,C w->Qn a w->Q .normal a w) :
    ∀ (n:Nat) (L:List (Nat×Oper)) (listed:Array Bool) (a:Act) (w:World),L.length=n->C w->listed.size=l.length->L.Pairwise (fun x y=>x.1<y.1/\pI l.toArray kd R x y=true) →
      (∀ i o,(i,o)∈L↔(l[i]?=some o/\listed.getD i true=false))->Cb l listed->eh P l.toArray C kd Qn L a w->wpAny P .any l.toArray Q n listed a w:=by
  have PU:=hB;simp only[Af,Bool.and_eq_true]at PU;obtain⟨⟨⟨GQ,FJ⟩,Eb⟩,_⟩:=PU;have FC:=Region.noSelect_spec GQ;intro n
  induction n with
  | zero =>
    intro L listed a w hL hC hs hp hm hd h;obtain rfl:L=[]:=List.length_eq_zero_iff.1 hL;refine⟨?_,hQ _ _ hC h⟩;refine List.eq_nil_iff_forall_not_mem.2 fun j hj=>?_;obtain⟨hu,o,ho,_⟩:=mem_ready.1 hj;have:=(hm j o).2 ⟨by simpa using ho,hu⟩;cases this
  | succ n ih =>
    intro L listed a w hL hC hs hp hm hd h;constructor
    · intro hr;exfalso;cases L with
      | nil=>simp at hL
      | cons x L =>
        obtain⟨i,oi⟩:=x;have hi:=(hm i oi).1 (by simp);have:i∈Region.ready .any l.toArray listed:=by
          refine mem_ready.2 ⟨hi.2,oi,by simpa using hi.1,fun e he hb=>?_⟩;have h1:=List.all_eq_true.1 FJ (i,oi) (eQ.2 ⟨Nat.zero_le _,by simpa using hi.1⟩);have h2:=Array.all_eq_true'.1 h1 e he;simp only[hb,Bool.not_true,Bool.false_or,decide_eq_true_eq]at h2;cases hl:listed.getD e.on true with
          | true =>
            have DF:i<l.length:=(List.getElem?_eq_some_iff.1 hi.1).1;have:e.on<listed.size:=by omega
            simp[this]at hl ⊢;exact hl
          | false =>
            exfalso;have DF:i<l.length:=(List.getElem?_eq_some_iff.1 hi.1).1;have L8:=(hm e.on (l[e.on]'(by omega))).2 ⟨by simp,hl⟩;rcases List.mem_cons.1 L8 with h3 | h3
            · simp only[Prod.mk.injEq]at h3;omega
            · have:=(List.pairwise_cons.1 hp).1 _ h3;simp only at this;omega
        rw[hr]at this;cases this
    · intro j hj;obtain⟨hu,oj,GI,DN⟩:=mem_ready.1 hj;have EY:l[j]?=some oj:=by simpa using GI
      have DU:=(hm j oj).2 ⟨EY,hu⟩;obtain⟨A,B,rfl⟩:=List.append_of_mem DU;have EG:=List.pairwise_append.1 hp;have hA :∀ x∈A,x.2.apart l.toArray oj=true/\lP (kd x.1) (kd j)=true/\∀ cs b,x.2.op≠.select cs b:=by
        rintro⟨i,oi⟩ hx;have hi:=(hm i oi).1 (by simp[hx]);have h1:=(EG.2.2 (i,oi) hx (j,oj) (by simp)).2;simp only[pI,Bool.or_eq_true,Bool.and_eq_true]at h1;refine⟨?_,?_,fun cs b=>FC i oi cs b (by simpa using hi.1)⟩
        all_goals
          rcases h1 with h1 | h1
          · first | exact h1.1 | exact h1.2
          · exfalso;have Nr:listed.getD i false=false:=by
              have:=hi.2;rcases Nat.lt_or_ge i listed.size with h' | h'
              · simp[h']at this ⊢;exact this
              · simp[Array.getElem?_eq_none h']
            exact(ot Eb hd Nr j h1).2 hj
      have Fi:=uI (FC j oj · · GI) A hA a w hC h;refine iE GI hC (fun a' w' LH hK=>?_) Fi;have KT:j<listed.size:=by
        rw[hs];exact(List.getElem?_eq_some_iff.1 EY).1
      have DJ:∀ x,x∈A∨x∈B->x.1≠j:=by
        rintro x (hx | hx)
        · have:=(EG.2.2 x hx (j,oj) (by simp)).1;simp only at this;omega
        · have:=(List.pairwise_cons.1 EG.2.1).1 x hx;simp only at this;omega
      refine ih (A++B) (listed.setIfInBounds j true) a' w' (by simp at hL ⊢;omega) LH (by simpa using hs) ?_ ?_ ?_ hK
      · refine List.pairwise_append.2 ⟨EG.1,(List.pairwise_cons.1 EG.2.1).2,fun x hx y hy=>EG.2.2 x hx y (by simp[hy])⟩
      · intro i o;constructor
        · intro hx;have Eo:(i,o)∈A∨(i,o)∈B:=by simpa using hx
          have h1:=(hm i o).1 (by simp only[List.mem_append,List.mem_cons];rcases Eo with h | h <;>simp[h]);refine⟨h1.1,?_⟩;have:=DJ _ Eo;simp only at this;rw[getD_set_ne true (fun h=>this h.symm)];exact h1.2
        · rintro⟨h1,h2⟩;by_cases El:j=i
          · subst El;simp[KT]at h2
          · rw[getD_set_ne true El]at h2;have:=(hm i o).2 ⟨h1,h2⟩;simp only[List.mem_append,List.mem_cons,Prod.mk.injEq]at this ⊢;rcases this with h | ⟨h,_⟩ | h
            · exact .inl h
            · exact absurd h.symm El
            · exact .inr h
      · intro i o ho hl e he hb;by_cases El:j=i
        · subst El;have:o=oj:=Option.some.inj (ho.symm.trans EY);subst this;exact getD_set_true (DN e he hb)
        · rw[getD_set_ne true El]at hl;exact getD_set_true (hd i o ho hl e he hb)
theorem mD{id:Nat}{Q:Exit->Act->World->Prop}{l:List Oper}{kd:fi}{R:eT}(hm:P.follows .mixedOrders=true)(hB:Af l kd R=true)(hC:C w.drew)
    (h:eh P l.toArray C kd (fun a w=>C w->Q .normal a w) (gy 0 l) a w.drew):(Code.region id l.toArray true).wp P Q a w:=by
  refine wp_region_any hm ?_;have hp:=jq 0 l;have GH:(gy 0 l).Pairwise (fun x y=>pI l.toArray kd R x y=true):=by
    simp only[Af,Bool.and_eq_true]at hB;exact pH hB.2
  have DH:∀ k (l:List Oper),(gy k l).length=l.length:=by
    intro k l
    induction l generalizing k with
    | nil=>rfl
    | cons o l ih=>simp[gy,ih]
  refine uy (C:=C) (Qn:=fun a w=>C w->Q .normal a w) hB (fun a w hC h=>h hC) l.toArray.size (gy 0 l) _ a _ (by simp[DH]) hC (by simp) (hp.imp₂ (fun _ _ h1 h2=>⟨h1,h2⟩) GH) ?_ ?_ h
  · intro i o;rw[eQ];simp only[Nat.zero_le,true_and,Nat.sub_zero];constructor
    · intro h;refine⟨h,?_⟩;have:=(List.getElem?_eq_some_iff.1 h).1;simp[this]
    · exact fun h=>h.1
  · intro j o ho hl;have:=(List.getElem?_eq_some_iff.1 ho).1;simp[this]at hl
theorem qD{Q:Exit->Act->World->Prop}{l:List Oper}{kd:fi}(hQ:∀ a w,C w->K a w->Q .normal a w):
    ∀(r:List Oper)(k:Nat)(a:Act)(w:World),(∀ j,r[j]?=l[k+j]?)->k+r.length=l.length->C w->eh P l.toArray C kd K (gy k r) a w->wpOps P l.toArray Q (List.range' k r.length) a w
  | [],_,_,_,_,_,hC,h=>hQ _ _ hC h
  | o ::r,k,a,w,hl,DH,hC,h=>by
    have h0:l[k]?=some o:=by simpa using(hl 0).symm
    simp only[List.length_cons,List.range'_succ];rw[wpOps_cons];refine iE (by simpa using h0) hC (fun a' w' LH hK=>?_) h;exact qD hQ r (k+1) a' w' (fun j=>by have:=hl (j+1);simpa[Nat.add_assoc,Nat.add_comm 1 j]using this) (by simp at DH;omega) LH hK
theorem sK{id:Nat}{Q:Exit->Act->World->Prop}{l:List Oper}{kd:fi}(hC:C w)
    (h:eh P l.toArray C kd (fun a w=>C w->Q .normal a w) (gy 0 l) a w):(Code.region id l.toArray false).wp P Q a w:=by
  refine wp_region ?_;have:=qD (C:=C) (K:=fun a w=>C w->Q .normal a w) (Q:=Q) (l:=l) (kd:=kd) (fun a w hC h=>h hC) l 0 a w (by simp) (by simp) hC h;rw[List.range_eq_range'];simpa using this
end
end Go.V
/-! The own library V, part X: a region that draws its order and has operations that act and wait for no one another: one walk for each way in which these may come. -/
namespace Go.V
inductive XT where
 | leaf (L:List Nat)
 | split (p q:Nat) (x y:XT)
 | dead (L:List Nat)
def qC(S:List Nat)(j i:Nat):Prop:=∃ S1 S2,S=S1++j ::S2/\i∈S2
def factB(F:List (Nat×Nat))(R:eT)(x y:Nat):Bool :=
 F.any fun f=>f.1 ==x && (f.2 ==y || mP R y f.2)
def Bo(ops:Array Oper)(kd:fi)(R:eT)(F:List (Nat×Nat))(x y:Nat×Oper):Bool:=pI ops kd R x y || factB F R x.1 y.1
def uO(ops:Array Oper)(kd:fi)(R:eT)(F:List (Nat×Nat)):List (Nat×Oper)->Bool
 | []=>true
 | x ::l=>l.all (Bo ops kd R F x) && uO ops kd R F l
def pick(ops:List Oper)(L:List Nat):List (Nat×Oper):=L.filterMap fun i=>(ops[i]?).map fun o=>(i,o)
def uU:List Nat->Bool
 | []=>true
 | x ::l=>!l.contains x && uU l
def C9(ops:List Oper)(kd:fi)(R:eT)(F:List (Nat×Nat))(L:List Nat):Bool :=
 uU L && (List.range ops.length).all (fun i=>L.contains i) && uO ops.toArray kd R F (pick ops L)
def zg(n:Nat)(F:List (Nat×Nat))(R:eT)(x y:Nat):Bool:=decide (x≠y) && decide (x<n) && decide (y<n) && (F.contains (x,y) || mP R y x)
def y8(n:Nat)(F:List (Nat×Nat))(R:eT)(a:Nat):List Nat->Bool
 | []=>false
 | [z]=>zg n F R z a
 | y ::z ::l=>zg n F R y z && y8 n F R a (z ::l)
def qL(ops:List Oper)(kd:fi)(R:eT):XT->List (Nat×Nat)->Bool
 | .leaf L,F=>C9 ops kd R F L
 | .split p q x y,F=>decide (p≠q) && qL ops kd R x ((p,q) ::F) && qL ops kd R y ((q,p) ::F)
 | .dead L,F=>match L with
  | []=>false
  | a ::l=>y8 ops.length F R a (a ::l)
def CF(ops:List Oper)(kd:fi)(R:eT)(t:XT):Bool :=
 Region.noSelect ops.toArray && B6 (gy 0 ops) && nz ops R && qL ops kd R t []
def wpX(P:Program)(ops:List Oper)(C:World->Prop)(kd:fi)(Q:Act->World->Prop)(a:Act)(w:World):XT->Prop
 | .leaf L=>eh P ops.toArray C kd Q (pick ops L) a w
 | .split _ _ x y=>wpX P ops C kd Q a w x/\wpX P ops C kd Q a w y
 | .dead _=>True
section
variable {P : Program} {C : World → Prop} {a : Act} {w : World}
theorem pG{ops:Array Oper}{kd:fi}{R:eT}{F:List (Nat×Nat)}:∀ {l:List (Nat×Oper)},uO ops kd R F l=true->l.Pairwise (fun x y=>Bo ops kd R F x y=true)
 | [],_=>List.Pairwise.nil
 | x ::l,h=>by
  simp only[uO,Bool.and_eq_true,List.all_eq_true]at h;exact List.Pairwise.cons h.1 (pG h.2)
theorem ve(ops:Array Oper)(fuel t:Nat)(listed:Array Bool):Region.linearise.go .any ops (fuel+1) t listed [] =
    match (Region.ready .any ops listed)[t % (Region.ready .any ops listed).length]? with
    | some i=>i ::Region.linearise.go .any ops fuel (t / (Region.ready .any ops listed).length) (listed.setIfInBounds i true) []
    | none=>[]:=by
  simp only[Region.linearise.go]
  change (match (Region.ready .any ops listed)[t % (Region.ready .any ops listed).length]? with
      | some i=>Region.linearise.go .any ops fuel (t / (Region.ready .any ops listed).length) (listed.setIfInBounds i true) [i]
      | none=>[].reverse)=_
  split
  · rw[linearise_go_acc];rfl
  · rfl
theorem vd(ops:Array Oper)(t:Nat)(listed:Array Bool):Region.linearise.go .any ops 0 t listed []=[]:=by simp[Region.linearise.go]
theorem xR{l:List Oper}{listed:Array Bool}{t:Nat}(DJ:Region.ready .any l.toArray listed≠[]):∃ j,(Region.ready .any l.toArray listed)[t % (Region.ready .any l.toArray listed).length]?=some j/\j∈Region.ready .any l.toArray listed:=by
 have DZ:0<(Region.ready .any l.toArray listed).length:=List.length_pos_iff.2 DJ;have DF:=Nat.mod_lt t DZ;exact⟨_,List.getElem?_eq_getElem DF,List.getElem_mem DF⟩
theorem CL {l :List Oper} (FJ:B6 (gy 0 l)=true):∀ (n t:Nat) (L:List (Nat×Oper)) (listed:Array Bool),L.length=n->listed.size=l.length->L.Pairwise (fun x y=>x.1<y.1) →
    (∀ i o,(i,o)∈L↔(l[i]?=some o/\listed.getD i true=false))->(Region.linearise.go .any l.toArray n t listed []).Perm (L.map Prod.fst):=by
  intro n
  induction n with
  | zero =>
    intro t L listed hL hs hp hm;obtain rfl:L=[]:=List.length_eq_zero_iff.1 hL;rw[vd];exact List.Perm.refl _
  | succ n ih =>
    intro t L listed hL hs hp hm;have DJ : Region.ready .any l.toArray listed≠[]:=by
      intro hr;cases L with
      | nil=>simp at hL
      | cons x L =>
        obtain⟨i,oi⟩:=x;have hi:=(hm i oi).1 (by simp);have:i∈Region.ready .any l.toArray listed:=by
          refine mem_ready.2 ⟨hi.2,oi,by simpa using hi.1,fun e he hb=>?_⟩;have h1:=List.all_eq_true.1 FJ (i,oi) (eQ.2 ⟨Nat.zero_le _,by simpa using hi.1⟩);have h2:=Array.all_eq_true'.1 h1 e he;simp only[hb,Bool.not_true,Bool.false_or,decide_eq_true_eq]at h2;cases hl:listed.getD e.on true with
          | true =>
            have DF:i<l.length:=(List.getElem?_eq_some_iff.1 hi.1).1;have:e.on<listed.size:=by omega
            simp[this]at hl ⊢;exact hl
          | false =>
            exfalso;have DF:i<l.length:=(List.getElem?_eq_some_iff.1 hi.1).1;have L8:=(hm e.on (l[e.on]'(by omega))).2 ⟨by simp,hl⟩;rcases List.mem_cons.1 L8 with h3 | h3
            · simp only[Prod.mk.injEq]at h3;omega
            · have:=(List.pairwise_cons.1 hp).1 _ h3;simp only at this;omega
        rw[hr]at this;cases this
    obtain⟨j,Np,hj⟩:=xR (t:=t) DJ;rw[ve,Np];obtain⟨hu,oj,GI,DN⟩:=mem_ready.1 hj;have EY:l[j]?=some oj:=by simpa using GI
    have DU:=(hm j oj).2 ⟨EY,hu⟩;obtain⟨A,B,rfl⟩:=List.append_of_mem DU;have EG:=List.pairwise_append.1 hp;have KT:j<listed.size:=by
      rw[hs];exact(List.getElem?_eq_some_iff.1 EY).1
    have IS:∀ x,x∈A∨x∈B->x.1≠j:=by
      rintro x (hx | hx)
      · have:=EG.2.2 x hx (j,oj) (by simp);simp only at this;omega
      · have:=(List.pairwise_cons.1 EG.2.1).1 x hx;simp only at this;omega
    have MM :=ih (t / (Region.ready .any l.toArray listed).length) (A++B) (listed.setIfInBounds j true) (by simp at hL ⊢;omega) (by simpa using hs)
      (List.pairwise_append.2 ⟨EG.1,(List.pairwise_cons.1 EG.2.1).2,fun x hx y hy=>EG.2.2 x hx y (by simp[hy])⟩) (by
        intro i o;constructor
        · intro hx;have Eo:(i,o)∈A∨(i,o)∈B:=by simpa using hx
          have h1:=(hm i o).1 (by simp only[List.mem_append,List.mem_cons];rcases Eo with h | h <;>simp[h]);refine⟨h1.1,?_⟩;have:=IS _ Eo;simp only at this;rw[getD_set_ne true (fun h=>this h.symm)];exact h1.2
        · rintro⟨h1,h2⟩;by_cases El:j=i
          · subst El;simp[KT]at h2
          · rw[getD_set_ne true El]at h2;have:=(hm i o).2 ⟨h1,h2⟩;simp only[List.mem_append,List.mem_cons,Prod.mk.injEq]at this ⊢;rcases this with h | ⟨h,_⟩ | h
            · exact .inl h
            · exact absurd h.symm El
            · exact .inr h)
    rw[List.map_append,List.map_cons];refine(List.Perm.cons j MM).trans ?_;rw[List.map_append];exact(List.perm_middle (a:=j)).symm
theorem qC.cons{S:List Nat}{j i k:Nat}(h:qC S j i):qC (k ::S) j i:=by
 obtain⟨S1,S2,rfl,h⟩:=h;exact⟨k ::S1,S2,rfl,h⟩
theorem mixS {l :List Oper} {kd:fi} {R:eT} {Qn:Act->World->Prop} {Q:Exit->Act->World->Prop} (GQ:Region.noSelect l.toArray=true) (Eb:nz l R=true) (hQ:∀ a w,C w->Qn a w->Q .normal a w) :
    ∀ (n t:Nat) (L:List (Nat×Oper)) (listed:Array Bool) (a:Act) (w:World),L.length=n->C w->listed.size=l.length →
      (Region.linearise.go .any l.toArray n t listed []).Perm (L.map Prod.fst)->(L.map Prod.fst).Nodup →
      L.Pairwise (fun x y=>pI l.toArray kd R x y=true∨¬ qC (Region.linearise.go .any l.toArray n t listed []) y.1 x.1) →
      (∀ i o,(i,o)∈L↔(l[i]?=some o/\listed.getD i true=false))->Cb l listed->eh P l.toArray C kd Qn L a w->wpOps P l.toArray Q (Region.linearise.go .any l.toArray n t listed []) a w:=by
  have FC:=Region.noSelect_spec GQ;intro n
  induction n with
  | zero =>
    intro t L listed a w hL hC hs DT EL hp hm hd h;obtain rfl:L=[]:=List.length_eq_zero_iff.1 hL;rw[vd];exact hQ _ _ hC h
  | succ n ih =>
    intro t L listed a w hL hC hs DT EL hp hm hd h;rw[ve]at DT hp ⊢;cases hi:(Region.ready .any l.toArray listed)[t % (Region.ready .any l.toArray listed).length]? with
    | none =>
      rw[hi]at DT;have:=DT.length_eq;simp at this;omega
    | some j =>
      rw[hi]at DT hp;simp only at DT hp ⊢;have hj:j∈Region.ready .any l.toArray listed:=List.mem_of_getElem? hi;obtain⟨hu,oj,GI,DN⟩:=mem_ready.1 hj;have EY:l[j]?=some oj:=by simpa using GI
      have DU:=(hm j oj).2 ⟨EY,hu⟩;obtain⟨A,B,rfl⟩:=List.append_of_mem DU;have EG:=List.pairwise_append.1 hp;have GS:(Region.linearise.go .any l.toArray n (t / (Region.ready .any l.toArray listed).length) (listed.setIfInBounds j true) []).Perm ((A++B).map Prod.fst):=by
        have h1:(j ::Region.linearise.go .any l.toArray n (t / (Region.ready .any l.toArray listed).length) (listed.setIfInBounds j true) []).Perm (j ::(A++B).map Prod.fst):=by
          refine DT.trans ?_;rw[List.map_append,List.map_cons,List.map_append];exact List.perm_middle (a:=j)
        exact h1.cons_inv
      have KE:j ∉ (A++B).map Prod.fst/\((A++B).map Prod.fst).Nodup:=by
        have:(j ::(A++B).map Prod.fst).Nodup:=by
          refine List.Perm.nodup_iff ?_ |>.1 EL;rw[List.map_append,List.map_cons,List.map_append];exact List.perm_middle (a:=j)
        exact List.nodup_cons.1 this
      have DJ:∀ x,x∈A∨x∈B->x.1≠j:=by
        intro x hx e;exact KE.1 (List.mem_map.2 ⟨x,by simpa using hx,e⟩)
      have hA : ∀ x∈A,x.2.apart l.toArray oj=true/\lP (kd x.1) (kd j)=true/\∀ cs b,x.2.op≠.select cs b:=by
        rintro⟨i,oi⟩ hx;have GY:=(hm i oi).1 (by simp[hx]);have h1:=EG.2.2 (i,oi) hx (j,oj) (by simp);have Je :(oi.apart l.toArray oj && lP (kd i) (kd j))=true:=by
          rcases h1 with h1 | h1
          · simp only[pI,Bool.or_eq_true]at h1;rcases h1 with h1 | h1
            · exact h1
            · exfalso;have Nr:listed.getD i false=false:=by
                have:=GY.2;rcases Nat.lt_or_ge i listed.size with h' | h'
                · simp[h']at this ⊢;exact this
                · simp[Array.getElem?_eq_none h']
              exact(ot Eb hd Nr j h1).2 hj
          · exfalso;refine h1 ⟨[],_,rfl,?_⟩;refine GS.symm.subset (List.mem_map.2 ⟨(i,oi),by simp[hx],rfl⟩)
        simp only[Bool.and_eq_true]at Je;exact⟨Je.1,Je.2,fun cs b=>FC i oi cs b (by simpa using GY.1)⟩
      have Fi:=uI (FC j oj · · GI) A hA a w hC h;rw[wpOps_cons];refine iE GI hC (fun a' w' LH hK=>?_) Fi;have KT:j<listed.size:=by
        rw[hs];exact(List.getElem?_eq_some_iff.1 EY).1
      refine ih _ (A++B) (listed.setIfInBounds j true) a' w' (by simp at hL ⊢;omega) LH (by simpa using hs) GS KE.2 ?_ ?_ ?_ hK
      · have Sz:=List.pairwise_append.2 ⟨EG.1,(List.pairwise_cons.1 EG.2.1).2,fun x hx y hy=>EG.2.2 x hx y (by simp[hy])⟩;refine Sz.imp ?_;rintro x y (h1 | h1)
        · exact .inl h1
        · exact .inr fun h2=>h1 h2.cons
      · intro i o;constructor
        · intro hx;have Eo:(i,o)∈A∨(i,o)∈B:=by simpa using hx
          have h1:=(hm i o).1 (by simp only[List.mem_append,List.mem_cons];rcases Eo with h | h <;>simp[h]);refine⟨h1.1,?_⟩;have:=DJ _ Eo;simp only at this;rw[getD_set_ne true (fun h=>this h.symm)];exact h1.2
        · rintro⟨h1,h2⟩;by_cases El:j=i
          · subst El;simp[KT]at h2
          · rw[getD_set_ne true El]at h2;have:=(hm i o).2 ⟨h1,h2⟩;simp only[List.mem_append,List.mem_cons,Prod.mk.injEq]at this ⊢;rcases this with h | ⟨h,_⟩ | h
            · exact .inl h
            · exact absurd h.symm El
            · exact .inr h
      · intro i o ho hl e he hb;by_cases El:j=i
        · subst El;have:o=oj:=Option.some.inj (ho.symm.trans EY);subst this;exact getD_set_true (DN e he hb)
        · rw[getD_set_ne true El]at hl;exact getD_set_true (hd i o ho hl e he hb)
theorem zD{y:Nat}:∀ {A A' B B':List Nat},(A++y ::B).Nodup->A++y ::B=A'++y ::B'->B=B'
 | [],[],B,B',_,h=>by simpa using h
 | [],x ::A',B,B',hn,h=>by
  simp only[List.nil_append,List.cons_append,List.cons.injEq]at h;obtain⟨rfl,rfl⟩:=h;have:=(List.nodup_cons.1 hn).1;exact absurd (by simp) this
 | x ::A,[],B,B',hn,h=>by
  simp only[List.nil_append,List.cons_append,List.cons.injEq]at h;obtain⟨rfl,_⟩:=h;have:=(List.nodup_cons.1 hn).1;exact absurd (by simp) this
 | x ::A,x' ::A',B,B',hn,h=>by
  simp only[List.cons_append,List.cons.injEq]at h;exact zD (List.nodup_cons.1 hn).2 h.2
theorem qC.trans{S:List Nat}(hn:S.Nodup){m y x:Nat}(h:qC S m y)(h':qC S y x):qC S m x:=by
 obtain⟨S1,S2,rfl,h1⟩:=h;obtain⟨T1,T2,h2,h3⟩:=h';obtain⟨U1,U2,rfl⟩:=List.append_of_mem h1;have e:(S1++m ::U1)++y ::U2=T1++y ::T2:=by rw[← h2];simp
 have ER:((S1++m ::U1)++y ::U2).Nodup:=by rw[e,← h2];exact hn
 have:=zD ER e;subst this;exact⟨S1,U1++y ::U2,rfl,by simp[h3]⟩
theorem qC.irrefl{S:List Nat}(hn:S.Nodup){x:Nat}(h:qC S x x):False:=by
 obtain⟨S1,S2,rfl,h1⟩:=h;have:=(List.nodup_append.1 hn).2.1;exact(List.nodup_cons.1 this).1 h1
theorem qC.total{S:List Nat}{x y:Nat}(hx:x∈S)(hy:y∈S)(DJ:x≠y):qC S x y∨qC S y x:=by
 obtain⟨S1,S2,rfl⟩:=List.append_of_mem hx;rcases List.mem_append.1 hy with h | h
 ·obtain⟨T1,T2,rfl⟩:=List.append_of_mem h;exact .inr ⟨T1,T2++x ::S2,by simp,by simp⟩
 ·rcases List.mem_cons.1 h with h | h
  ·exact absurd h.symm DJ
  ·exact .inl ⟨S1,S2,rfl,h⟩
theorem tQ{S:List Nat}(hn:S.Nodup){n:Nat}{F:List (Nat×Nat)}{R:eT}(hl:∀ x y,zg n F R x y=true->qC S x y){a:Nat}:∀ {z:Nat} {l:List Nat},y8 n F R a (z ::l)=true->qC S z a
 | z,[],h=>hl _ _ h
 | z,y ::l,h=>by
  simp only[y8,Bool.and_eq_true]at h;exact qC.trans hn (hl _ _ h.1) (tQ hn hl h.2)
theorem wD {l :List Oper} {R:eT} (Eb:nz l R=true) {y m:Nat} (hw:mP R y m=true):∀(n t:Nat)(listed:Array Bool),listed.size=l.length->Cb l listed->listed.getD m false=false->(m<l.length) →
    y∈Region.linearise.go .any l.toArray n t listed []->qC (Region.linearise.go .any l.toArray n t listed []) m y:=by
  intro n
  induction n with
  | zero=>intro t listed _ _ _ _ h;rw[vd]at h;cases h
  | succ n ih =>
    intro t listed hs hd hm M6 h;rw[ve]at h ⊢;cases hi:(Region.ready .any l.toArray listed)[t % (Region.ready .any l.toArray listed).length]? with
    | none=>rw[hi]at h;cases h
    | some j =>
      rw[hi]at h;simp only at h ⊢;have hj:j∈Region.ready .any l.toArray listed:=List.mem_of_getElem? hi;obtain⟨hu,oj,GI,DN⟩:=mem_ready.1 hj;have EY:l[j]?=some oj:=by simpa using GI
      rcases List.mem_cons.1 h with e | h'
      · exfalso;rw[← e]at hj;exact(ot Eb hd hm y hw).2 hj
      · by_cases O8:m=j
        · subst O8;exact⟨[],_,rfl,h'⟩
        · refine(ih _ (listed.setIfInBounds j true) (by simpa using hs) ?_ ?_ M6 h').cons
          · intro i o ho hl e he hb;by_cases El:j=i
            · subst El;have:o=oj:=Option.some.inj (ho.symm.trans EY);subst this;exact getD_set_true (DN e he hb)
            · rw[getD_set_ne true El]at hl;exact getD_set_true (hd i o ho hl e he hb)
          · rw[getD_set_ne false (fun h=>O8 h.symm)];exact hm
theorem nN{l:List Oper}{L:List Nat}{i:Nat}{o:Oper}:(i,o)∈pick l L↔i∈L/\l[i]?=some o:=by
 simp only[pick,List.mem_filterMap];constructor
 ·rintro⟨j,hj,h⟩;cases ho:l[j]? with
  | none=>rw[ho]at h;cases h
  | some o' =>
   rw[ho]at h;simp only[Option.map_some,Option.some.injEq,Prod.mk.injEq]at h;obtain⟨rfl,rfl⟩:=h;exact⟨hj,ho⟩
 ·rintro⟨h1,h2⟩;exact⟨i,h1,by rw[h2];rfl⟩
theorem pK:∀ {L:List Nat},uU L=true->L.Nodup
 | [],_=>List.nodup_nil
 | x ::l,h=>by
  simp only[uU,Bool.and_eq_true,Bool.not_eq_true']at h;refine List.nodup_cons.2 ⟨?_,pK h.2⟩;intro hm;have:=h.1;rw[List.contains_iff_mem.2 hm]at this;cases this
theorem q9{l:List Oper}:∀ {L:List Nat},L.Nodup->((pick l L).map Prod.fst).Nodup
 | [],_=>List.nodup_nil
 | x ::L,h=>by
  have h':=List.nodup_cons.1 h;have ih:=q9 (l:=l) h'.2;unfold pick;simp only[List.filterMap_cons];cases ho:l[x]? with
  | none=>exact ih
  | some o =>
   simp only[Option.map_some,List.map_cons];refine List.nodup_cons.2 ⟨?_,ih⟩;intro hm;obtain⟨⟨i,o'⟩,h1,h2⟩:=List.mem_map.1 hm;simp only at h2;subst h2;exact h'.1 (nN.1 h1).1
theorem lJ:∀(k:Nat)(l:List Oper),(gy k l).length=l.length
 | k,[]=>rfl
 | k,o ::l=>by simp[gy,lJ (k+1) l]
theorem pw {id:Nat} {Q:Exit->Act->World->Prop} {l:List Oper} {kd:fi} {R:eT} {tr:XT} (hm:P.follows .mixedOrders=true) (hB:CF l kd R tr=true) (hC:C w.drew)
    (h:wpX P l C kd (fun a w=>C w->Q .normal a w) a w.drew tr):(Code.region id l.toArray true).wp P Q a w:=by
  simp only[CF,Bool.and_eq_true]at hB;obtain⟨⟨⟨GQ,FJ⟩,Eb⟩,Kb⟩:=hB;refine wp_region_draw fun t=>?_;simp only[Region.schedule,hm,Bool.true_or,if_true];have Ff:l.toArray.size=l.length:=by simp
  have Ka:∀ i o,l[i]?=some o->(Array.replicate l.length false).getD i true=false:=by
    intro i o ho;have:=(List.getElem?_eq_some_iff.1 ho).1;simp[this]
  have G2:Cb l (Array.replicate l.length false):=by
    intro j o ho hl;have:=(List.getElem?_eq_some_iff.1 ho).1;simp[this]at hl
  have DT:=CL FJ l.length t (gy 0 l) (Array.replicate l.length false) (lJ 0 l) (by simp) (jq 0 l) (by
    intro i o;rw[eQ];simp only[Nat.zero_le,true_and,Nat.sub_zero];exact⟨fun h=>⟨h,Ka i o h⟩,fun h=>h.1⟩)
  have FG:((gy 0 l).map Prod.fst).Nodup:=by
    rw[List.Nodup,List.pairwise_map];exact(jq 0 l).imp (fun h=>by omega)
  have Lw:(Region.linearise.go .any l.toArray l.length t (Array.replicate l.length false) []).Nodup:=DT.nodup_iff.2 FG;have DN:∀ i,i<l.length->i∈Region.linearise.go .any l.toArray l.length t (Array.replicate l.length false) []:=by
    intro i hi;refine DT.symm.subset (List.mem_map.2 ⟨(i,l[i]),eQ.2 ⟨Nat.zero_le _,by simp⟩,rfl⟩)
  have key:∀ (tr:XT) (F:List (Nat×Nat)),qL l kd R tr F=true->(∀ f∈F,¬ qC (Region.linearise.go .any l.toArray l.length t (Array.replicate l.length false) []) f.2 f.1) →
      wpX P l C kd (fun a w=>C w->Q .normal a w) a w.drew tr->wpOps P l.toArray Q (Region.linearise.go .any l.toArray l.length t (Array.replicate l.length false) []) a w.drew:=by
    intro tr
    induction tr with
    | leaf L =>
      intro F hT hF hX;simp only[qL,C9,Bool.and_eq_true]at hT;obtain⟨⟨hn,NI⟩,IM⟩:=hT;have EL:=q9 (l:=l) (pK hn);have DU:∀ i o,(i,o)∈pick l L↔l[i]?=some o:=by
        intro i o;rw[nN];refine⟨fun h=>h.2,fun h=>⟨?_,h⟩⟩;have hi:=(List.getElem?_eq_some_iff.1 h).1;have:=List.all_eq_true.1 NI i (List.mem_range.2 hi);exact List.contains_iff_mem.1 this
      have JC:((gy 0 l).map Prod.fst).Perm ((pick l L).map Prod.fst):=by
        refine(List.perm_ext_iff_of_nodup FG EL).2 fun i=>?_;simp only[List.mem_map];constructor
        · rintro⟨⟨i',o⟩,h1,rfl⟩;exact⟨(i',o),(DU _ _).2 (by simpa using(eQ.1 h1).2),rfl⟩
        · rintro⟨⟨i',o⟩,h1,rfl⟩;exact⟨(i',o),eQ.2 ⟨Nat.zero_le _,by simpa using(DU _ _).1 h1⟩,rfl⟩
      have DH:(pick l L).length=l.length:=by
        have:=JC.length_eq;simp only[List.length_map,lJ]at this;exact this.symm
      refine mixS (C:=C) (Qn:=fun a w=>C w->Q .normal a w) GQ Eb (fun a w hC h=>h hC) l.length t (pick l L) _ a _ DH hC (by simp) (DT.trans JC) EL ?_ ?_ G2 hX
      · refine(pG IM).imp ?_;rintro⟨x,ox⟩ ⟨y,oy⟩ h1;simp only[Bo,Bool.or_eq_true]at h1;rcases h1 with h1 | h1
        · exact .inl h1
        · right;obtain⟨⟨f1,f2⟩,hf,he⟩:=List.any_eq_true.1 h1;simp only[Bool.and_eq_true,beq_iff_eq,Bool.or_eq_true]at he;obtain⟨rfl,he⟩:=he;have L5:=hF _ hf;simp only at L5;rcases he with rfl | he
          · exact L5
          · intro hb;refine L5 (qC.trans Lw ?_ hb)
            -- y waits for f2
            obtain⟨⟨j',i',m'⟩,L8,Le⟩:=List.any_eq_true.1 he;simp only[Bool.and_eq_true,beq_iff_eq]at Le;obtain⟨rfl,rfl⟩:=Le;have OD:j'∈Region.linearise.go .any l.toArray l.length t (Array.replicate l.length false) []:=by
              obtain⟨S1,S2,e1,_⟩:=hb;rw[e1];simp
            have Ey:j'<l.length:=by
              obtain⟨⟨i2,o2⟩,h2,h3⟩:=List.mem_map.1 (DT.subset OD);have h4:=(eQ.1 h2).2;have:=(List.getElem?_eq_some_iff.1 h4).1;simp only at h3;omega
            have DF:i'<l.length:=by
              -- what is waited for comes ahead in the text
              have:∀ j,j<l.length->mP R j i'=true->i'<l.length:=by
                intro j
                induction j using Nat.strongRecOn with
                | _ j ih2 =>
                  intro hj hw;obtain⟨⟨j1,i1,m1⟩,Na,JL⟩:=List.any_eq_true.1 hw;simp only[Bool.and_eq_true,beq_iff_eq]at JL;obtain⟨rfl,rfl⟩:=JL;have h2:=List.all_eq_true.1 Eb _ Na;simp only[Bool.and_eq_true,decide_eq_true_eq,Bool.or_eq_true,beq_iff_eq]at h2;obtain⟨⟨DF,_⟩,hc⟩:=h2;rcases hc with h3 | hc
                  · omega
                  · exact ih2 m1 DF (by omega) hc
              exact this j' Ey he
            refine wD Eb he l.length t _ (by simp) G2 ?_ DF OD;simp[DF]
      · intro i o;rw[DU];exact⟨fun h=>⟨h,Ka i o h⟩,fun h=>h.1⟩
    | split p q x y ihx ihy =>
      intro F hT hF hX;simp only[qL,Bool.and_eq_true,decide_eq_true_eq]at hT;obtain⟨⟨Ko,hx⟩,hy⟩:=hT;by_cases hb:qC (Region.linearise.go .any l.toArray l.length t (Array.replicate l.length false) []) q p
      · refine ihy ((q,p) ::F) hy ?_ hX.2;intro f hf;rcases List.mem_cons.1 hf with e | e
        · subst e;exact fun h=>qC.irrefl Lw (qC.trans Lw h hb)
        · exact hF f e
      · refine ihx ((p,q) ::F) hx ?_ hX.1;intro f hf;rcases List.mem_cons.1 hf with e | e
        · subst e;exact hb
        · exact hF f e
    | dead L =>
      intro F hT hF hX;simp only[qL]at hT;cases L with
      | nil=>cases hT
      | cons z r =>
        refine(qC.irrefl Lw (tQ Lw (fun x y Gf=>?_) hT)).elim;simp only[zg,Bool.and_eq_true,decide_eq_true_eq,Bool.or_eq_true]at Gf;obtain⟨⟨⟨DJ,hx⟩,hy⟩,h1 | h1⟩:=Gf
        · exact(qC.total (DN x hx) (DN y hy) DJ).resolve_right (hF (x,y) (List.contains_iff_mem.1 h1))
        · exact wD Eb h1 l.length t _ (by simp) G2 (by simp[hx]) hx (DN y hy)
  have h1:=key tr [] Kb (by simp) h;have h2:wpOps P l.toArray Q (Region.linearise.go .any l.toArray l.toArray.size t (Array.replicate l.toArray.size false) []) a w.drew:=by rw[Ff];exact h1
  exact h2
end
end Go.V
/-! The own library V, part 2: what must hold for one operation to go through, and what then stands in its slot. -/
namespace Go.V
/-! ### Types, in short -/
inductive LD where
 | int (k:IntKind) | bool | str | ptr (e:Nat) | slice (e:Nat) | arr (n e:Nat) | map (k e:Nat) | struct (fs:List (Nat×Nat)) | tup (ts:List Nat) | other
inductive Sh where
 | int (k:IntKind) | bool | str | slice | ptr | map | any | addr | cst (x:Value)
structure TE where
 ld:LD
 size:Nat
 bytes:Nat
 zero:Value
 shs:List Sh
def rp:TypeDesc->LD
 | .int k=>.int k
 | .bool=>.bool
 | .string=>.str
 | .pointer e=>.ptr e
 | .slice e=>.slice e
 | .array n e=>.arr n e
 | .map k e=>.map k e
 | .struct fs=>.struct (fs.toList.map fun f=>(f.offset,f.type))
 | .tuple ts=>.tup ts.toList
 | _=>.other
abbrev qe:=List (Nat×TE)
def tf:qe->Nat->Option TE
 | [],_=>none
 | (i,e) ::r,t=>bif Nat.beq i t then some e else tf r t
def TyOk(P:Program)(e:Nat×TE):Prop :=
 (P.info? e.1).map (fun i=>(i.size,i.bytes,i.zero))=some (e.2.size,e.2.bytes,some e.2.zero)/\(P.underlying e.1).map rp=some e.2.ld
def og(P:Program)(T:qe):Prop:=∀ e∈T,TyOk P e
theorem Bf:∀ {T:qe} {t:Nat} {e:TE},tf T t=some e->(t,e)∈T
 | (i,x) ::r,t,e,h=>by
  unfold tf at h;cases hb:Nat.beq i t with
  | true =>
   rw[hb]at h;have:i=t:=Nat.eq_of_beq_eq_true hb;subst this;simp at h;subst h;exact List.mem_cons_self
  | false =>
   rw[hb]at h;exact List.mem_cons_of_mem _ (Bf h)
structure Ty(P:Program)(t:Nat)(e:TE):Prop where
 info:∃ i,P.info? t=some i/\i.size=e.size/\i.bytes=e.bytes/\i.zero=some e.zero
 und:∃ d,P.underlying t=some d/\rp d=e.ld
theorem og.get{P:Program}{T:qe}(h:og P T){t:Nat}{e:TE}(ht:tf T t=some e):Ty P t e:=by
 obtain⟨h1,h2⟩:=h _ (Bf ht);obtain⟨i,hi,he⟩:=Option.map_eq_some_iff.1 h1;obtain⟨d,hd,hl⟩:=Option.map_eq_some_iff.1 h2;simp only[Prod.mk.injEq]at he;exact⟨⟨i,hi,he.1,he.2.1,he.2.2⟩,d,hd,hl⟩
section
variable {P : Program} {t : Nat} {e : TE} (w : World)
theorem Ty.sizeOf(h:Ty P t e):(Go.sizeOf t).run P w=.ok e.size w:=by
 obtain⟨i,hi,h1,_⟩:=h.info;simp[Go.sizeOf,typeInfo,program,Sem.run,hi,h1]
theorem Ty.zeroValue(h:Ty P t e):(Go.zeroValue t).run P w=.ok e.zero w:=by
 obtain⟨i,hi,_,_,h1⟩:=h.info;simp[Go.zeroValue,typeInfo,program,Sem.run,hi,h1]
theorem Ty.run_und{d:TypeDesc}(hd:P.underlying t=some d):(Go.underlying t).run P w=.ok d w:=by
 simp[Go.underlying,program,Sem.run,hd]
theorem Ty.slice(h:Ty P t e){x:Nat}(hl:e.ld=.slice x):P.underlying t=some (.slice x):=by
 obtain⟨d,hd,h1⟩:=h.und;rw[hl]at h1;cases d <;>simp[rp]at h1;subst h1;exact hd
theorem Ty.ptr(h:Ty P t e){x:Nat}(hl:e.ld=.ptr x):P.underlying t=some (.pointer x):=by
 obtain⟨d,hd,h1⟩:=h.und;rw[hl]at h1;cases d <;>simp[rp]at h1;subst h1;exact hd
theorem Ty.arr(h:Ty P t e){n x:Nat}(hl:e.ld=.arr n x):P.underlying t=some (.array n x):=by
 obtain⟨d,hd,h1⟩:=h.und;rw[hl]at h1;cases d <;>simp[rp]at h1;obtain⟨rfl,rfl⟩:=h1;exact hd
theorem Ty.map(h:Ty P t e){n x:Nat}(hl:e.ld=.map n x):P.underlying t=some (.map n x):=by
 obtain⟨d,hd,h1⟩:=h.und;rw[hl]at h1;cases d <;>simp[rp]at h1;obtain⟨rfl,rfl⟩:=h1;exact hd
theorem Ty.struct(h:Ty P t e){fs:List (Nat×Nat)}(hl:e.ld=.struct fs):∃ a,P.underlying t=some (.struct a)/\a.toList.map (fun f=>(f.offset,f.type))=fs:=by
 obtain⟨d,hd,h1⟩:=h.und;rw[hl]at h1;cases d <;>simp[rp]at h1;exact⟨_,hd,h1⟩
theorem Ty.int(h:Ty P t e){k:IntKind}(hl:e.ld=.int k):P.underlying t=some (.int k):=by
 obtain⟨d,hd,h1⟩:=h.und;rw[hl]at h1;cases d <;>simp[rp]at h1;subst h1;exact hd
theorem Ty.str(h:Ty P t e)(hl:e.ld=.str):P.underlying t=some .string:=by
 obtain⟨d,hd,h1⟩:=h.und;rw[hl]at h1;cases d <;>simp[rp]at h1;exact hd
def LD.agg:LD->Bool
 | .struct _ | .arr _ _=>true
 | _=>false
theorem Ty.isAgg(h:Ty P t e):(Go.isAgg t).run P w=.ok e.ld.agg w:=by
 obtain⟨d,hd,h1⟩:=h.und;simp only[Go.isAgg,Sem.run_bind,Ty.run_und w hd,Result.andThen_ok];rw[← h1];cases d <;>simp[rp,LD.agg]
end
/-! ### Slots -/
inductive SV where
 | un
 | v (x:Value)
 | b (c:Bool)
 | p (q:Prop) (d:Decidable q)
abbrev Fr:=Nat->SV
def upd(F:Fr)(d:Nat)(s:SV):Fr:=fun t=>bif Nat.beq t d then s else F t
def gp:SV->Value->Prop
 | .un,_=>True
 | .v x,y=>y=x
 | .b c,y=>y=.bool c
 | .p q d,y=>y=.bool (@decide q d)
def Ag(F:Fr)(a:Act):Prop:=∀ t,gp (F t) (a.tmps.getD t undef)
def ev(F:Fr):Operand->SV
 | .tmp t=>F t
 | .const x=>.v x
 | .global g=>.v (.pointer (some ⟨g,0,none⟩))
 | .func f=>.v (.func (.func f) #[] #[])
theorem Ag.ev{F:Fr}{a:Act}(h:Ag F a)(x:Operand):gp (ev F x) (a.eval x):=by
 cases x with
 | tmp t=>exact h t
 | _=>rfl
theorem Ag.put{F:Fr}{a:Act}{s:SV}{v:Value}{d n:Nat}(h:Ag F a)(hn:a.tmps.size=n)(hd:d<n)(hs:gp s v):Ag (upd F d s) (a.put (some d) v):=by
 intro t;unfold upd;cases hb:Nat.beq t d with
 | true =>
  have:t=d:=Nat.eq_of_beq_eq_true hb;subst this;simp[Act.put,hn,hd,hs]
 | false =>
  have DJ:d≠t:=fun e=>by subst e;simp at hb
  have:=h t;simp only[cond_false];simpa[Act.put,Array.getElem?_setIfInBounds_ne DJ]using this
def mk:Value->SV
 | .bool c=>.b c
 | x=>.v x
theorem gp.mk(x:Value):gp (mk x) x:=by cases x <;>rfl
/-! ### Reading operands -/
def vv(F:Fr)(x:Operand)(K:Value->Prop):Prop :=
 match ev F x with
 | .un=>False
 | .v a=>K a
 | .b c=>K (.bool c)
 | .p q d=>K (.bool (@decide q d))
theorem aX{F:Fr}{a:Act}(h:Ag F a){x:Operand}{K:Value->Prop}(hk:vv F x K):K (a.eval x):=by
 have:=h.ev x;unfold vv at hk;split at hk
 ·exact hk.elim
 all_goals (rename_i he;rw[he]at this;simp only[gp]at this;rw[this];exact hk)
def xE(F:Fr):List Operand->(List Value->Prop)->Prop
 | [],K=>K []
 | x ::r,K=>vv F x fun v=>xE F r fun vs=>K (v ::vs)
theorem d8{F:Fr}{a:Act}(h:Ag F a):∀ {xs:List Operand} {K:List Value->Prop},xE F xs K->K (xs.map a.eval)
 | [],_,hk=>hk
 | x ::r,K,hk=>d8 h (xs:=r) (K:=fun vs=>K (a.eval x ::vs)) (aX h (x:=x) (K:=fun v=>xE F r fun vs=>K (v ::vs)) hk)
def DE(F:Fr):List (Nat×Operand)->(List (Nat×Value)->Prop)->Prop
 | [],K=>K []
 | (i,x) ::r,K=>vv F x fun v=>DE F r fun vs=>K ((i,v) ::vs)
theorem nB{F:Fr}{a:Act}(h:Ag F a):∀ {xs:List (Nat×Operand)} {K:List (Nat×Value)->Prop},DE F xs K->K (xs.map fun p=>(p.1,a.eval p.2))
 | [],_,hk=>hk
 | (i,x) ::r,K,hk=>nB h (xs:=r) (K:=fun vs=>K ((i,a.eval x) ::vs)) (aX h (x:=x) (K:=fun v=>DE F r fun vs=>K ((i,v) ::vs)) hk)
def ju(F:Fr)(x:Operand)(K:IntKind->Int->Prop):Prop :=
 match ev F x with
 | .v (.int k n)=>K k n
 | _=>False
theorem cM{F:Fr}{a:Act}(h:Ag F a){x:Operand}{K:IntKind->Int->Prop}(hk:ju F x K):∃ k n,a.eval x=.int k n/\K k n:=by
 have:=h.ev x;unfold ju at hk;split at hk
 ·rename_i k n he;rw[he]at this;exact⟨k,n,this,hk⟩
 ·exact hk.elim
def xI(F:Fr)(x:Operand)(K:Addr->Prop):Prop :=
 match ev F x with
 | .v (.pointer (some p))=>K p
 | _=>False
theorem jC{F:Fr}{a:Act}(h:Ag F a){x:Operand}{K:Addr->Prop}(hk:xI F x K):∃ p,a.eval x=.pointer (some p)/\K p:=by
 have:=h.ev x;unfold xI at hk;split at hk
 ·rename_i p he;rw[he]at this;exact⟨p,this,hk⟩
 ·exact hk.elim
/-! ### Whole numbers -/
def aG:IntKind->Int->Prop
 | .i8,z=>-128<=z/\z<=127
 | .i16,z=>-32768<=z/\z<=32767
 | .i32,z=>-2147483648<=z/\z<=2147483647
 | .i64,z=>-9223372036854775808<=z/\z<=9223372036854775807
 | .u8,z=>0<=z/\z<=255
 | .u16,z=>0<=z/\z<=65535
 | .u32,z=>0<=z/\z<=4294967295
 | .u64,z=>0<=z/\z<=18446744073709551615
theorem er{k:IntKind}{z:Int}(h:aG k z):k.wrap z=z:=by
 cases k <;>simp only[aG]at h <;>simp only[IntKind.wrap,IntKind.bits,IntKind.signed] <;>simp <;>omega
def dC(op:BinOp)(k:IntKind)(x y:Int):Int :=
 match op with
 | .and=>k.wrap ((BitVec.ofInt k.bits x &&& BitVec.ofInt k.bits y).toNat)
 | .or=>k.wrap ((BitVec.ofInt k.bits x ||| BitVec.ofInt k.bits y).toNat)
 | .xor=>k.wrap ((BitVec.ofInt k.bits x^^^BitVec.ofInt k.bits y).toNat)
 | _=>k.wrap ((BitVec.ofInt k.bits x &&& ~~~BitVec.ofInt k.bits y).toNat)
def Db(wr:Bool)(op:BinOp)(k:IntKind)(x y:Int)(K:SV->Prop):Prop :=
 match op with
 | .add=>bif wr then K (.v (.int k (k.wrap (x+y)))) else aG k (x+y)/\K (.v (.int k (x+y)))
 | .sub=>bif wr then K (.v (.int k (k.wrap (x-y)))) else aG k (x-y)/\K (.v (.int k (x-y)))
 | .mul=>bif wr then K (.v (.int k (k.wrap (x*y)))) else aG k (x*y)/\K (.v (.int k (x*y)))
 | .quo=>bif wr then y≠0/\K (.v (.int k (k.wrap (x.tdiv y)))) else(0<=x/\0<y/\aG k (x / y))/\K (.v (.int k (x / y)))
 | .rem=>bif wr then y≠0/\K (.v (.int k (x.tmod y))) else(0<=x/\0<y)/\K (.v (.int k (x % y)))
 | .and | .or | .xor | .andNot=>K (.v (.int k (dC op k x y)))
 | .eql=>K (.p (x=y) inferInstance)
 | .neq=>K (.p (x≠y) inferInstance)
 | .lss=>K (.p (x<y) inferInstance)
 | .leq=>K (.p (x<=y) inferInstance)
 | .gtr=>K (.p (x>y) inferInstance)
 | .geq=>K (.p (x≥y) inferInstance)
 | _=>False
def sop(wr:Bool)(op:BinOp)(k:IntKind)(x y:Int)(K:SV->Prop):Prop :=
 match op with
 | .shl=>bif wr then 0<=y/\K (.v (.int k (k.wrap (x*2^(min y.toNat k.bits))))) else(0<=y/\aG k (x*2^(min y.toNat k.bits)))/\K (.v (.int k (x*2^(min y.toNat k.bits))))
 | .shr=>0<=y/\K (.v (.int k (x / 2^(min y.toNat k.bits))))
 | _=>False
theorem wn{P:Program}{wr:Bool}{op:BinOp}{k:IntKind}{x y:Int}{t:TypeId}{K:SV->Prop}(h:Db wr op k x y K):
    ∃ s v,gp s v/\(∀ w,(binOp op t (.int k x) (.int k y)).run P w=.ok v w)/\K s:=by
  cases op <;>simp only[Db]at h
  case add=>cases wr with
    | true=>exact⟨.v _,_,(rfl:_=_),fun w=>by simp[binOp,Op.intArith],h⟩
    | false=>exact⟨.v _,_,(rfl:_=_),fun w=>by simp[binOp,Op.intArith,er h.1],h.2⟩
  case sub=>cases wr with
    | true=>exact⟨.v _,_,(rfl:_=_),fun w=>by simp[binOp,Op.intArith],h⟩
    | false=>exact⟨.v _,_,(rfl:_=_),fun w=>by simp[binOp,Op.intArith,er h.1],h.2⟩
  case mul=>cases wr with
    | true=>exact⟨.v _,_,(rfl:_=_),fun w=>by simp[binOp,Op.intArith],h⟩
    | false=>exact⟨.v _,_,(rfl:_=_),fun w=>by simp[binOp,Op.intArith,er h.1],h.2⟩
  case quo=>cases wr with
    | true=>exact⟨.v _,_,(rfl:_=_),fun w=>by simp[binOp,Op.intDiv,h.1],h.2⟩
    | false =>
      simp only[cond_false]at h;obtain⟨⟨h1,h2,h3⟩,h4⟩:=h;refine⟨.v _,_,(rfl:_=_),fun w=>?_,h4⟩;simp[binOp,Op.intDiv,show y≠0 by omega,Int.tdiv_eq_ediv_of_nonneg h1,er h3]
  case rem=>cases wr with
    | true=>exact⟨.v _,_,(rfl:_=_),fun w=>by simp[binOp,Op.intDiv,h.1],h.2⟩
    | false =>
      simp only[cond_false]at h;obtain⟨⟨h1,h2⟩,h4⟩:=h;refine⟨.v _,_,(rfl:_=_),fun w=>?_,h4⟩;simp[binOp,Op.intDiv,show y≠0 by omega,Int.tmod_eq_emod_of_nonneg h1]
  case and=>exact⟨.v _,_,(rfl:_=_),fun w=>by simp[binOp,Op.intBits,dC],h⟩
  case or=>exact⟨.v _,_,(rfl:_=_),fun w=>by simp[binOp,Op.intBits,dC],h⟩
  case xor=>exact⟨.v _,_,(rfl:_=_),fun w=>by simp[binOp,Op.intBits,dC],h⟩
  case andNot=>exact⟨.v _,_,(rfl:_=_),fun w=>by simp[binOp,Op.intBits,dC],h⟩
  case eql=>exact⟨.p _ _,_,(rfl:_=_),fun w=>by simp[binOp,Op.intCmp];rfl,h⟩
  case neq=>exact⟨.p _ _,_,(rfl:_=_),fun w=>by simp[binOp,Op.intCmp,bne];rfl,h⟩
  case lss=>exact⟨.p _ _,_,(rfl:_=_),fun w=>by simp[binOp,Op.intCmp],h⟩
  case leq=>exact⟨.p _ _,_,(rfl:_=_),fun w=>by simp[binOp,Op.intCmp],h⟩
  case gtr=>exact⟨.p _ _,_,(rfl:_=_),fun w=>by simp[binOp,Op.intCmp],h⟩
  case geq=>exact⟨.p _ _,_,(rfl:_=_),fun w=>by simp[binOp,Op.intCmp],h⟩
theorem Bi{P:Program}{wr:Bool}{op:BinOp}{k yk:IntKind}{x y:Int}{t:TypeId}{K:SV->Prop}(h:sop wr op k x y K):
    ∃ s v,gp s v/\(∀ w,(binOp op t (.int k x) (.int yk y)).run P w=.ok v w)/\K s:=by
  cases op <;>simp only[sop]at h
  case shl=>cases wr with
    | true =>
      simp only[cond_true]at h;exact⟨.v _,_,(rfl:_=_),fun w=>by simp[binOp,Op.shift,show ¬ y<0 by omega],h.2⟩
    | false =>
      simp only[cond_false]at h;exact⟨.v _,_,(rfl:_=_),fun w=>by simp[binOp,Op.shift,show ¬ y<0 by omega,er h.1.2],h.2⟩
  case shr =>
    refine⟨.v _,_,(rfl:_=_),fun w=>?_,h.2⟩;have:(0:Int)<=2^(min y.toNat k.bits):=Int.pow_nonneg (by omega);simp[binOp,Op.shift,show ¬ y<0 by omega,Int.fdiv_eq_ediv_of_nonneg _ this]
end Go.V
/-! The own library V, part 3: operations that compute: what must hold for them, and what they yield. -/
namespace Go.V
/-! ### Something of a type -/
def yy(s:Sh)(K:SV->Value->Prop):Prop :=
 match s with
 | .int k=>∃ x:Int,K (.v (.int k x)) (.int k x)
 | .bool=>∃ c:Bool,K (.b c) (.bool c)
 | .str=>∃ x:ByteArray,K (.v (.string x)) (.string x)
 | .slice=>∃(A:OA)(n c:Nat),K (.v (.slice A n c)) (.slice A n c)
 | .ptr=>∃ a:OA,K (.v (.pointer a)) (.pointer a)
 | .map=>∃ r:Option Nat,K (.v (.map r)) (.map r)
 | .any=>∃ x:Value,K (.v x) x
 | .addr=>∃ a:Addr,K (.v (.pointer (some a))) (.pointer (some a))
 | .cst x=>K (.v x) x
def Du:List Sh->(List Value->Prop)->Prop
 | [],K=>K []
 | s ::r,K=>yy s fun _ v=>Du r fun vs=>K (v ::vs)
def zr(te:TE)(K:SV->Value->Prop):Prop :=
 match te.ld with
 | .struct _ | .arr _ _=>Du te.shs fun cs=>K (.v (.agg cs.toArray)) (.agg cs.toArray)
 | _=>yy (te.shs.headD .any) K
def wG(T:qe):List Nat->(List Value->Prop)->Prop
 | [],K=>K []
 | t ::r,K=>match tf T t with
  | some te=>zr te fun _ v=>wG T r fun vs=>K (v ::vs)
  | none=>False
def zq(T:qe)(t:Nat)(K:SV->Value->Prop):Prop :=
 match tf T t with
 | some te=>(match te.ld with
  | .tup ts=>wG T ts fun vs=>K (.v (.tuple vs.toArray)) (.tuple vs.toArray)
  | _=>zr te K)
 | none=>False
theorem jV{s:Sh}{K:SV->Value->Prop}(h:yy s K):∃ x v,gp x v/\K x v:=by
 cases s <;>simp only[yy]at h
 case slice=>obtain⟨A,n,c,h⟩:=h;exact⟨.v _,_,(rfl:_=_),h⟩
 case bool=>obtain⟨c,h⟩:=h;exact⟨.b _,_,(rfl:_=_),h⟩
 case cst x=>exact⟨.v _,_,(rfl:_=_),h⟩
 all_goals (obtain⟨x,h⟩:=h;exact⟨.v _,_,(rfl:_=_),h⟩)
theorem ph:∀ {s:List Sh} {K:List Value->Prop},Du s K->∃ vs,K vs
 | [],_,h=>⟨[],h⟩
 | s ::r,K,h=>by
  obtain⟨_,v,_,h⟩:=jV h;obtain⟨vs,h⟩:=ph h;exact⟨v ::vs,h⟩
theorem sb{te:TE}{K:SV->Value->Prop}(h:zr te K):∃ x v,gp x v/\K x v:=by
 unfold zr at h;split at h
 ·obtain⟨vs,h⟩:=ph h;exact⟨.v _,_,(rfl:_=_),h⟩
 ·obtain⟨vs,h⟩:=ph h;exact⟨.v _,_,(rfl:_=_),h⟩
 ·exact jV h
theorem nl{T:qe}:∀ {s:List Nat} {K:List Value->Prop},wG T s K->∃ vs,K vs
 | [],_,h=>⟨[],h⟩
 | s ::r,K,h=>by
  unfold wG at h;split at h
  ·obtain⟨_,v,_,h⟩:=sb h;obtain⟨vs,h⟩:=nl h;exact⟨v ::vs,h⟩
  ·exact h.elim
theorem gj{T:qe}{t:Nat}{K:SV->Value->Prop}(h:zq T t K):∃ x v,gp x v/\K x v:=by
 unfold zq at h;split at h
 ·split at h
  ·obtain⟨vs,h⟩:=nl h;exact⟨.v _,_,(rfl:_=_),h⟩
  ·exact sb h
 ·exact h.elim
/-! ### Small words -/
def bN(A:OA)(c l sz:Nat):OA:=if c=l then A else A.map (·.add (l*sz))
def mx(x y:Int):Int:=if y>x then y else x
def mn(x y:Int):Int:=if y<x then y else x
def bt(s:ByteArray)(i:Nat):Int:=((s.data.toList.getD i 0).toNat:Int)
def mxs(k:IntKind):Int->List Value->(Int->Prop)->Prop
 | x,[],K=>K x
 | x,.int _ y ::r,K=>mxs k (mx x y) r K
 | _,_,_=>False
def mns(k:IntKind):Int->List Value->(Int->Prop)->Prop
 | x,[],K=>K x
 | x,.int _ y ::r,K=>mns k (mn x y) r K
 | _,_,_=>False
def uL(i:Int):Nat->List Value->(SV->Prop)->Prop
 | _,[],_=>True
 | j,c ::r,K=>(i=(j:Int)->K (mk c))/\uL i (j+1) r K
def uM(sz:Nat)(cs:List Value)(i:Int):Nat->Nat->(SV->Prop)->Prop
 | _,0,_=>True
 | j,c+1,K=>(i=(j:Int)->K (.v (.agg ((cs.drop (j*sz)).take sz).toArray)))/\uM sz cs i (j+1) c K
def vI(T:qe):List (Nat×Nat)->(List (Nat×Nat)->Prop)->Prop
 | [],K=>K []
 | (o,t) ::r,K=>match tf T t with
  | some te=>vI T r fun l=>K ((o,te.size) ::l)
  | none=>False
def vu(a:Addr)(i sz:Nat):Addr:=bif Nat.beq sz 1 then a.add i else a.add (i*sz)
theorem uu(a:Addr)(i sz:Nat):vu a i sz=a.add (i*sz):=by
 unfold vu;cases h:Nat.beq sz 1 with
 | true =>
  have:sz=1:=Nat.eq_of_beq_eq_true h;simp[this]
 | false=>rfl
def semP(ρ:Operand->Value)(o:Oper):Option (Sem Value) :=
 match o.op with
 | .binOp op t x y _=>some (do eqGuard op t x y (ρ x) (ρ y);Go.binOp op t (ρ x) (ρ y))
 | .unOp op _ x=>some (Op.unary op (ρ x))
 | .convert src dst x=>some (Go.convert src dst (ρ x))
 | .makeInterface t x=>some (Instr.makeInterface t (ρ x))
 | .typeAssert x t u ok=>some (Instr.typeAssert (ρ x) t u ok)
 | .makeMap t r=>some (Instr.makeMap t (r.map ρ))
 | .makeSlice t l c=>some (Instr.makeSlice t (ρ l) (ρ c))
 | .slice t x lo hi mx=>some (Instr.sliceAt t (ρ x) (lo.map ρ) (hi.map ρ) (mx.map ρ))
 | .index t x i=>some (Instr.index t (ρ x) (ρ i))
 | .lookup t x i ok=>some (Instr.lookup t (ρ x) (ρ i) ok)
 | .mapEntry t m k=>some (Instr.mapEntry t (ρ m) (ρ k))
 | .range t x=>some (Instr.range t (ρ x))
 | .next it s=>some (Instr.next (ρ it) s o.type)
 | .entry it=>some (Instr.entry (ρ it))
 | .call { callee:=.builtin .append,args,argTypes }=>some (Builtin.append_ argTypes o.type (args.map ρ))
 | .call { callee:=.builtin .copy,args,argTypes }=>some (Builtin.copy_ argTypes o.type (args.map ρ))
 | .call { callee:=.builtin .delete,args,argTypes }=>some (Builtin.delete_ argTypes o.type (args.map ρ))
 | .call { callee:=.builtin .clear,args,argTypes }=>some (Builtin.clear_ argTypes o.type (args.map ρ))
 | .call { callee:=.builtin .len,args,argTypes }=>some (Builtin.len_ argTypes o.type (args.map ρ))
 | _=>none
theorem zX{P:Program}{ρ:Operand->Value}{o:Oper}{s:Sem Value}(h:semP ρ o=some s)(w:World):(execOp ρ o).run P w=(s.run P w).andThen fun v w'=>.ok (.value v) w':=by
 obtain⟨d,op,t,pos,after,g⟩:=o;have e:∀ x:Sem Value,(do pure (Next.value (← x)):Sem Next).run P w=(x.run P w).andThen fun v w'=>.ok (.value v) w':=fun x=>by simp
 have r:∀(b:Builtin)(args:Array Operand)(ts:Array TypeId),(execOp ρ ⟨d,.call ⟨.builtin b,args,ts⟩,t,pos,after,g⟩).run P w=(builtin b ts t (args.map fun | .const _=>true | _=>false) (args.map ρ)).run P w:=fun b args ts=>by
  simp only[execOp,resolve];rfl
 unfold semP at h;split at h
 case h_15 ho=>simp only at ho;cases ho;cases h;rw[r];exact e _
 case h_16 ho=>simp only at ho;cases ho;cases h;rw[r];exact e _
 case h_17 ho=>simp only at ho;cases ho;cases h;rw[r];exact e _
 case h_18 ho=>simp only at ho;cases ho;cases h;rw[r];exact e _
 case h_19 ho=>simp only at ho;cases ho;cases h;rw[r];exact e _
 case h_20=>cases h
 all_goals (rename_i ho;simp only at ho;cases ho;cases h;simp only[execOp];exact e _)
/-! ### Operations that compute -/
def cG(P:Program)(T:qe)(wr:Bool)(o:Oper)(F:Fr)(K:SV->Prop):Prop :=
 match o.op with
 | .move x | .assign x=>K (ev F x)
 | .pick c a b=>(match ev F c with
  | .v (.bool true)=>K (ev F a)
  | .v (.bool false)=>K (ev F b)
  | _=>False)
 | .nilCheck x=>(match ev F x with
  | .v (.pointer p)=>∃ a,p=some a/\K (.v (.pointer (some a)))
  | .v (.func (.func g) f c)=>K (.v (.func (.func g) f c))
  | _=>False)
 | .binOp op t x y _=>(match op with
  | .shl | .shr=>ju F x fun k a=>ju F y fun _ b=>sop wr op k a b K
  | .eql | .neq=>(match ev F x,ev F y with
   | .v (.int k a),.v (.int k' b)=>if k=k' then Db wr op k a b K else False
   | .v (.pointer p),.v (.pointer none)=>(match tf T t with
    | some ⟨.ptr _,_,_,_,_⟩=>(match op with
     | .eql=>K (.p (p=none) inferInstance)
     | _=>K (.p (p≠none) inferInstance))
    | _=>False)
   | .v (.slice A _ _),.v (.slice none _ _)=>(match tf T t with
    | some ⟨.slice _,_,_,_,_⟩=>(match op with
     | .eql=>K (.p (A=none) inferInstance)
     | _=>K (.p (A≠none) inferInstance))
    | _=>False)
   | .v (.map r),.v (.map none)=>(match tf T t with
    | some ⟨.map _ _,_,_,_,_⟩=>(match op with
     | .eql=>K (.p (r=none) inferInstance)
     | _=>K (.p (r≠none) inferInstance))
    | _=>False)
   | _,_=>vv F x fun a=>vv F y fun b=>zq T o.type fun s v=>(∀ w,(do eqGuard op t x y a b;Go.binOp op t a b:Sem Value).run P w=.ok v w)/\K s)
  | _=>(match ev F x,ev F y with
   | .v (.int k a),.v (.int k' b)=>if k=k' then Db wr op k a b K else False
   | _,_=>vv F x fun a=>vv F y fun b=>zq T o.type fun s v=>(∀ w,(Go.binOp op t a b:Sem Value).run P w=.ok v w)/\K s))
 | .unOp op _ x=>(match op,ev F x with
  | .not,.v (.bool true)=>K (.v (.bool false))
  | .not,.v (.bool false)=>K (.v (.bool true))
  | .not,.b c=>K (.p (c=false) inferInstance)
  | .not,.p q d=>K (.p (¬ q) (@instDecidableNot q d))
  | .neg,.v (.int k a)=>Db wr .sub k 0 a K
  | .xor,.v (.int k a)=>K (.v (.int k (dC .xor k (if k.signed then -1 else k.max) a)))
  | _,_=>False)
 | .fieldAddr s x f=>(match tf T s with
  | some ⟨.struct fs,_,_,_,_⟩=>(match fs[f]? with
   | some (off,ty)=>(match tf T ty with
    | some te=>bif Nat.beq te.size 0 then False else xI F x fun a=>K (.v (.pointer (some (a.add off))))
    | none=>False)
   | none=>False)
  | _=>False)
 | .field s x f=>(match tf T s with
  | some ⟨.struct fs,_,_,_,_⟩=>(match fs[f]? with
   | some (off,ty)=>(match tf T ty with
    | some te=>vv F x fun v=>(match v with
     | .agg cs=>bif te.ld.agg then K (.v (.agg (cs.extract off (off+te.size)))) else(match cs[off]? with
      | some c=>K (mk c)
      | none=>False)
     | _=>False)
    | none=>False)
   | none=>False)
  | _=>False)
 | .indexAddr t x ix=>ju F ix fun _ i=>(match tf T t with
  | some ⟨.slice e,_,_,_,_⟩=>(match tf T e with
   | some te=>(match ev F x with
    | .v (.slice A n _)=>∃ a,A=some a/\0<=i/\i<(n:Int)/\K (.v (.pointer (some (vu a i.toNat te.size))))
    | _=>False)
   | none=>False)
  | some ⟨.arr n e,_,_,_,_⟩=>(match tf T e with
   | some te=>xI F x fun a=>(0<=i/\i<(n:Int))/\K (.v (.pointer (some (vu a i.toNat te.size))))
   | none=>False)
  | _=>False)
 | .index t x ix=>ju F ix fun _ i=>(match tf T t with
  | some ⟨.arr n e,_,_,_,_⟩=>(match tf T e with
   | some te=>vv F x fun v=>(match v with
    | .agg cs=>bif te.ld.agg then(0<=i/\i<(n:Int))/\uM te.size cs.toList i 0 n K else bif Nat.beq te.size 1 then bif Nat.beq cs.size n then(0<=i/\i<(n:Int))/\uL i 0 cs.toList K else False else False
    | _=>False)
   | none=>False)
  | some ⟨.str,_,_,_,_⟩=>vv F x fun v=>(match v with
   | .string s=>(0<=i/\i<(s.size:Int))/\K (.v (.int .u8 (bt s i.toNat)))
   | _=>False)
  | _=>False)
 | .slice t x lo hi none=>(match tf T t with
  | some ⟨.slice e,_,_,_,_⟩=>(match tf T e with
   | some te=>(match ev F x with
    | .v (.slice A n c)=>(match lo,hi with
     | none,none=>K (.v (.slice A n c))
     | none,some h=>ju F h fun _ h=>(0<=h/\h<=(c:Int))/\K (.v (.slice A h.toNat c))
     | some l,none=>ju F l fun _ l=>(0<=l/\l<=(n:Int))/\K (.v (.slice (bN A c l.toNat te.size) (n-l.toNat) (c-l.toNat)))
     | some l,some h=>ju F l fun _ l=>ju F h fun _ h=>(0<=h/\h<=(c:Int)/\0<=l/\l<=h)/\K (.v (.slice (bN A c l.toNat te.size) (h.toNat-l.toNat) (c-l.toNat))))
    | _=>False)
   | none=>False)
  | some ⟨.str,_,_,_,_⟩=>(match ev F x with
   | .v (.string s)=>(match lo,hi with
    | none,none=>K (.v (.string (s.extract 0 s.size)))
    | none,some h=>ju F h fun _ h=>(0<=h/\h<=(s.size:Int))/\K (.v (.string (s.extract 0 h.toNat)))
    | some l,none=>ju F l fun _ l=>(0<=l/\l<=(s.size:Int))/\K (.v (.string (s.extract l.toNat s.size)))
    | some l,some h=>ju F l fun _ l=>ju F h fun _ h=>(0<=h/\h<=(s.size:Int)/\0<=l/\l<=h)/\K (.v (.string (s.extract l.toNat h.toNat))))
   | _=>False)
  | _=>False)
 | .slice t x (some l) (some h) (some mo)=>(match tf T t with
  | some ⟨.slice e,_,_,_,_⟩=>(match tf T e with
   | some te=>(match ev F x with
    | .v (.slice A _ c)=>ju F l fun _ l=>ju F h fun _ h=>ju F mo fun _ m=>(0<=m/\m<=(c:Int)/\0<=h/\h<=m/\0<=l/\l<=h)/\K (.v (.slice (bN A m.toNat l.toNat te.size) (h.toNat-l.toNat) (m.toNat-l.toNat)))
    | _=>False)
   | none=>False)
  | _=>False)
 | .build t parts=>(match tf T t with
  | some ⟨.struct fs,_,_,z,_⟩=>vI T fs fun ps=>DE F parts.toList fun vs=>(match Instr.fill (ps[·]?) z.cells vs with
   | some cells=>K (.v (.agg cells))
   | none=>False)
  | some ⟨.arr _ e,_,_,z,_⟩=>(match tf T e with
   | some te=>DE F parts.toList fun vs=>(match Instr.fill (fun i=>some (i*te.size,te.size)) z.cells vs with
    | some cells=>K (.v (.agg cells))
    | none=>False)
   | none=>False)
  | _=>False)
 | .makeFunc fn first captured=>xE F first.toList fun f=>xE F captured.toList fun c=>K (.v (.func fn f.toArray c.toArray))
 | .extract x i=>(match ev F x with
  | .v (.tuple vs)=>(match vs[i]? with
   | some v=>K (mk v)
   | none=>False)
  | _=>False)
 | .convert src dst x=>(match tf T src,tf T dst,ev F x with
  | some ⟨.int _,_,_,_,_⟩,some ⟨.int k,_,_,_,_⟩,.v (.int _ n)=>bif wr then K (.v (.int k (k.wrap n))) else aG k n/\K (.v (.int k n))
  | some ⟨.str,_,_,_,_⟩,some ⟨.str,_,_,_,_⟩,.v (.string s)=>K (.v (.string s))
  | _,_,_=>False)
 | .makeInterface t x=>vv F x fun a=>zq T o.type fun s v=>(∀ w,(Instr.makeInterface t a).run P w=.ok v w)/\K s
 | .call { callee:=.builtin .len,args,argTypes }=>(match args[0]?,argTypes[0]? with
  | some x,some t=>(match tf T t with
   | some ⟨.slice _,_,_,_,_⟩=>(match ev F x with
    | .v (.slice _ n _)=>K (.v (.int .i64 (n:Int)))
    | _=>False)
   | some ⟨.str,_,_,_,_⟩=>(match ev F x with
    | .v (.string s)=>K (.v (.int .i64 (s.size:Int)))
    | _=>False)
   | some ⟨.arr n _,_,_,_,_⟩=>K (.v (.int .i64 (n:Int)))
   | _=>False)
  | _,_=>False)
 | .call { callee:=.builtin .max,args,.. }=>(match args.toList with
  | x ::r=>ju F x fun k x=>xE F r fun vs=>mxs k x vs fun z=>K (.v (.int k z))
  | _=>False)
 | .call { callee:=.builtin .min,args,.. }=>(match args.toList with
  | x ::r=>ju F x fun k x=>xE F r fun vs=>mns k x vs fun z=>K (.v (.int k z))
  | _=>False)
 | _=>False
end Go.V
/-! The own library V, part 4: operations that compute yield what part 3 says. -/
namespace Go.V
variable {P : Program} {T : qe} {F : Fr} {a : Act} {wr : Bool} {K : SV → Prop} {dst : Option Tmp} {ty : TypeId} {pos : String} {after : Array Edge} {guard : Option (Nat × Bool)}
def eV(P:Program)(o:Oper)(a:Act)(K:SV->Prop):Prop:=∃ s v,gp s v/\(∀ w,(execOp a.eval o).run P w=.ok (.value v) w)/\K s
theorem eV.of{o:Oper}{S:Sem Value}(ho:∀ w,(execOp a.eval o).run P w=(S.run P w).andThen fun v w'=>.ok (.value v) w')(h:∃ s v,gp s v/\(∀ w,S.run P w=.ok v w)/\K s):eV P o a K:=by
 obtain⟨s,v,h1,h2,h3⟩:=h;exact⟨s,v,h1,fun w=>by rw[ho,h2];rfl,h3⟩
theorem bI{ρ:Operand->Value}{o:Oper}{S:Sem Value}(h:execOp ρ o=(do pure (Next.value (← S))))(w:World):(execOp ρ o).run P w=(S.run P w).andThen fun v w'=>.ok (.value v) w':=by
 rw[h];simp
theorem wJ(d:Nat){t e:TypeId}(h:P.underlying t=some (.pointer e))(p:OA)(w:World):(Op.equalIn (d+1) t (.pointer p) (.pointer none)).run P w=.ok p.isNone w:=by
 cases p <;>simp[Op.equalIn,Ty.run_und w h]
theorem sg(d:Nat){t e:TypeId}(h:P.underlying t=some (.slice e))(A:OA)(n c n' c':Nat)(w:World):(Op.equalIn (d+1) t (.slice A n c) (.slice none n' c')).run P w=.ok A.isNone w:=by
 cases A <;>simp[Op.equalIn,Ty.run_und w h]
theorem wK(d:Nat){t k e:TypeId}(h:P.underlying t=some (.map k e))(r:Option Nat)(w:World):(Op.equalIn (d+1) t (.map r) (.map none)).run P w=.ok r.isNone w:=by
 cases r <;>simp[Op.equalIn,Ty.run_und w h]
theorem gU{op:BinOp}{t:TypeId}{x y:Operand}{A B:Value}(h1:∀ cs,A≠.agg cs)(h2:A≠.nilIface):eqGuard op t x y A B=pure ():=by
 unfold eqGuard;cases op <;>simp
 all_goals (split <;>first | rfl | exact absurd rfl h2 | exact absurd rfl (h1 _))
theorem m9{α:Type}[DecidableEq α](p:Option α):p.isNone=decide (p=none):=by cases p <;>simp
theorem m7{α:Type}[DecidableEq α](p:Option α):(!p.isNone)=decide (p≠none):=by cases p <;>simp
theorem yu (hT:og P T) (hA:Ag F a) {op:BinOp} {t yt:TypeId} {x y:Operand}
    (h:cG P T wr ⟨dst,.binOp op t x y yt,ty,pos,after,guard⟩ F K):eV P ⟨dst,.binOp op t x y yt,ty,pos,after,guard⟩ a K:=by
  refine eV.of (S:=do eqGuard op t x y (a.eval x) (a.eval y);Go.binOp op t (a.eval x) (a.eval y)) (bI (by simp only[execOp])) ?_;have noguard:∀(A B:Value),(op≠.eql/\op≠.neq)->∀ w,(do eqGuard op t x y A B;Go.binOp op t A B:Sem Value).run P w=(Go.binOp op t A B).run P w:=by
    intro A B HC w;have:eqGuard op t x y A B=pure ():=by
      unfold eqGuard;cases op <;>simp at HC ⊢
    rw[this];simp
  have intguard:∀(k k':IntKind)(m n:Int),∀ w,(do eqGuard op t x y (.int k m) (.int k' n);Go.binOp op t (.int k m) (.int k' n):Sem Value).run P w=(Go.binOp op t (.int k m) (.int k' n)).run P w:=by
    intro k k' m n w;have:eqGuard op t x y (.int k m) (.int k' n)=pure ():=by
      unfold eqGuard;cases op <;>simp
    rw[this];simp
  have shift:(op=.shl∨op=.shr)->(ju F x fun k m=>ju F y fun _ n=>sop wr op k m n K)->∃ s v,gp s v/\(∀ w,(do eqGuard op t x y (a.eval x) (a.eval y);Go.binOp op t (a.eval x) (a.eval y):Sem Value).run P w=.ok v w)/\K s:=by
    intro _ h;obtain⟨k,m,hx,h⟩:=cM hA h;obtain⟨k',n,hy,h⟩:=cM hA h;obtain⟨s,v,h1,h2,h3⟩:=Bi (P:=P) (yk:=k') (t:=t) h;exact⟨s,v,h1,fun w=>by rw[hx,hy,intguard];exact h2 w,h3⟩
  have bL:∀ {k k':IntKind} {m n:Int},ev F x=.v (.int k m)->ev F y=.v (.int k' n)->(if k=k' then Db wr op k m n K else False) →
      ∃ s v,gp s v/\(∀ w,(do eqGuard op t x y (a.eval x) (a.eval y);Go.binOp op t (a.eval x) (a.eval y):Sem Value).run P w=.ok v w)/\K s:=by
    intro k k' m n hx hy h;have Eo:a.eval x=.int k m:=by have:=hA.ev x;rw[hx]at this;exact this
    have EV:a.eval y=.int k' n:=by have:=hA.ev y;rw[hy]at this;exact this
    split at h
    · rename_i hk;subst hk;obtain⟨s,v,h1,h2,h3⟩:=wn (P:=P) (t:=t) h;exact⟨s,v,h1,fun w=>by rw[Eo,EV,intguard];exact h2 w,h3⟩
    · exact h.elim
  have other:(op≠.eql/\op≠.neq)->(vv F x fun A=>vv F y fun B=>zq T ty fun s v=>(∀ w,(Go.binOp op t A B:Sem Value).run P w=.ok v w)/\K s) →
      ∃ s v,gp s v/\(∀ w,(do eqGuard op t x y (a.eval x) (a.eval y);Go.binOp op t (a.eval x) (a.eval y):Sem Value).run P w=.ok v w)/\K s:=by
    intro HC h;obtain⟨s,v,h1,h2,h3⟩:=gj (aX hA (aX hA h));exact⟨s,v,h1,fun w=>by rw[noguard _ _ HC];exact h2 w,h3⟩
  have main:(op≠.eql/\op≠.neq)->∀ hh:(match ev F x,ev F y with
      | .v (.int k a),.v (.int k' b)=>if k=k' then Db wr op k a b K else False
      | _,_=>vv F x fun A=>vv F y fun B=>zq T ty fun s v=>(∀ w,(Go.binOp op t A B:Sem Value).run P w=.ok v w)/\K s),
      ∃ s v,gp s v/\(∀ w,(do eqGuard op t x y (a.eval x) (a.eval y);Go.binOp op t (a.eval x) (a.eval y):Sem Value).run P w=.ok v w)/\K s:=by
    intro HC h;split at h
    · rename_i hx hy;exact bL hx hy h
    · exact other HC h
  have eqs:(op=.eql∨op=.neq)->∀ hh:(match ev F x,ev F y with
      | .v (.int k a),.v (.int k' b)=>if k=k' then Db wr op k a b K else False
      | .v (.pointer p),.v (.pointer none)=>(match tf T t with
        | some ⟨.ptr _,_,_,_,_⟩=>(match op with
          | .eql=>K (.p (p=none) inferInstance)
          | _=>K (.p (p≠none) inferInstance))
        | _=>False)
      | .v (.slice A _ _),.v (.slice none _ _)=>(match tf T t with
        | some ⟨.slice _,_,_,_,_⟩=>(match op with
          | .eql=>K (.p (A=none) inferInstance)
          | _=>K (.p (A≠none) inferInstance))
        | _=>False)
      | .v (.map r),.v (.map none)=>(match tf T t with
        | some ⟨.map _ _,_,_,_,_⟩=>(match op with
          | .eql=>K (.p (r=none) inferInstance)
          | _=>K (.p (r≠none) inferInstance))
        | _=>False)
      | _,_=>vv F x fun A=>vv F y fun B=>zq T ty fun s v=>(∀ w,(do eqGuard op t x y A B;Go.binOp op t A B:Sem Value).run P w=.ok v w)/\K s),
      ∃ s v,gp s v/\(∀ w,(do eqGuard op t x y (a.eval x) (a.eval y);Go.binOp op t (a.eval x) (a.eval y):Sem Value).run P w=.ok v w)/\K s:=by
    intro HC h;split at h
    · rename_i hx hy;exact bL hx hy h
    · rename_i p hx hy;have Eo:a.eval x=.pointer p:=by have:=hA.ev x;rw[hx]at this;exact this
      have EV:a.eval y=.pointer none:=by have:=hA.ev y;rw[hy]at this;exact this
      split at h
      · rename_i e _ _ _ _ ht;have hu:=(hT.get ht).ptr rfl;rcases HC with rfl | rfl
        · refine⟨.p _ _,_,(rfl:_=_),fun w=>?_,h⟩;rw[Eo,EV];rw[gU (by simp) (by simp)];simp only[pure_bind];show((do pure (.bool (← Op.equalIn (9999+1) t _ _)):Sem Value)).run P w=_;simp only[Sem.run_bind,wJ 9999 hu,Result.andThen_ok,m9];rfl
        · refine⟨.p _ _,_,(rfl:_=_),fun w=>?_,h⟩;rw[Eo,EV];rw[gU (by simp) (by simp)];simp only[pure_bind];show((do pure (.bool (!(← Op.equalIn (9999+1) t _ _))):Sem Value)).run P w=_;simp only[Sem.run_bind,wJ 9999 hu,Result.andThen_ok,m7];rfl
      · exact h.elim
    · rename_i A n c n' c' hx hy;have Eo:a.eval x=.slice A n c:=by have:=hA.ev x;rw[hx]at this;exact this
      have EV:a.eval y=.slice none n' c':=by have:=hA.ev y;rw[hy]at this;exact this
      split at h
      · rename_i e _ _ _ _ ht;have hu:=(hT.get ht).slice rfl;rcases HC with rfl | rfl
        · refine⟨.p _ _,_,(rfl:_=_),fun w=>?_,h⟩;rw[Eo,EV];rw[gU (by simp) (by simp)];simp only[pure_bind];show((do pure (.bool (← Op.equalIn (9999+1) t _ _)):Sem Value)).run P w=_;simp only[Sem.run_bind,sg 9999 hu,Result.andThen_ok,m9];rfl
        · refine⟨.p _ _,_,(rfl:_=_),fun w=>?_,h⟩;rw[Eo,EV];rw[gU (by simp) (by simp)];simp only[pure_bind];show((do pure (.bool (!(← Op.equalIn (9999+1) t _ _))):Sem Value)).run P w=_;simp only[Sem.run_bind,sg 9999 hu,Result.andThen_ok,m7];rfl
      · exact h.elim
    · rename_i r hx hy;have Eo:a.eval x=.map r:=by have:=hA.ev x;rw[hx]at this;exact this
      have EV:a.eval y=.map none:=by have:=hA.ev y;rw[hy]at this;exact this
      split at h
      · rename_i k e _ _ _ _ ht;have hu:=(hT.get ht).map rfl;rcases HC with rfl | rfl
        · refine⟨.p _ _,_,(rfl:_=_),fun w=>?_,h⟩;rw[Eo,EV];rw[gU (by simp) (by simp)];simp only[pure_bind];show((do pure (.bool (← Op.equalIn (9999+1) t _ _)):Sem Value)).run P w=_;simp only[Sem.run_bind,wK 9999 hu,Result.andThen_ok,m9];rfl
        · refine⟨.p _ _,_,(rfl:_=_),fun w=>?_,h⟩;rw[Eo,EV];rw[gU (by simp) (by simp)];simp only[pure_bind];show((do pure (.bool (!(← Op.equalIn (9999+1) t _ _))):Sem Value)).run P w=_;simp only[Sem.run_bind,wK 9999 hu,Result.andThen_ok,m7];rfl
      · exact h.elim
    · obtain⟨s,v,h1,h2,h3⟩:=gj (aX hA (aX hA h));exact⟨s,v,h1,h2,h3⟩
  simp only[cG]at h;cases op
  case shl=>exact shift (.inl rfl) h
  case shr=>exact shift (.inr rfl) h
  case eql=>exact eqs (.inl rfl) h
  case neq=>exact eqs (.inr rfl) h
  all_goals exact main (by simp) h
theorem Aq(hA:Ag F a){op:UnOp}{t:TypeId}{x:Operand}
    (h:cG P T wr ⟨dst,.unOp op t x,ty,pos,after,guard⟩ F K):eV P ⟨dst,.unOp op t x,ty,pos,after,guard⟩ a K:=by
  refine eV.of (S:=Op.unary op (a.eval x)) (bI (by simp only[execOp])) ?_;have hx:=hA.ev x;simp only[cG]at h;split at h
  · rename_i he;rw[he]at hx;simp only[gp]at hx;exact⟨.v _,_,(rfl:_=_),fun w=>by rw[hx];simp[Op.unary],h⟩
  · rename_i he;rw[he]at hx;simp only[gp]at hx;exact⟨.v _,_,(rfl:_=_),fun w=>by rw[hx];simp[Op.unary],h⟩
  · rename_i c he;rw[he]at hx;simp only[gp]at hx;exact⟨.p _ _,_,(rfl:_=_),fun w=>by rw[hx];cases c <;>simp[Op.unary],h⟩
  · rename_i q d he;rw[he]at hx;simp only[gp]at hx;exact⟨.p _ _,_,(rfl:_=_),fun w=>by rw[hx];simp[Op.unary],h⟩
  · rename_i k m he;rw[he]at hx;simp only[gp]at hx;obtain⟨s,v,h1,h2,h3⟩:=wn (P:=P) (t:=0) h;refine⟨s,v,h1,fun w=>?_,h3⟩;rw[hx,← h2 w];simp[Op.unary,Go.binOp]
  · rename_i k m he;rw[he]at hx;simp only[gp]at hx;exact⟨.v _,_,(rfl:_=_),fun w=>by rw[hx];simp[Op.unary,Op.intBits,dC],h⟩
  · exact h.elim
theorem rH (hT:og P T) (hA:Ag F a) {s:TypeId} {x:Operand} {f:Nat}
    (h:cG P T wr ⟨dst,.fieldAddr s x f,ty,pos,after,guard⟩ F K):eV P ⟨dst,.fieldAddr s x f,ty,pos,after,guard⟩ a K:=by
  refine eV.of (S:=Instr.fieldAt s (a.eval x) f) (bI (by simp only[execOp])) ?_;simp only[cG]at h;split at h
  · rename_i fs _ _ _ _ hs;split at h
    · rename_i off ft hf;split at h
      · rename_i te Ec;obtain⟨fa,hu,Fh⟩:=(hT.get hs).struct rfl;have hz:Nat.beq te.size 0=false:=by
          cases hb:Nat.beq te.size 0 with
          | false=>rfl
          | true=>rw[hb]at h;exact h.elim
        rw[hz]at h;simp only[cond_false]at h;obtain⟨p,hp,hK⟩:=jC hA h;refine⟨.v _,_,(rfl:_=_),fun w=>?_,hK⟩;have DJ:te.size≠0:=fun e=>by rw[e]at hz;simp at hz
        have NB:∃ g,fa[f]?=some g/\g.offset=off/\g.type=ft:=by
          rw[← Fh]at hf;simp only[List.getElem?_map,Option.map_eq_some_iff,Prod.mk.injEq]at hf;obtain⟨g,hg,h1,h2⟩:=hf;exact⟨g,by simpa using hg,h1,h2⟩
        obtain⟨g,hg,rfl,rfl⟩:=NB;rw[hp];simp[Instr.fieldAt,Ty.run_und w hu,hg,Instr.sureAddr,fieldPlace,(hT.get Ec).sizeOf w,DJ]
      · exact h.elim
    · exact h.elim
  · exact h.elim
theorem yq (hT:og P T) (hA:Ag F a) {s:TypeId} {x:Operand} {f:Nat}
    (h:cG P T wr ⟨dst,.field s x f,ty,pos,after,guard⟩ F K):eV P ⟨dst,.field s x f,ty,pos,after,guard⟩ a K:=by
  refine eV.of (S:=Instr.field s (a.eval x) f) (bI (by simp only[execOp])) ?_;simp only[cG]at h;split at h
  · rename_i fs _ _ _ _ hs;split at h
    · rename_i off ft hf;split at h
      · rename_i te Ec;obtain⟨fa,hu,Fh⟩:=(hT.get hs).struct rfl;have h:=aX hA h;have NB:∃ g,fa[f]?=some g/\g.offset=off/\g.type=ft:=by
          rw[← Fh]at hf;simp only[List.getElem?_map,Option.map_eq_some_iff,Prod.mk.injEq]at hf;obtain⟨g,hg,h1,h2⟩:=hf;exact⟨g,by simpa using hg,h1,h2⟩
        obtain⟨g,hg,rfl,rfl⟩:=NB;split at h
        · rename_i cs Gl;rw[Gl];cases hb:te.ld.agg with
          | true =>
            rw[hb]at h;refine⟨.v _,_,(rfl:_=_),fun w=>?_,h⟩;simp[Instr.field,Ty.run_und w hu,hg,asAgg,part,(hT.get Ec).isAgg w,hb,(hT.get Ec).sizeOf w]
          | false =>
            rw[hb]at h;simp only[cond_false]at h;split at h
            · rename_i c hc;refine⟨mk c,c,gp.mk c,fun w=>?_,h⟩;simp[Instr.field,Ty.run_und w hu,hg,asAgg,part,(hT.get Ec).isAgg w,hb,hc]
            · exact h.elim
        · exact h.elim
      · exact h.elim
    · exact h.elim
  · exact h.elim
end Go.V
/-! The own library V, part 5: the other operations that compute. -/
namespace Go.V
variable {P : Program} {T : qe} {F : Fr} {a : Act} {wr : Bool} {K : SV → Prop} {dst : Option Tmp} {ty : TypeId} {pos : String} {after : Array Edge} {guard : Option (Nat × Bool)}
theorem Ar(hA:Ag F a){c x y:Operand}
    (h:cG P T wr ⟨dst,.pick c x y,ty,pos,after,guard⟩ F K):eV P ⟨dst,.pick c x y,ty,pos,after,guard⟩ a K:=by
  simp only[cG]at h;have hc:=hA.ev c;split at h
  · rename_i he;rw[he]at hc;simp only[gp]at hc;exact⟨_,_,hA.ev x,fun w=>by simp[execOp,hc,asBool],h⟩
  · rename_i he;rw[he]at hc;simp only[gp]at hc;exact⟨_,_,hA.ev y,fun w=>by simp[execOp,hc,asBool],h⟩
  · exact h.elim
theorem sY(hA:Ag F a){x:Operand}
    (h:cG P T wr ⟨dst,.nilCheck x,ty,pos,after,guard⟩ F K):eV P ⟨dst,.nilCheck x,ty,pos,after,guard⟩ a K:=by
  simp only[cG]at h;have hc:=hA.ev x;split at h
  · rename_i p he;rw[he]at hc;simp only[gp]at hc;obtain⟨ad,rfl,h⟩:=h;exact⟨.v _,_,(rfl:_=_),fun w=>by simp[execOp,hc],h⟩
  · rename_i g f c he;rw[he]at hc;simp only[gp]at hc;exact⟨.v _,_,(rfl:_=_),fun w=>by simp[execOp,hc],h⟩
  · exact h.elim
theorem rG (hT:og P T) (hA:Ag F a) {t:TypeId} {x ix:Operand}
    (h:cG P T wr ⟨dst,.indexAddr t x ix,ty,pos,after,guard⟩ F K):eV P ⟨dst,.indexAddr t x ix,ty,pos,after,guard⟩ a K:=by
  refine eV.of (S:=Instr.indexAt t (a.eval x) (a.eval ix)) (bI (by simp only[execOp])) ?_;simp only[cG]at h;obtain⟨k,i,hi,h⟩:=cM hA h;split at h
  · rename_i e _ _ _ _ ht;split at h
    · rename_i te Ec;split at h
      · rename_i A n c he;have hx:=hA.ev x;rw[he]at hx;simp only[gp]at hx;obtain⟨ad,rfl,h0,h1,h⟩:=h;rw[uu]at h;refine⟨.v _,_,(rfl:_=_),fun w=>?_,h⟩;simp[Instr.indexAt,hi,hx,asIntOf,Ty.run_und w ((hT.get ht).slice rfl),h0,h1,(hT.get Ec).sizeOf w]
      · exact h.elim
    · exact h.elim
  · rename_i n e _ _ _ _ ht;split at h
    · rename_i te Ec;obtain⟨ad,hx,h⟩:=jC hA h;obtain⟨⟨h0,h1⟩,h⟩:=h;rw[uu]at h;refine⟨.v _,_,(rfl:_=_),fun w=>?_,h⟩;simp[Instr.indexAt,hi,hx,asIntOf,Ty.run_und w ((hT.get ht).arr rfl),Instr.sureAddr,h0,h1,(hT.get Ec).sizeOf w]
    · exact h.elim
  · exact h.elim
theorem pE{i:Int}:∀ {j:Nat} {cs:List Value},uL i j cs K->(j:Int)<=i->i<(j:Int)+cs.length->∃ c,cs[i.toNat-j]?=some c/\K (mk c)
 | j,[],_,h1,h2=>by simp at h2;omega
 | j,c ::r,h,h1,h2=>by
  simp only[uL]at h;by_cases he:i=(j:Int)
  ·exact⟨c,by simp[he],h.1 he⟩
  ·obtain⟨c',hc,hk⟩:=pE (j:=j+1) (cs:=r) h.2 (by omega) (by simp at h2 ⊢;omega);refine⟨c',?_,hk⟩;rw[show i.toNat-j=(i.toNat-(j+1))+1 by omega];simpa using hc
theorem pF{sz:Nat}{cs:List Value}{i:Int}:∀ {c j:Nat},uM sz cs i j c K->(j:Int)<=i->i<(j:Int)+c->K (.v (.agg ((cs.drop (i.toNat*sz)).take sz).toArray))
 | 0,j,_,h1,h2=>by omega
 | c+1,j,h,h1,h2=>by
  simp only[uM]at h;by_cases he:i=(j:Int)
  ·have:=h.1 he;rw[he];exact this
  ·exact pF (c:=c) (j:=j+1) h.2 (by omega) (by omega)
theorem yp (hT:og P T) (hA:Ag F a) {t:TypeId} {x ix:Operand}
    (h:cG P T wr ⟨dst,.index t x ix,ty,pos,after,guard⟩ F K):eV P ⟨dst,.index t x ix,ty,pos,after,guard⟩ a K:=by
  refine eV.of (S:=Instr.index t (a.eval x) (a.eval ix)) (bI (by simp only[execOp])) ?_;simp only[cG]at h;obtain⟨k,i,hi,h⟩:=cM hA h;split at h
  · rename_i n e _ _ _ _ ht;split at h
    · rename_i te Ec;have h:=aX hA h;split at h
      · rename_i cs Gl;cases hb:te.ld.agg with
        | true =>
          rw[hb]at h;simp only[cond_true]at h;obtain⟨⟨h3,h4⟩,h⟩:=h;refine⟨.v _,_,(rfl:_=_),fun w=>?_,pF h (by simpa using h3) (by simpa using h4)⟩;have he:cs.extract (i.toNat*te.size) (i.toNat*te.size+te.size)=((cs.toList.drop (i.toNat*te.size)).take te.size).toArray:=by
            apply Array.toList_inj.1;simp[Array.toList_extract,List.extract]
          simp[Instr.index,hi,Gl,asIntOf,Ty.run_und w ((hT.get ht).arr rfl),h3,h4,part,(hT.get Ec).isAgg w,hb,(hT.get Ec).sizeOf w,he]
        | false =>
          rw[hb]at h;simp only[cond_false]at h;cases h1:Nat.beq te.size 1 with
          | false=>rw[h1]at h;exact h.elim
          | true =>
            rw[h1]at h;simp only[cond_true]at h;cases h2:Nat.beq cs.size n with
            | false=>rw[h2]at h;exact h.elim
            | true =>
              rw[h2]at h;simp only[cond_true]at h;have e1:te.size=1:=Nat.eq_of_beq_eq_true h1;have e2:cs.size=n:=Nat.eq_of_beq_eq_true h2;obtain⟨⟨h3,h4⟩,h⟩:=h;obtain⟨c,hc,hk⟩:=pE h (by simpa using h3) (by simp;omega);refine⟨mk c,c,gp.mk c,fun w=>?_,hk⟩;have G8:cs[i.toNat]?=some c:=by simpa using hc
              simp[Instr.index,hi,Gl,asIntOf,Ty.run_und w ((hT.get ht).arr rfl),h3,h4,part,(hT.get Ec).isAgg w,hb,(hT.get Ec).sizeOf w,e1,G8]
      · exact h.elim
    · exact h.elim
  · rename_i _ _ _ _ ht;have h:=aX hA h;split at h
    · rename_i s hs;obtain⟨⟨h3,h4⟩,h⟩:=h;refine⟨.v _,_,(rfl:_=_),fun w=>?_,h⟩;have DF:i.toNat<s.size:=by omega
      have Gt:i.toNat<s.data.toList.length:=by simpa using DF
      have hg:s[i.toNat]?=some (s.data.toList.getD i.toNat 0):=by
        rw[getElem?_pos s i.toNat DF];simp only[List.getD_eq_getElem?_getD,List.getElem?_eq_getElem Gt,Option.getD_some];rfl
      simp[Instr.index,hi,hs,asIntOf,Ty.run_und w ((hT.get ht).str rfl),h3,hg,bt]
    · exact h.elim
  · exact h.elim
theorem yr (hT:og P T) (hA:Ag F a) {t:TypeId} {parts:Array (Nat×Operand)}
    (h:cG P T wr ⟨dst,.build t parts,ty,pos,after,guard⟩ F K):eV P ⟨dst,.build t parts,ty,pos,after,guard⟩ a K:=by
  refine eV.of (S:=Instr.build t (parts.map fun(i,x)=>(i,a.eval x))) (bI (by simp only[execOp])) ?_;have hl:∀ vs,vs=parts.toList.map (fun p=>(p.1,a.eval p.2))->(parts.map fun(i,x)=>(i,a.eval x)).toList=vs:=by
    rintro _ rfl;simp
  simp only[cG]at h;split at h
  · rename_i fs _ _ z _ ht;have sz :∀ {fs:List (Nat×Nat)} {K:List (Nat×Nat)->Prop},vI T fs K->∃ l,K l/\∀(f:List Field),f.map (fun g=>(g.offset,g.type))=fs->∀ w,(f.mapM fun g=>do pure (g.offset,← sizeOf g.type):Sem (List (Nat×Nat))).run P w=.ok l w:=by
      intro fs
      induction fs with
      | nil =>
        intro K h;refine⟨[],h,fun f hf w=>?_⟩;simp at hf;subst hf;simp
      | cons p r ih =>
        obtain⟨o,ty⟩:=p;intro K h;unfold vI at h;split at h
        · rename_i te Ec;obtain⟨l,hK,hl⟩:=ih h;refine⟨_,hK,fun f hf w=>?_⟩;cases f with
          | nil=>simp at hf
          | cons g f =>
            simp only[List.map_cons,List.cons.injEq,Prod.mk.injEq]at hf;obtain⟨⟨rfl,rfl⟩,hf⟩:=hf;simp only[List.mapM_cons,Sem.run_bind,Sem.run_pure,Result.andThen_ok,(hT.get Ec).sizeOf w,hl f hf w]
        · exact h.elim
    obtain⟨ps,h,QR⟩:=sz h;have h:=nB hA h;split at h
    · rename_i cells hc;obtain⟨fa,hu,Fh⟩:=(hT.get ht).struct rfl;refine⟨.v _,_,(rfl:_=_),fun w=>?_,h⟩;have hm:(fa.mapM fun g=>do pure (g.offset,← sizeOf g.type):Sem (Array (Nat×Nat))).run P w=.ok ps.toArray w:=by
        rw[Array.mapM_eq_mapM_toList,Sem.run_map,QR _ Fh w];rfl
      simp only[Instr.build,Sem.run_bind,(hT.get ht).zeroValue w,Result.andThen_ok,Ty.run_und w hu,hm];rw[hl _ rfl];have:(fun x:Nat=>ps.toArray[x]?)=(fun x:Nat=>ps[x]?):=by funext x;simp
      rw[this,hc];simp
    · exact h.elim
  · rename_i n e _ _ z _ ht;split at h
    · rename_i te Ec;have h:=nB hA h;split at h
      · rename_i cells hc;refine⟨.v _,_,(rfl:_=_),fun w=>?_,h⟩;simp only[Instr.build,Sem.run_bind,(hT.get ht).zeroValue w,Result.andThen_ok,Ty.run_und w ((hT.get ht).arr rfl),(hT.get Ec).sizeOf w];rw[hl _ rfl,hc];simp
      · exact h.elim
    · exact h.elim
  · exact h.elim
theorem sZ(hA:Ag F a){fn:Fn}{f c:Array Operand}
    (h:cG P T wr ⟨dst,.makeFunc fn f c,ty,pos,after,guard⟩ F K):eV P ⟨dst,.makeFunc fn f c,ty,pos,after,guard⟩ a K:=by
  refine eV.of (S:=Instr.makeFunc fn (f.map a.eval) (c.map a.eval)) (bI (by simp only[execOp])) ?_;simp only[cG]at h;have h:=d8 hA (d8 hA h);refine⟨.v _,_,(rfl:_=_),fun w=>?_,h⟩;simp[Instr.makeFunc];constructor <;>apply Array.toList_inj.1 <;>simp
theorem vb(hA:Ag F a){x:Operand}{i:Nat}
    (h:cG P T wr ⟨dst,.extract x i,ty,pos,after,guard⟩ F K):eV P ⟨dst,.extract x i,ty,pos,after,guard⟩ a K:=by
  refine eV.of (S:=Instr.extract (a.eval x) i) (bI (by simp only[execOp])) ?_;simp only[cG]at h;have hx:=hA.ev x;split at h
  · rename_i vs he;rw[he]at hx;simp only[gp]at hx;split at h
    · rename_i v hv;exact⟨mk v,v,gp.mk v,fun w=>by simp[Instr.extract,hx,hv],h⟩
    · exact h.elim
  · exact h.elim
theorem vc(hT:og P T)(hA:Ag F a){src d:TypeId}{x:Operand}
    (h:cG P T wr ⟨dst,.convert src d x,ty,pos,after,guard⟩ F K):eV P ⟨dst,.convert src d x,ty,pos,after,guard⟩ a K:=by
  refine eV.of (S:=Go.convert src d (a.eval x)) (bI (by simp only[execOp])) ?_;simp only[cG]at h;have hx:=hA.ev x;split at h
  · rename_i k1 _ _ _ _ k _ _ _ _ k2 n h1 h2 he;rw[he]at hx;simp only[gp]at hx;have u1:=fun w=>Ty.run_und w ((hT.get h1).int rfl);have u2:=fun w=>Ty.run_und w ((hT.get h2).int rfl);cases wr with
    | true=>exact⟨.v _,_,(rfl:_=_),fun w=>by simp[Go.convert,hx,u1,u2,Conv.intToInt],h⟩
    | false=>exact⟨.v _,_,(rfl:_=_),fun w=>by simp[Go.convert,hx,u1,u2,Conv.intToInt,er h.1],h.2⟩
  · rename_i _ _ _ _ _ _ _ _ s h1 h2 he;rw[he]at hx;simp only[gp]at hx;have u1:=fun w=>Ty.run_und w ((hT.get h1).str rfl);have u2:=fun w=>Ty.run_und w ((hT.get h2).str rfl);exact⟨.v _,_,(rfl:_=_),fun w=>by simp[Go.convert,hx,u1,u2],h⟩
  · exact h.elim
theorem nj(hA:Ag F a){t:TypeId}{x:Operand}
    (h:cG P T wr ⟨dst,.makeInterface t x,ty,pos,after,guard⟩ F K):eV P ⟨dst,.makeInterface t x,ty,pos,after,guard⟩ a K:=by
  refine eV.of (S:=Instr.makeInterface t (a.eval x)) (bI (by simp only[execOp])) ?_;simp only[cG]at h;obtain⟨s,v,h1,h2,h3⟩:=gj (aX hA h);exact⟨s,v,h1,h2,h3⟩
theorem BF (hT:og P T) (hA:Ag F a) {args:Array Operand} {ts:Array TypeId}
    (h:cG P T wr ⟨dst,.call ⟨.builtin .len,args,ts⟩,ty,pos,after,guard⟩ F K):eV P ⟨dst,.call ⟨.builtin .len,args,ts⟩,ty,pos,after,guard⟩ a K:=by
  refine eV.of (S:=Builtin.len_ ts ty (args.map a.eval)) (zX rfl) ?_;simp only[cG]at h;split at h
  · rename_i x t hx ht;have Px:(args.map a.eval)[0]?=some (a.eval x):=by simp[hx]
    have he:=hA.ev x;split at h
    · rename_i e _ _ _ _ Ec;split at h
      · rename_i A n c hs;rw[hs]at he;simp only[gp]at he;refine⟨.v _,_,(rfl:_=_),fun w=>?_,h⟩;simp[Builtin.len_,hx,ht,he,Ty.run_und w ((hT.get Ec).slice rfl),goInt]
      · exact h.elim
    · rename_i _ _ _ _ Ec;split at h
      · rename_i s hs;rw[hs]at he;simp only[gp]at he;refine⟨.v _,_,(rfl:_=_),fun w=>?_,h⟩;simp[Builtin.len_,hx,ht,he,Ty.run_und w ((hT.get Ec).str rfl),goInt]
      · exact h.elim
    · rename_i n e _ _ _ _ Ec;refine⟨.v _,_,(rfl:_=_),fun w=>?_,h⟩;simp[Builtin.len_,hx,ht,Ty.run_und w ((hT.get Ec).arr rfl),goInt]
    · exact h.elim
  · exact h.elim
theorem vZ{k:IntKind}:∀ {vs:List Value} {x:Int} {K:Int->Prop},mxs k x vs K->∃ z,K z/\∀ w,(vs.foldlM Builtin.max2 (.int k x)).run P w=.ok (.int k z) w
 | [],x,K,h=>⟨x,h,fun w=>by simp⟩
 | v ::r,x,K,h=>by
  cases v with
  | int k' y =>
   simp only[mxs]at h;obtain⟨z,hk,hz⟩:=vZ h;refine⟨z,hk,fun w=>?_⟩;simp only[List.foldlM_cons,Builtin.max2,pure_bind];exact hz w
  | _=>simp only[mxs]at h
theorem v8{k:IntKind}:∀ {vs:List Value} {x:Int} {K:Int->Prop},mns k x vs K->∃ z,K z/\∀ w,(vs.foldlM Builtin.min2 (.int k x)).run P w=.ok (.int k z) w
 | [],x,K,h=>⟨x,h,fun w=>by simp⟩
 | v ::r,x,K,h=>by
  cases v with
  | int k' y =>
   simp only[mns]at h;obtain⟨z,hk,hz⟩:=v8 h;refine⟨z,hk,fun w=>?_⟩;simp only[List.foldlM_cons,Builtin.min2,pure_bind];exact hz w
  | _=>simp only[mns]at h
theorem ej{b:Builtin}{args:Array Operand}{ts:Array TypeId}{S:Sem Value}(hS:∀ c,builtin b ts ty c (args.map a.eval)=(do pure (.value (← S))))(w:World):
    (execOp a.eval ⟨dst,.call ⟨.builtin b,args,ts⟩,ty,pos,after,guard⟩).run P w=(S.run P w).andThen fun v w'=>.ok (.value v) w':=by
  have:(execOp a.eval ⟨dst,.call ⟨.builtin b,args,ts⟩,ty,pos,after,guard⟩).run P w=(builtin b ts ty (args.map fun | .const _=>true | _=>false) (args.map a.eval)).run P w:=by
    simp only[execOp,resolve];rfl
  rw[this,hS];simp
theorem BE(hA:Ag F a){args:Array Operand}{ts:Array TypeId}
    (h:cG P T wr ⟨dst,.call ⟨.builtin .max,args,ts⟩,ty,pos,after,guard⟩ F K):eV P ⟨dst,.call ⟨.builtin .max,args,ts⟩,ty,pos,after,guard⟩ a K:=by
  refine eV.of (S:=Builtin.max_ ts ty (args.map a.eval)) (ej fun c=>rfl) ?_;simp only[cG]at h;split at h
  · rename_i x r hx;obtain⟨k,n,hn,h⟩:=cM hA h;have h:=d8 hA h;obtain⟨z,hk,hz⟩:=vZ (P:=P) h;refine⟨.v _,_,(rfl:_=_),fun w=>?_,hk⟩;simp only[Builtin.max_,Array.toList_map,hx,List.map_cons,hn];exact hz w
  · exact h.elim
theorem BD(hA:Ag F a){args:Array Operand}{ts:Array TypeId}
    (h:cG P T wr ⟨dst,.call ⟨.builtin .min,args,ts⟩,ty,pos,after,guard⟩ F K):eV P ⟨dst,.call ⟨.builtin .min,args,ts⟩,ty,pos,after,guard⟩ a K:=by
  refine eV.of (S:=Builtin.min_ ts ty (args.map a.eval)) (ej fun c=>rfl) ?_;simp only[cG]at h;split at h
  · rename_i x r hx;obtain⟨k,n,hn,h⟩:=cM hA h;have h:=d8 hA h;obtain⟨z,hk,hz⟩:=v8 (P:=P) h;refine⟨.v _,_,(rfl:_=_),fun w=>?_,hk⟩;simp only[Builtin.min_,Array.toList_map,hx,List.map_cons,hn];exact hz w
  · exact h.elim
theorem cut0(A:OA):A.map (·.add 0)=A:=by cases A <;>simp[Addr.add]
theorem yo (hT:og P T) (hA:Ag F a) {t:TypeId} {x:Operand} {lo hi mxo:Option Operand}
    (h:cG P T wr ⟨dst,.slice t x lo hi mxo,ty,pos,after,guard⟩ F K):eV P ⟨dst,.slice t x lo hi mxo,ty,pos,after,guard⟩ a K:=by
  refine eV.of (S:=Instr.sliceAt t (a.eval x) (lo.map a.eval) (hi.map a.eval) (mxo.map a.eval)) (bI (by simp only[execOp])) ?_;have bnd:∀(k:IntKind)(i:Int)(y:Nat)(c:BoundsCode)(w:World),0<=i->i<=(y:Int)->(Instr.sliceBound (.int k i) y c).run P w=.ok i.toNat w:=by
    intro k i y c w h0 h1;simp[Instr.sliceBound,asIntOf,h0,h1]
  cases mxo with
  | some m =>
    cases lo with
    | none=>simp only[cG]at h
    | some l =>
    cases hi with
    | none=>simp only[cG]at h
    | some hi =>
    simp only[cG]at h;have he:=hA.ev x;split at h
    · rename_i e _ _ _ _ ht;split at h
      · rename_i te Ec;have hu:=(hT.get ht).slice rfl;split at h
        · rename_i A n c hs;rw[hs]at he;simp only[gp]at he;obtain⟨k,i,Gv,h⟩:=cM hA h;obtain⟨k',j,KR,h⟩:=cM hA h;obtain⟨k'',q,QK,h⟩:=cM hA h;obtain⟨⟨h0,h1,h2,h3,h4,h5⟩,h⟩:=h;refine⟨.v _,_,(rfl:_=_),fun w=>?_,h⟩;simp only[Option.map_some,Gv,KR,QK];simp[Instr.sliceAt,Instr.slice,he,Ty.run_und w hu,Instr.sliceBounds,bnd k'' q c _ w h0 h1,bnd k' j q.toNat _ w h2 (by omega),bnd k i j.toNat _ w h4 (by omega),(hT.get Ec).sizeOf w,bN]
        · exact h.elim
      · exact h.elim
    · exact h.elim
  | none =>
    simp only[cG]at h;have he:=hA.ev x;split at h
    · rename_i e _ _ _ _ ht;split at h
      · rename_i te Ec;have hu:=(hT.get ht).slice rfl;split at h
        · rename_i A n c hs;rw[hs]at he;simp only[gp]at he
          have base:∀ (l hh m:Nat) w,(Instr.sliceBounds true n c (lo.map a.eval) (hi.map a.eval) none).run P w=.ok (l,hh,m) w →
              (Instr.sliceAt t (a.eval x) (lo.map a.eval) (hi.map a.eval) none).run P w=.ok (.slice (if m=l then A else A.map (·.add (l*te.size))) (hh-l) (m-l)) w:=by
            intro l hh m w hb;simp[Instr.sliceAt,Instr.slice,he,Ty.run_und w hu,hb,(hT.get Ec).sizeOf w]
          split at h
          · refine⟨.v _,_,(rfl:_=_),fun w=>?_,h⟩;rw[show(none:Option Operand).map a.eval=none from rfl]at base ⊢;rw[base 0 n c w (by simp[Instr.sliceBounds])];simp[cut0]
          · rename_i hv;obtain⟨k,i,Gv,h⟩:=cM hA h;obtain⟨⟨h0,h1⟩,h⟩:=h;refine⟨.v _,_,(rfl:_=_),fun w=>?_,h⟩;simp only[Option.map_none,Option.map_some,Gv]at base ⊢;rw[base 0 i.toNat c w (by simp[Instr.sliceBounds,bnd k i c _ w h0 h1])];simp[cut0]
          · rename_i lv;obtain⟨k,i,Gv,h⟩:=cM hA h;obtain⟨⟨h0,h1⟩,h⟩:=h;refine⟨.v _,_,(rfl:_=_),fun w=>?_,h⟩;simp only[Option.map_none,Option.map_some,Gv]at base ⊢;rw[base i.toNat n c w (by simp[Instr.sliceBounds,bnd k i n _ w h0 h1])];rfl
          · rename_i lv hv;obtain⟨k,i,Gv,h⟩:=cM hA h;obtain⟨k',j,KR,h⟩:=cM hA h;obtain⟨⟨h0,h1,h2,h3⟩,h⟩:=h;refine⟨.v _,_,(rfl:_=_),fun w=>?_,h⟩;simp only[Option.map_none,Option.map_some,Gv,KR]at base ⊢;rw[base i.toNat j.toNat c w (by simp[Instr.sliceBounds,bnd k' j c _ w h0 h1,bnd k i j.toNat _ w h2 (by omega)])];rfl
        · exact h.elim
      · exact h.elim
    · rename_i _ _ _ _ ht;have hu:=(hT.get ht).str rfl;split at h
      · rename_i s hs;rw[hs]at he;simp only[gp]at he
        have base:∀ (l hh m:Nat) w,(Instr.sliceBounds false s.size s.size (lo.map a.eval) (hi.map a.eval) none).run P w=.ok (l,hh,m) w →
            (Instr.sliceAt t (a.eval x) (lo.map a.eval) (hi.map a.eval) none).run P w=.ok (.string (s.extract l hh)) w:=by
          intro l hh m w hb;simp[Instr.sliceAt,Instr.slice,he,Ty.run_und w hu,hb]
        split at h
        · refine⟨.v _,_,(rfl:_=_),fun w=>?_,h⟩;rw[show(none:Option Operand).map a.eval=none from rfl]at base ⊢;rw[base 0 s.size s.size w (by simp[Instr.sliceBounds])]
        · rename_i hv;obtain⟨k,i,Gv,h⟩:=cM hA h;obtain⟨⟨h0,h1⟩,h⟩:=h;refine⟨.v _,_,(rfl:_=_),fun w=>?_,h⟩;simp only[Option.map_none,Option.map_some,Gv]at base ⊢;rw[base 0 i.toNat s.size w (by simp[Instr.sliceBounds,bnd k i s.size _ w h0 h1])]
        · rename_i lv;obtain⟨k,i,Gv,h⟩:=cM hA h;obtain⟨⟨h0,h1⟩,h⟩:=h;refine⟨.v _,_,(rfl:_=_),fun w=>?_,h⟩;simp only[Option.map_none,Option.map_some,Gv]at base ⊢;rw[base i.toNat s.size s.size w (by simp[Instr.sliceBounds,bnd k i s.size _ w h0 h1])]
        · rename_i lv hv;obtain⟨k,i,Gv,h⟩:=cM hA h;obtain⟨k',j,KR,h⟩:=cM hA h;obtain⟨⟨h0,h1,h2,h3⟩,h⟩:=h;refine⟨.v _,_,(rfl:_=_),fun w=>?_,h⟩;simp only[Option.map_none,Option.map_some,Gv,KR]at base ⊢;rw[base i.toNat j.toNat s.size w (by simp[Instr.sliceBounds,bnd k' j s.size _ w h0 h1,bnd k i j.toNat _ w h2 (by omega)])]
      · exact h.elim
    · exact h.elim
theorem xH(hT:og P T)(hA:Ag F a){o:Oper}(h:cG P T wr o F K):eV P o a K:=by
 obtain⟨dst,op,ty,pos,after,guard⟩:=o;cases op
 case move x=>exact⟨_,_,hA.ev x,fun w=>by simp[execOp],h⟩
 case assign x=>exact⟨_,_,hA.ev x,fun w=>by simp[execOp],h⟩
 case pick=>exact Ar hA h
 case nilCheck=>exact sY hA h
 case binOp=>exact yu hT hA h
 case unOp=>exact Aq hA h
 case convert=>exact vc hT hA h
 case makeInterface=>exact nj hA h
 case makeFunc=>exact sZ hA h
 case slice=>exact yo hT hA h
 case fieldAddr=>exact rH hT hA h
 case field=>exact yq hT hA h
 case indexAddr=>exact rG hT hA h
 case index=>exact yp hT hA h
 case build=>exact yr hT hA h
 case extract=>exact vb hA h
 case call c =>
  obtain⟨callee,args,ts⟩:=c;cases callee with
  | value f=>simp only[cG]at h
  | invoke r m=>simp only[cG]at h
  | builtin b =>
   cases b
   case len=>exact BF hT hA h
   case max=>exact BE hA h
   case min=>exact BD hA h
   all_goals simp only[cG]at h
 all_goals simp only[cG]at h
end Go.V
/-! The own library V, part 6: operations that read, and operations that act. -/
namespace Go.V
/-! ### Reading -/
def Dm(m:Nat)(C:World->Prop)(w:World)(φ:World->Prop):Prop :=
 match m with
 | 0=>∀ w',C w'->φ w'
 | _=>φ w
theorem qB{m:Nat}{C:World->Prop}{w:World}{φ ψ:World->Prop}(h:∀ w,φ w->ψ w)(hd:Dm m C w φ):Dm m C w ψ:=by
 cases m with
 | zero=>exact fun w' hC=>h _ (hd w' hC)
 | succ m=>exact h _ hd
theorem DC{m:Nat}{C:World->Prop}{w:World}{φ ψ:World->Prop}(h:Dm m C w φ)(k:Dm m C w ψ):Dm m C w (fun w=>φ w/\ψ w):=by
 cases m with
 | zero=>exact fun w' hC=>⟨h w' hC,k w' hC⟩
 | succ m=>exact⟨h,k⟩
theorem C4{m:Nat}{C:World->Prop}{w:World}{φ:World->Prop}(h:∀ w,φ w):Dm m C w φ:=by
 cases m with
 | zero=>exact fun w' _=>h w'
 | succ m=>exact h w
def vg(D:(World->Prop)->Prop)(a:Addr):Nat->List Sh->(List Value->Prop)->Prop
 | _,[],K=>K []
 | i,s ::r,K=>yy s fun _ v=>D (fun w=>w.cell? (a.add i)=some v)/\vg D a (i+1) r fun vs=>K (v ::vs)
def mE(P:Program)(T:qe)(o:Oper)(F:Fr)(D:(World->Prop)->Prop)(K:SV->Prop):Prop :=
 match o.op with
 | .load t x=>xI F x fun a=>(match tf T t with
  | some te=>bif te.ld.agg then(bif Nat.beq te.shs.length te.size then vg D a 0 te.shs fun cs=>K (.v (.agg cs.toArray)) else False)
   else yy (te.shs.headD .any) fun s v=>D (fun w=>w.cell? a=some v)/\K s
  | none=>False)
 | .lookup t x i ok=>vv F x fun m=>vv F i fun k=>zq T o.type fun s v=>D (fun w=>(Instr.lookup t m k ok).run P w=.ok v w)/\K s
 | .call { callee:=.builtin .len,args,argTypes }=>xE F args.toList fun vs=>zq T o.type fun s v=>D (fun w=>(Builtin.len_ argTypes o.type vs.toArray).run P w=.ok v w)/\K s
 | .convert src dst x=>vv F x fun m=>zq T o.type fun s v=>D (fun w=>(Go.convert src dst m).run P w=.ok v w)/\K s
 | _=>False
section
variable {P : Program} {T : qe} {F : Fr} {a : Act} {dst : Option Tmp} {ty : TypeId} {pos : String} {after : Array Edge} {guard : Option (Nat × Bool)} {m : Nat} {C : World → Prop} {w : World}
theorem fZ{ad:Addr}{w:World}:∀(vs:List Value)(i:Nat)(acc:Array Value),(∀ j v,vs[j]?=some v->w.cell? (ad.add (i+j))=some v)->(loadCellsFrom ad i vs.length acc).run P w=.ok (acc++vs.toArray) w
 | [],i,acc,_=>by simp[loadCellsFrom]
 | v ::r,i,acc,h=>by
  have h0:=h 0 v (by simp);simp only[Nat.add_zero]at h0;simp only[List.length_cons,loadCellsFrom,Sem.run_bind];have:(load (ad.add i)).run P w=.ok v w:=by simp[load,Sem.run,h0]
  rw[this];simp only[Result.andThen_ok];rw[fZ r (i+1) (acc.push v) (fun j u hu=>by
   have:=h (j+1) u (by simpa using hu);rw[show i+1+j=i+(j+1) by omega];exact this)]
  congr 1;apply Array.toList_inj.1;simp
theorem lI{D:(World->Prop)->Prop}(PP:∀ φ ψ:World->Prop,D φ->D ψ->D (fun w=>φ w/\ψ w))(LF:∀ φ ψ:World->Prop,(∀ w,φ w->ψ w)->D φ->D ψ)(PO:∀ φ:World->Prop,(∀ w,φ w)->D φ){ad:Addr}:
    ∀ {ss:List Sh} {i:Nat} {K:List Value->Prop},vg D ad i ss K->∃ vs,vs.length=ss.length/\D (fun w=>∀ j v,vs[j]?=some v->w.cell? (ad.add (i+j))=some v)/\K vs
  | [],i,K,h=>⟨[],rfl,PO _ (by simp),h⟩
  | s ::r,i,K,h=>by
    obtain⟨_,v,_,h1,h2⟩:=jV h;obtain⟨vs,hl,h3,h4⟩:=lI PP LF PO h2;refine⟨v ::vs,by simp[hl],LF _ _ ?_ (PP _ _ h1 h3),h4⟩;rintro w ⟨h1,h3⟩ j u hu;cases j with
    | zero=>simp at hu;subst hu;exact h1
    | succ j=>rw[show i+(j+1)=i+1+j by omega];exact h3 j u (by simpa using hu)
theorem xG (hT:og P T) (hA:Ag F a) {o:Oper} {K:SV->Prop} (h:mE P T o F (Dm m C w) K) :
    ∃ s v,gp s v/\Dm m C w (fun w=>(execOp a.eval o).run P w=.ok (.value v) w)/\K s:=by
  obtain⟨dst,op,ty,pos,after,guard⟩:=o
  have fin:∀ {S:Sem Value} {o:Oper},(∀ w,(execOp a.eval o).run P w=(S.run P w).andThen fun v w'=>.ok (.value v) w')->(∃ s v,gp s v/\Dm m C w (fun w=>S.run P w=.ok v w)/\K s) →
      ∃ s v,gp s v/\Dm m C w (fun w=>(execOp a.eval o).run P w=.ok (.value v) w)/\K s:=by
    rintro S o hS ⟨s,v,h1,h2,h3⟩;exact⟨s,v,h1,qB (fun w h=>by rw[hS,h];rfl) h2,h3⟩
  cases op
  case load t x =>
    refine fin (S:=Instr.loadAt t (a.eval x)) (bI (by simp only[execOp])) ?_;simp only[mE]at h;obtain⟨ad,hx,h⟩:=jC hA h;split at h
    · rename_i te Ec;cases hb:te.ld.agg with
      | true =>
        rw[hb]at h;simp only[cond_true]at h;cases hl:Nat.beq te.shs.length te.size with
        | false=>rw[hl]at h;exact h.elim
        | true =>
          rw[hl]at h;simp only[cond_true]at h;obtain⟨vs,DH,hD,hK⟩:=lI (fun _ _=>DC) (fun _ _=>qB) (fun _=>C4) h;refine⟨.v _,_,(rfl:_=_),qB (fun w hw=>?_) hD,hK⟩;have hs:te.size=vs.length:=by rw[DH];exact(Nat.eq_of_beq_eq_true hl).symm
          simp only[Instr.loadAt,hx,Instr.sureAddr,pure_bind,loadVar,Sem.run_bind,(hT.get Ec).isAgg w,Result.andThen_ok,hb,if_true,(hT.get Ec).sizeOf w,loadCells,hs];rw[fZ vs 0 #[] hw];simp
      | false =>
        rw[hb]at h;simp only[cond_false]at h;obtain⟨s,v,h1,h2,h3⟩:=jV h;refine⟨s,v,h1,qB (fun w hw=>?_) h2,h3⟩;simp[Instr.loadAt,hx,Instr.sureAddr,loadVar,(hT.get Ec).isAgg w,hb,load,Sem.run,hw]
    · exact h.elim
  case lookup t x i ok =>
    simp only[mE]at h;refine fin (S:=Instr.lookup t (a.eval x) (a.eval i) ok) (bI (by simp only[execOp])) ?_;exact gj (aX hA (aX hA h)) |>.elim fun s ⟨v,h1,h2,h3⟩=>⟨s,v,h1,h2,h3⟩
  case convert src d x =>
    simp only[mE]at h;refine fin (S:=Go.convert src d (a.eval x)) (bI (by simp only[execOp])) ?_;exact gj (aX hA h) |>.elim fun s ⟨v,h1,h2,h3⟩=>⟨s,v,h1,h2,h3⟩
  case call c =>
    obtain⟨callee,args,ts⟩:=c;cases callee with
    | value f=>simp only[mE]at h
    | invoke r m=>simp only[mE]at h
    | builtin b =>
      cases b
      case len =>
        simp only[mE]at h;refine fin (S:=Builtin.len_ ts ty (args.map a.eval)) (ej fun c=>rfl) ?_;have h:=d8 hA h;rw[show(List.map a.eval args.toList).toArray=args.map a.eval from by apply Array.toList_inj.1;simp]at h;exact gj h |>.elim fun s ⟨v,h1,h2,h3⟩=>⟨s,v,h1,h2,h3⟩
      all_goals simp only[mE]at h
  all_goals simp only[mE]at h
end
/-! ### Acting -/
def qv(a:Addr):Nat->List Value->World->(World->Prop)->Prop
 | _,[],w,K=>K w
 | i,v ::r,w,K=>bif v.oneCell' then(∃ u,w.cell? (a.add i)=some u)/\w.frozen? (a.add i)=false/\qv a (i+1) r (w.setCell (a.add i) v) K else False
def jS(P:Program)(T:qe)(t:Nat)(S:Sem Value)(w:World)(K:SV->World->Prop):Prop :=
 zq T t fun s v=>∃ w',S.run P w=.ok v w'/\K s w'
def BC(P:Program)(S:Sem Unit)(w:World)(K:SV->World->Prop):Prop:=∃ w',S.run P w=.ok () w'/\K .un w'
def fN (P:Program) (T:qe) (fs:List Nat) (et:List Nat) (o:Oper) (F:Fr) (w:World) (K:SV->World->Prop):Prop :=
  match o.op with
  | .store t x y=>xI F x fun a=>vv F y fun v=>(match tf T t with
    | some te=>bif Nat.beq v.cells.size te.size then(bif te.ld.agg then qv a 0 v.cells.toList w (K .un) else
        bif v.oneCell' then(∃ u,w.cell? a=some u)/\w.frozen? a=false/\K .un (w.setCell a v) else False) else False
    | none=>False)
  | .box t x=>vv F x fun v=>K (.v (.pointer (some ⟨w.heap.size,0,none⟩))) (w.alloc (.cells v.cells t))
  | .alloc t=>(match tf T t with
    | some te=>K (.v (.pointer (some ⟨w.heap.size,0,none⟩))) (w.alloc (.cells te.zero.cells t))
    | none=>False)
  | .buildSlice t n parts=>(match tf T t with
    | some ⟨.slice e,_,_,_,_⟩=>(match tf T e with
      | some te=>bif Nat.ble (n*te.size) 16777216 then DE F parts.toList fun vs=>(match Instr.fill (fun i=>some (i*te.size,te.size)) ((Array.range (n*te.size)).map (te.zero.cells[· % te.zero.cells.size]!)) vs with
        | some cells=>K (.v (.slice (some ⟨w.heap.size,0,none⟩) n n)) (w.alloc (.cells cells e))
        | none=>False) else False
      | none=>False)
    | _=>False)
  | .makeMap _ none=>K (.v (.map (some w.heap.size))) (w.alloc (.map #[] 0))
  | .makeMap t (some x)=>vv F x fun v=>jS P T o.type (Instr.makeMap t (some v)) w K
  | .makeSlice t l c=>vv F l fun l=>vv F c fun c=>jS P T o.type (Instr.makeSlice t l c) w K
  | .convert src dst x=>vv F x fun v=>jS P T o.type (Go.convert src dst v) w K
  | .typeAssert x t u ok=>vv F x fun v=>jS P T o.type (Instr.typeAssert v t u ok) w K
  | .makeInterface t x=>vv F x fun v=>jS P T o.type (Instr.makeInterface t v) w K
  | .mapEntry t m k=>vv F m fun m=>vv F k fun k=>jS P T o.type (Instr.mapEntry t m k) w K
  | .mapUpdate t m k x | .insert t m k x=>vv F m fun m=>vv F k fun k=>vv F x fun x=>BC P (Instr.mapUpdate t m k x) w K
  | .entryStore t m s x=>vv F m fun m=>vv F s fun s=>vv F x fun x=>BC P (Instr.entryStore t m s x) w K
  | .range t x=>vv F x fun v=>∃(p:OA)(w':World),(Instr.range t v).run P w=.ok (.pointer p) w'/\K (.v (.pointer p)) w'
  | .next it true=>vv F it fun v=>∃ w':World,((Instr.next v true o.type).run P w=.ok (.tuple #[.bool false]) w'/\K (.v (.tuple #[.bool false])) w')∨∃(k x:Int),(Instr.next v true o.type).run P w=.ok (.tuple #[.bool true,.int .i64 k,.int .i32 x]) w'/\K (.v (.tuple #[.bool true,.int .i64 k,.int .i32 x])) w'
  | .next it false=>vv F it fun v=>∃ w':World,((Instr.next v false o.type).run P w=.ok (.tuple #[.bool false]) w'/\K (.v (.tuple #[.bool false])) w')∨∃(k x:Value),(Instr.next v false o.type).run P w=.ok (.tuple #[.bool true,k,x]) w'/\K (.v (.tuple #[.bool true,k,x])) w'
  | .entry it=>vv F it fun v=>wG T et fun vs=>∃ w':World,(Instr.entry v).run P w=.ok (.tuple vs.toArray) w'/\K (.v (.tuple vs.toArray)) w'
  | .binOp op t x y _=>vv F x fun a=>vv F y fun b=>jS P T o.type (do eqGuard op t x y a b;Go.binOp op t a b) w K
  | .call { callee:=.builtin .append,args,argTypes }=>xE F args.toList fun vs=>jS P T o.type (Builtin.append_ argTypes o.type vs.toArray) w K
  | .call { callee:=.builtin .copy,args,argTypes }=>xE F args.toList fun vs=>jS P T o.type (Builtin.copy_ argTypes o.type vs.toArray) w K
  | .call { callee:=.builtin .delete,args,argTypes }=>xE F args.toList fun vs=>jS P T o.type (Builtin.delete_ argTypes o.type vs.toArray) w K
  | .call { callee:=.builtin .clear,args,argTypes }=>xE F args.toList fun vs=>jS P T o.type (Builtin.clear_ argTypes o.type vs.toArray) w K
  | .call { callee:=.builtin .cap,args,argTypes }=>xE F args.toList fun vs=>jS P T o.type (Builtin.cap_ argTypes o.type vs.toArray) w K
  | .call { callee:=.value f,args,.. }=>(match ev F f with
    | .v (.func (.func g) first captured)=>bif fs.contains g then xE F args.toList fun vs =>
        Calls P g (first.toList++(vs++captured.toList)).toArray w fun e w'=>zq T o.type fun s v=>e=.returned v/\K s w'
      else xE F args.toList fun vs=>zq T o.type fun s v=>∃ w':World,(callFunc g (first.toList++(vs++captured.toList)).toArray).run P w=.ok (.value v) w'/\K s w'
    | _=>False)
  | _=>False
def C3(P:Program)(fs:List Nat):Prop:=∀ g∈fs,∀ args w,(callFunc g args).run P w=.ok (.enter g args) w
section
variable {P : Program} {T : qe} {fs et : List Nat} {F : Fr} {a : Act} {w : World} {K : SV → World → Prop}
def yV(P:Program)(o:Oper)(a:Act)(w:World)(K:SV->World->Prop):Prop :=
 o.wp P a w (fun a' w'=>∃ s v,a'=a.put o.dst v/\gp s v/\K s w') x0
theorem df{o:Oper}{S:Sem Value}(ho:(execOp a.eval o).run P w=(S.run P w).andThen fun v w'=>.ok (.value v) w')(h:∃ s v,gp s v/\∃ w',S.run P w=.ok v w'/\K s w'):yV P o a w K:=by
 obtain⟨s,v,h1,w',h2,h3⟩:=h;unfold yV Oper.wp;rw[ho,h2];exact⟨s,v,rfl,h1,h3⟩
theorem mC{o:Oper}{S:Sem Unit}(ho:(execOp a.eval o).run P w=(S.run P w).andThen fun _ w'=>.ok .skip w')(h:∃ w',S.run P w=.ok () w'/\K .un w'):yV P o a w K:=by
 obtain⟨w',h2,h3⟩:=h;unfold yV Oper.wp;rw[ho,h2];exact⟨.un,undef,rfl,trivial,h3⟩
theorem l6{ρ:Operand->Value}{o:Oper}{S:Sem Unit}(h:execOp ρ o=(do S;pure Next.skip))(w:World):(execOp ρ o).run P w=(S.run P w).andThen fun _ w'=>.ok .skip w':=by
 rw[h];simp only[Sem.run_bind];rfl
theorem kV{ad:Addr}:∀ {vs:List Value} {i:Nat} {w:World} {K:World->Prop},qv ad i vs w K->∃ w',(storeCells ad vs i).run P w=.ok () w'/\K w'
 | [],i,w,K,h=>⟨w,by simp[storeCells],h⟩
 | v ::r,i,w,K,h=>by
  unfold qv at h;cases hb:v.oneCell' with
  | false=>rw[hb]at h;exact h.elim
  | true =>
   rw[hb]at h;obtain⟨⟨u,hu⟩,hf,h⟩:=h;obtain⟨w',h1,h2⟩:=kV h;refine⟨w',?_,h2⟩;have:(store (ad.add i) v).run P w=.ok () (w.setCell (ad.add i) v):=by
    cases v <;>simp_all [store,Sem.run,Value.oneCell']
   simp only[storeCells,Sem.run_bind,this,Result.andThen_ok,h1]
theorem dR{t:Nat}{S:Sem Value}(h:jS P T t S w K):∃ s v,gp s v/\∃ w',S.run P w=.ok v w'/\K s w':=gj h
theorem j9(e:TypeId)(cs:Array Value)(w:World):(newRow e cs).run P w=.ok ⟨w.heap.size,0,none⟩ (w.alloc (.cells cs e)):=by
 rfl
theorem zK(hT:og P T)(Fh:C3 P fs)(hA:Ag F a){o:Oper}(h:fN P T fs et o F w K):yV P o a w K:=by
 obtain⟨dst,op,ty,pos,after,guard⟩:=o;have arr:∀(args:Array Operand),(List.map a.eval args.toList).toArray=args.map a.eval:=fun args=>by apply Array.toList_inj.1;simp
 cases op
 case store t x y =>
  refine mC (S:=Instr.storeAt t (a.eval x) (a.eval y)) (l6 (by simp only[execOp]) w) ?_;simp only[fN]at h;obtain⟨ad,hx,h⟩:=jC hA h;have h:=aX hA h;split at h
  ·rename_i te Ec;cases hb:Nat.beq (a.eval y).cells.size te.size with
   | false=>rw[hb]at h;exact h.elim
   | true =>
    rw[hb]at h;simp only[cond_true]at h;have hs:(a.eval y).cells.size=te.size:=Nat.eq_of_beq_eq_true hb;have base:∀ w',(storeCells ad (a.eval y).cells.toList).run P w=.ok () w'->(Instr.storeAt t (a.eval x) (a.eval y)).run P w=.ok () w':=by
     intro w' hw;simp[Instr.storeAt,hx,Instr.sureAddr,storeVar,(hT.get Ec).sizeOf w,hs,hw]
    cases hg:te.ld.agg with
    | true =>
     rw[hg]at h;obtain⟨w',h1,h2⟩:=kV (P:=P) h;exact⟨w',base w' h1,h2⟩
    | false =>
     rw[hg]at h;simp only[cond_false]at h;cases ho:(a.eval y).oneCell' with
     | false=>rw[ho]at h;exact h.elim
     | true =>
      rw[ho]at h;simp only[cond_true]at h;obtain⟨⟨u,hu⟩,hf,h⟩:=h;refine⟨_,base _ ?_,h⟩;have hc:(a.eval y).cells.toList=[a.eval y]:=by
       generalize a.eval y=v at *;cases v <;>simp_all [Value.cells,Value.oneCell']
      have h0:ad.add 0=ad:=by simp[Addr.add]
      rw[hc];have:(store (ad.add 0) (a.eval y)).run P w=.ok () (w.setCell ad (a.eval y)):=by
       rw[h0];generalize a.eval y=v at *;cases v <;>simp_all [store,Sem.run,Value.oneCell']
      simp only[storeCells,Sem.run_bind,this,Result.andThen_ok];rfl
  ·exact h.elim
 case box t x =>
  refine df (S:=Instr.box t (a.eval x)) (bI (by simp only[execOp]) w) ?_;simp only[fN]at h;have h:=aX hA h;exact⟨.v _,_,(rfl:_=_),_,by simp only[Instr.box,newVar,Sem.run_bind,j9,Result.andThen_ok];rfl,h⟩
 case alloc t =>
  refine df (S:=Instr.alloc t true (.tuple #[])) (bI (by simp only[execOp]) w) ?_;simp only[fN]at h;split at h
  ·rename_i te Ec;exact⟨.v _,_,(rfl:_=_),_,by simp only[Instr.alloc,newVar,Sem.run_bind,(hT.get Ec).zeroValue w,j9,Result.andThen_ok];rfl,h⟩
  ·exact h.elim
 case buildSlice t n parts =>
  refine df (S:=Instr.buildSlice t n (parts.map fun(i,x)=>(i,a.eval x))) (bI (by simp only[execOp]) w) ?_;simp only[fN]at h;split at h
  ·rename_i e _ _ _ _ ht;split at h
   ·rename_i te Ec;cases hb:Nat.ble (n*te.size) 16777216 with
    | false=>rw[hb]at h;exact h.elim
    | true =>
     rw[hb]at h;simp only[cond_true]at h;have h:=nB hA h;split at h
     ·rename_i cells hc;refine⟨.v _,_,(rfl:_=_),_,?_,h⟩;have DQ:¬ (n*te.size>2^24):=by
       have:=Nat.le_of_ble_eq_true hb;omega
      have hl:(parts.map fun(i,x)=>(i,a.eval x)).toList=parts.toList.map (fun p=>(p.1,a.eval p.2)):=by simp
      simp only[Instr.buildSlice,Sem.run_bind,Ty.run_und w ((hT.get ht).slice rfl),Result.andThen_ok,(hT.get Ec).sizeOf w,if_neg DQ];rw[hl];by_cases hz:n*te.size=0
      ·rw[if_pos hz];rw[pure_bind];have e0:(Array.range (n*te.size)).map ((#[]:Array Value)[· % (#[]:Array Value).size]!)=(Array.range (n*te.size)).map (te.zero.cells[· % te.zero.cells.size]!):=by
        rw[hz];simp
       rw[e0,hc];simp only[Sem.run_bind,j9,Result.andThen_ok];rfl
      ·rw[if_neg hz];simp only[Sem.run_bind,(hT.get Ec).zeroValue w,Sem.run_pure,Result.andThen_ok];rw[hc];simp only[Sem.run_bind,j9,Result.andThen_ok];rfl
     ·exact h.elim
   ·exact h.elim
  ·exact h.elim
 case makeMap t r =>
  cases r with
  | none =>
   refine df (S:=Instr.makeMap t none) (bI (by simp only[execOp,Option.map_none]) w) ?_;simp only[fN]at h;exact⟨.v _,_,(rfl:_=_),_,rfl,h⟩
  | some x =>
   refine df (S:=Instr.makeMap t (some (a.eval x))) (bI (by simp only[execOp,Option.map_some]) w) ?_;simp only[fN]at h;exact dR (aX hA h)
 case makeSlice t l c =>
  refine df (S:=Instr.makeSlice t (a.eval l) (a.eval c)) (bI (by simp only[execOp]) w) ?_;simp only[fN]at h;exact dR (aX hA (aX hA h))
 case convert src d x =>
  refine df (S:=Go.convert src d (a.eval x)) (bI (by simp only[execOp]) w) ?_;simp only[fN]at h;exact dR (aX hA h)
 case typeAssert x t u ok =>
  refine df (S:=Instr.typeAssert (a.eval x) t u ok) (bI (by simp only[execOp]) w) ?_;simp only[fN]at h;exact dR (aX hA h)
 case makeInterface t x =>
  refine df (S:=Instr.makeInterface t (a.eval x)) (bI (by simp only[execOp]) w) ?_;simp only[fN]at h;exact dR (aX hA h)
 case mapEntry t m k =>
  refine df (S:=Instr.mapEntry t (a.eval m) (a.eval k)) (bI (by simp only[execOp]) w) ?_;simp only[fN]at h;exact dR (aX hA (aX hA h))
 case mapUpdate t m k x =>
  refine mC (S:=Instr.mapUpdate t (a.eval m) (a.eval k) (a.eval x)) (l6 (by simp only[execOp]) w) ?_;simp only[fN]at h;exact aX hA (aX hA (aX hA h))
 case insert t m k x =>
  refine mC (S:=Instr.mapUpdate t (a.eval m) (a.eval k) (a.eval x)) (l6 (by simp only[execOp]) w) ?_;simp only[fN]at h;exact aX hA (aX hA (aX hA h))
 case entryStore t m s x =>
  refine mC (S:=Instr.entryStore t (a.eval m) (a.eval s) (a.eval x)) (l6 (by simp only[execOp]) w) ?_;simp only[fN]at h;exact aX hA (aX hA (aX hA h))
 case range t x =>
  refine df (S:=Instr.range t (a.eval x)) (bI (by simp only[execOp]) w) ?_;simp only[fN]at h;obtain⟨p,w',h1,h2⟩:=aX hA h;exact⟨.v _,_,(rfl:_=_),w',h1,h2⟩
 case next it s =>
  refine df (S:=Instr.next (a.eval it) s ty) (bI (by simp only[execOp]) w) ?_;cases s with
  | true =>
   simp only[fN]at h;obtain⟨w',⟨h1,h2⟩ | ⟨k,x,h1,h2⟩⟩:=aX hA h
   ·exact⟨.v _,_,(rfl:_=_),w',h1,h2⟩
   ·exact⟨.v _,_,(rfl:_=_),w',h1,h2⟩
  | false =>
   simp only[fN]at h;obtain⟨w',⟨h1,h2⟩ | ⟨k,x,h1,h2⟩⟩:=aX hA h
   ·exact⟨.v _,_,(rfl:_=_),w',h1,h2⟩
   ·exact⟨.v _,_,(rfl:_=_),w',h1,h2⟩
 case entry it =>
  refine df (S:=Instr.entry (a.eval it)) (bI (by simp only[execOp]) w) ?_;simp only[fN]at h;obtain⟨vs,w',h1,h2⟩:=nl (aX hA h);exact⟨.v _,_,(rfl:_=_),w',h1,h2⟩
 case binOp op t x y yt =>
  refine df (S:=do eqGuard op t x y (a.eval x) (a.eval y);Go.binOp op t (a.eval x) (a.eval y)) (bI (by simp only[execOp]) w) ?_;simp only[fN]at h;exact dR (aX hA (aX hA h))
 case call c =>
  obtain⟨callee,args,ts⟩:=c;cases callee with
  | invoke r m=>simp only[fN]at h
  | builtin b =>
   cases b
   case append =>
    simp only[fN]at h;have h:=d8 hA h;rw[arr]at h;exact df (S:=Builtin.append_ ts ty (args.map a.eval)) (ej (fun c=>rfl) w) (dR h)
   case copy =>
    simp only[fN]at h;have h:=d8 hA h;rw[arr]at h;exact df (S:=Builtin.copy_ ts ty (args.map a.eval)) (ej (fun c=>rfl) w) (dR h)
   case delete =>
    simp only[fN]at h;have h:=d8 hA h;rw[arr]at h;exact df (S:=Builtin.delete_ ts ty (args.map a.eval)) (ej (fun c=>rfl) w) (dR h)
   case clear =>
    simp only[fN]at h;have h:=d8 hA h;rw[arr]at h;exact df (S:=Builtin.clear_ ts ty (args.map a.eval)) (ej (fun c=>rfl) w) (dR h)
   case cap =>
    simp only[fN]at h;have h:=d8 hA h;rw[arr]at h;exact df (S:=Builtin.cap_ ts ty (args.map a.eval)) (ej (fun c=>rfl) w) (dR h)
   all_goals simp only[fN]at h
  | value f =>
   simp only[fN]at h;have hf:=hA.ev f;split at h
   ·rename_i g first captured he
    rw[he]at hf;simp only[gp]at hf;cases hg:fs.contains g with
    | false =>
     rw[hg]at h;simp only[cond_false]at h;obtain⟨s,v,h1,w',h2,h3⟩:=gj (d8 hA h);unfold yV Oper.wp;have EX:(execOp a.eval ⟨dst,.call ⟨.value f,args,ts⟩,ty,pos,after,guard⟩).run P w=.ok (.value v) w':=by
      simp only[execOp,resolve,hf,Deferred.ofValue,pure_bind,invoke];rw[← h2];congr 2;apply Array.toList_inj.1;simp
     rw[EX];exact⟨s,v,rfl,h1,h3⟩
    | true =>
     rw[hg]at h;simp only[cond_true]at h;have h:=d8 hA h;have E8:=Fh g (List.contains_iff_mem.1 hg);unfold yV Oper.wp;have EX:(execOp a.eval ⟨dst,.call ⟨.value f,args,ts⟩,ty,pos,after,guard⟩).run P w=.ok (.enter g (first.toList++(List.map a.eval args.toList++captured.toList)).toArray) w:=by
      simp only[execOp,resolve,hf,Deferred.ofValue,pure_bind,invoke];rw[E8];congr 2;apply Array.toList_inj.1;simp
     rw[EX];refine h.mono fun e w' hw=>?_;obtain⟨s,v,h1,rfl,h3⟩:=gj hw;exact⟨s,v,rfl,h1,h3⟩
   ·exact h.elim
 all_goals simp only[fN]at h
end
end Go.V
/-! The own library V, part 7: a function's whole text: what must hold for a call of it to come to an end as told. -/
namespace Go.V
structure Cx where
 P:Program
 T:qe
 fs:List Nat
 n:Nat
structure Ra where
 wr:List Nat
 ql:List Nat
 waits:eT
 et:List Nat:=[]
inductive Sk where
 | reg (a:Ra)
 | regX (a:Ra) (t:XT)
 | seq (x y:Sk)
 | cond (x y:Sk)
 | join (J:List (Nat×Sh)) (W:List Nat) (x:Sk)
 | block (x:Sk)
 | loop (J:List (Nat×Sh)) (W:List Nat) (x:Sk)
 | leaf
def zk:Option TE->Bool
 | some ⟨.int _,_,_,_,_⟩=>true
 | _=>false
def uC:Option TE->Bool
 | some ⟨.str,_,_,_,_⟩=>true
 | _=>false
def zT:Option TE->Bool
 | some ⟨.slice _,_,_,_,_⟩=>true
 | _=>false
def CG:Option TE->Bool
 | some ⟨.map _ _,_,_,_,_⟩=>true
 | _=>false
def kr(T:qe)(o:Oper):Nat :=
 match o.op with
 | .load .. | .lookup ..=>1
 | .move _ | .assign _ | .pick .. | .nilCheck _ | .binOp .. | .unOp .. | .fieldAddr .. | .field .. | .indexAddr .. | .index .. | .slice .. | .build .. | .makeFunc .. | .extract .. | .makeInterface ..=>0
 | .convert src dst _=>if zk (tf T src) && zk (tf T dst) || uC (tf T src) && uC (tf T dst) then 0 else if zT (tf T src) && uC (tf T dst) then 1 else 2
 | .call { callee:=.builtin .len,argTypes,.. }=>(match argTypes[0]? with
  | some t=>if CG (tf T t) then 1 else 0
  | none=>2)
 | .call { callee:=.builtin .max,.. } | .call { callee:=.builtin .min,.. }=>0
 | _=>2
def kinds(T:qe)(ql:List Nat)(ops:List Oper):fi:=fun i =>
 match ops[i]? with
 | some o=>let k:=kr T o;bif ql.contains i && Nat.beq k 1 then 0 else k
 | none=>2
def vA(n:Nat)(F:Fr)(dst:Option Tmp)(s:SV)(K:Fr->Prop):Prop :=
 match dst with
 | none=>K F
 | some d=>bif Nat.blt d n then K (upd F d s) else False
def inC(C:Option (World->Prop))(w:World)(φ:Prop):Prop :=
 match C with
 | none=>φ
 | some C=>C w/\φ
def gG(C:Option (World->Prop)):World->Prop :=
 match C with
 | none=>fun _=>True
 | some C=>C
def Ci(cx:Cx)(et:List Nat)(wr:Bool)(m:Nat)(C:Option (World->Prop))(o:Oper)(F:Fr)(w:World)(K:Fr->World->Prop):Prop :=
 match kr cx.T o with
 | 0=>cG cx.P cx.T wr o F fun s=>vA cx.n F o.dst s fun F'=>K F' w
 | 1=>mE cx.P cx.T o F (Dm m (gG C) w) fun s=>vA cx.n F o.dst s fun F'=>K F' w
 | _=>fN cx.P cx.T cx.fs et o F w fun s w'=>inC C w' (vA cx.n F o.dst s fun F'=>K F' w')
def qh(cx:Cx)(a:Ra)(C:Option (World->Prop))(ops:List Oper):List (Nat×Oper)->Fr->World->(Fr->World->Prop)->Prop
 | [],F,w,K=>K F w
 | (i,o) ::r,F,w,K =>
  let go (F:Fr):Prop:=Ci cx a.et (a.wr.contains i) (bif a.ql.contains i then 0 else 1) C o F w fun F' w'=>qh cx a C ops r F' w' K;let skip (F:Fr):Prop:=vA cx.n F o.dst (.v undef) fun F'=>qh cx a C ops r F' w K
  match o.guard with
  | none=>go F
  | some (j,want)=>(match (ops[j]?).bind (·.dst)with
   | none=>False
   | some t=>bif Nat.blt t cx.n then(match F t with
    | .v (.bool true)=>bif want then go F else skip F
    | .v (.bool false)=>bif want then skip F else go F
    | .v (.tuple _)=>skip F
    | .b c=>(c=true->bif want then go (upd F t (.v (.bool true))) else skip (upd F t (.v (.bool true))))/\(c=false->bif want then skip (upd F t (.v (.bool false))) else go (upd F t (.v (.bool false))))
    | .p q _=>(q->bif want then go (upd F t (.v (.bool true))) else skip (upd F t (.v (.bool true))))/\(¬ q->bif want then skip (upd F t (.v (.bool false))) else go (upd F t (.v (.bool false))))
    | _=>False) else False)
def Di(cx:Cx)(a:Ra)(ops:List Oper)(draw:Bool)(F:Fr)(w:World)(K:Fr->World->Prop):Prop :=
 bif draw then
  bif Af ops (kinds cx.T a.ql ops) a.waits then
   (match a.ql with
   | []=>qh cx a none ops (gy 0 ops) F w.drew K
   | _=>∃ C:World->Prop,C w.drew/\qh cx a (some C) ops (gy 0 ops) F w.drew K)
  else False
 else qh cx a none ops (gy 0 ops) F w K
def vxt(cx:Cx)(a:Ra)(C:Option (World->Prop))(ops:List Oper)(F:Fr)(w:World)(K:Fr->World->Prop):XT->Prop
 | .leaf L=>qh cx a C ops (pick ops L) F w K
 | .split _ _ x y=>vxt cx a C ops F w K x/\vxt cx a C ops F w K y
 | .dead _=>True
def AX(cx:Cx)(a:Ra)(t:XT)(ops:List Oper)(draw:Bool)(F:Fr)(w:World)(K:Fr->World->Prop):Prop :=
 bif draw then
  bif CF ops (kinds cx.T a.ql ops) a.waits t then
   (match a.ql with
   | []=>vxt cx a none ops F w.drew K t
   | _=>∃ C:World->Prop,C w.drew/\vxt cx a (some C) ops F w.drew K t)
  else False
 else False
section
variable {cx : Cx} {F : Fr} {a : Act} {w : World}
structure St(cx:Cx)(F:Fr)(a:Act):Prop where
 ag:Ag F a
 size:a.tmps.size=cx.n
 defers:a.defers=[]
theorem Bj(a:Act)(d:Option Tmp)(v:Value):(a.put d v).tmps.size=a.tmps.size:=by cases d <;>simp[Act.put]
theorem yF(a:Act)(d:Option Tmp)(v:Value):(a.put d v).defers=a.defers:=by cases d <;>rfl
theorem jB(hS:St cx F a){d:Option Tmp}{s:SV}{v:Value}(hs:gp s v){K:Fr->Prop}(h:vA cx.n F d s K):∃ F',St cx F' (a.put d v)/\K F':=by
 cases d with
 | none=>exact⟨F,hS,h⟩
 | some d =>
  simp only[vA]at h;cases hb:Nat.blt d cx.n with
  | false=>rw[hb]at h;exact h.elim
  | true =>
   rw[hb]at h;have hd:d<cx.n:=by simpa[Nat.blt_eq]using hb
   exact⟨_,⟨hS.ag.put hS.size hd hs,by rw[Bj];exact hS.size,by rw[yF];exact hS.defers⟩,h⟩
theorem St.known(hS:St cx F a){t:Nat}{c:Bool}(h:gp (.v (.bool c)) (a.tmps.getD t undef)):St cx (upd F t (.v (.bool c))) a:=by
 refine⟨fun u=>?_,hS.size,hS.defers⟩;unfold upd;cases hb:Nat.beq u t with
 | true =>
  have:u=t:=Nat.eq_of_beq_eq_true hb;subst this;exact h
 | false=>exact hS.ag u
theorem zI (hT:og cx.P cx.T) (Fh:C3 cx.P cx.fs) (hS:St cx F a) {et:List Nat} {wr:Bool} {m k:Nat} {C:Option (World->Prop)} {ops:Array Oper} {o:Oper} {K:Fr->World->Prop} {K':Act->World->Prop}
    (hw:Region.wanted o (yielded ops a.tmps)=true) (hk:k=kr cx.T o∨(k=0/\kr cx.T o=1/\m=0)) (hm:m=0->kr cx.T o=1->k=0)
    (hK:∀ F' a' w',St cx F' a'->K F' w'->K' a' w') (h:Ci cx et wr m C o F w K):cu cx.P ops (gG C) k o K' a w:=by
  unfold Ci at h;unfold cu;rw[if_pos hw];split at h
  · rename_i Gu;obtain rfl:k=0:=by
      rcases hk with hk | hk
      · rw[hk,Gu]
      · exact hk.1
    obtain⟨s,v,h1,h2,h3⟩:=xH hT hS.ag h;obtain⟨F',EE,FT⟩:=jB hS h1 h3;exact⟨v,fun w' _=>.inl (h2 w'),hK _ _ _ EE FT⟩
  · rename_i FF;obtain⟨s,v,h1,h2,h3⟩:=xG hT hS.ag h;obtain⟨F',EE,FT⟩:=jB hS h1 h3;rcases Nat.eq_zero_or_pos m with JG | JG
    · obtain rfl:=hm JG FF;subst JG;exact⟨v,fun w' hC=>.inl (h2 w' hC),hK _ _ _ EE FT⟩
    · obtain⟨m,rfl⟩:∃ m',m=m'+1:=⟨m-1,by omega⟩;obtain rfl:k=1:=by
        rcases hk with hk | hk
        · rw[hk,FF]
        · omega
      exact⟨v,.inl h2,hK _ _ _ EE FT⟩
  · rename_i Ij Hp;have Fy:k=kr cx.T o:=by
      rcases hk with hk | hk
      · exact hk
      · exact absurd hk.2.1 Hp
    split
    · exact absurd Fy.symm Ij
    · exact absurd Fy.symm Hp
    · refine Oper.wp_mono ?_ (zK hT Fh hS.ag h);rintro a' w' ⟨s,v,rfl,h1,h2⟩;refine⟨⟨v,rfl⟩,?_⟩;cases C with
      | none =>
        simp only[inC]at h2;obtain⟨F',EE,FT⟩:=jB hS h1 h2;exact⟨trivial,hK _ _ _ EE FT⟩
      | some C =>
        simp only[inC]at h2;obtain⟨F',EE,FT⟩:=jB hS h1 h2.2;exact⟨h2.1,hK _ _ _ EE FT⟩
theorem zU(hS:St cx F a){k:Nat}{C:Option (World->Prop)}{ops:Array Oper}{o:Oper}{K:Fr->World->Prop}{K':Act->World->Prop}
    (hw:Region.wanted o (yielded ops a.tmps)=false) (hK:∀ F' a' w',St cx F' a'->K F' w'->K' a' w') (h:vA cx.n F o.dst (.v undef) fun F'=>K F' w):cu cx.P ops (gG C) k o K' a w:=by
  unfold cu;rw[if_neg (by rw[hw];simp)];obtain⟨F',EE,FT⟩:=jB (s:=.v undef) (v:=undef) hS rfl h;exact hK _ _ _ EE FT
theorem oz (hT:og cx.P cx.T) (Fh:C3 cx.P cx.fs) {ra:Ra} {C:Option (World->Prop)} {ops:List Oper} {K:Fr->World->Prop} :
    ∀ (r:List (Nat×Oper)) (F:Fr) (a:Act) (w:World),(∀ x∈r,ops[x.1]?=some x.2)->St cx F a->qh cx ra C ops r F w K →
      eh cx.P ops.toArray (gG C) (kinds cx.T ra.ql ops) (fun a' w'=>∃ F',St cx F' a'/\K F' w') r a w
  | [],F,a,w,_,hS,h=>⟨F,hS,h⟩
  | (i, o) :: r,F,a,w,hr,hS,h=>by
    have hi:ops[i]?=some o:=hr (i,o) (by simp);have ih:∀ F' a' w',St cx F' a'->qh cx ra C ops r F' w' K->eh cx.P ops.toArray (gG C) (kinds cx.T ra.ql ops) (fun a' w'=>∃ F',St cx F' a'/\K F' w') r a' w' :=
      fun F' a' w' EE h'=>oz hT Fh r F' a' w' (fun x hx=>hr x (by simp[hx])) EE h'
    have Pc:kinds cx.T ra.ql ops i=(bif ra.ql.contains i && Nat.beq (kr cx.T o) 1 then 0 else kr cx.T o):=by
      unfold kinds;rw[hi]
    have go:∀(F:Fr),St cx F a->Region.wanted o (yielded ops.toArray a.tmps)=true →
        Ci cx ra.et (ra.wr.contains i) (bif ra.ql.contains i then 0 else 1) C o F w (fun F' w'=>qh cx ra C ops r F' w' K) →
        cu cx.P ops.toArray (gG C) (kinds cx.T ra.ql ops i) o (eh cx.P ops.toArray (gG C) (kinds cx.T ra.ql ops) (fun a' w'=>∃ F',St cx F' a'/\K F' w') r) a w:=by
      intro F hS hw h;refine zI hT Fh hS hw ?_ ?_ ih h
      · rw[Pc];cases hq:ra.ql.contains i <;>cases hk:Nat.beq (kr cx.T o) 1 <;>simp;have:=Nat.eq_of_beq_eq_true hk;omega
      · rw[Pc];intro hm FF;cases hq:ra.ql.contains i with
        | false=>rw[hq]at hm;simp at hm
        | true=>simp[FF]
    have skip:∀(F:Fr),St cx F a->Region.wanted o (yielded ops.toArray a.tmps)=false->vA cx.n F o.dst (.v undef) (fun F'=>qh cx ra C ops r F' w K) →
        cu cx.P ops.toArray (gG C) (kinds cx.T ra.ql ops i) o (eh cx.P ops.toArray (gG C) (kinds cx.T ra.ql ops) (fun a' w'=>∃ F',St cx F' a'/\K F' w') r) a w:=by
      intro F hS hw h;exact zU hS hw ih h
    simp only[qh]at h;simp only[eh];split at h
    · rename_i hg;exact go F hS (by simp[Region.wanted,hg]) h
    · rename_i j want hg;split at h
      · exact h.elim
      · rename_i t ht;have Kd:=ht;have yl:∀ c:Bool,a.tmps.getD t undef=.bool c->yielded ops.toArray a.tmps j=some c∨¬ t<cx.n:=by
          intro c hc;by_cases IG:t<cx.n
          · left;unfold yielded;have:(ops.toArray[j]?).bind (·.dst)=some t:=by simpa using ht
            rw[this];have DF:t<a.tmps.size:=by rw[hS.size];exact IG
            simp only[Option.bind_some,Array.getElem?_eq_getElem DF];simp[Array.getD,DF]at hc;rw[hc]
          · exact .inr IG
        cases hb:Nat.blt t cx.n with
        | false=>rw[hb]at h;exact h.elim
        | true =>
          rw[hb]at h;simp only[cond_true]at h;have IG:t<cx.n:=by simpa[Nat.blt_eq]using hb
          have FA:∀ c:Bool,a.tmps.getD t undef=.bool c->Region.wanted o (yielded ops.toArray a.tmps)=(c ==want):=by
            intro c hc;rcases yl c hc with h | h
            · simp[Region.wanted,hg,h]
            · exact absurd IG h
          have ht:=hS.ag t;split at h
          · rename_i he;rw[he]at ht;simp only[gp]at ht;have hw:=FA true ht;cases want with
            | true=>exact go F hS (by rw[hw];rfl) h
            | false=>exact skip F hS (by rw[hw];rfl) h
          · rename_i he;rw[he]at ht;simp only[gp]at ht;have hw:=FA false ht;cases want with
            | true=>exact skip F hS (by rw[hw];rfl) h
            | false=>exact go F hS (by rw[hw];rfl) h
          · rename_i vs he;rw[he]at ht;simp only[gp]at ht;refine skip F hS ?_ h;have:yielded ops.toArray a.tmps j=none:=by
              unfold yielded;have h2:(ops.toArray[j]?).bind (·.dst)=some t:=by simpa using Kd
              rw[h2];have DF:t<a.tmps.size:=by rw[hS.size];exact IG
              simp only[Option.bind_some,Array.getElem?_eq_getElem DF];simp[Array.getD,DF]at ht;rw[ht]
            simp[Region.wanted,hg,this]
          · rename_i c he;rw[he]at ht;simp only[gp]at ht;have hw:=FA c ht;have EE:=hS.known (t:=t) (c:=c) (by simpa[gp]using ht);cases c with
            | true =>
              have h:=h.1 rfl;cases want with
              | true=>exact go _ EE (by rw[hw];rfl) h
              | false=>exact skip _ EE (by rw[hw];rfl) h
            | false =>
              have h:=h.2 rfl;cases want with
              | true=>exact skip _ EE (by rw[hw];rfl) h
              | false=>exact go _ EE (by rw[hw];rfl) h
          · rename_i q d he;rw[he]at ht;simp only[gp]at ht;by_cases hq:q
            · have Ke:a.tmps.getD t undef=.bool true:=by rw[ht];simp[hq]
              have hw:=FA true Ke;have EE:=hS.known (t:=t) (c:=true) (by simpa[gp]using Ke);have h:=h.1 hq;cases want with
              | true=>exact go _ EE (by rw[hw];rfl) h
              | false=>exact skip _ EE (by rw[hw];rfl) h
            · have Ke:a.tmps.getD t undef=.bool false:=by rw[ht];simp[hq]
              have hw:=FA false Ke;have EE:=hS.known (t:=t) (c:=false) (by simpa[gp]using Ke);have h:=h.2 hq;cases want with
              | true=>exact skip _ EE (by rw[hw];rfl) h
              | false=>exact go _ EE (by rw[hw];rfl) h
          · exact h.elim
theorem wL(l:List Oper):∀ x∈gy 0 l,l[x.1]?=some x.2:=by
 rintro⟨i,o⟩ hx;have:=(eQ.1 hx).2;simpa using this
end
end Go.V
/-! The own library V, part 8: code, loops, functions. -/
namespace Go.V
def TF:List (Nat×Sh)->Type->Type
 | [],X=>X
 | (_,.int _) ::r,X=>Int->TF r X
 | (_,.bool) ::r,X=>Bool->TF r X
 | (_,.str) ::r,X=>ByteArray->TF r X
 | (_,.slice) ::r,X=>OA->Nat->Nat->TF r X
 | (_,.ptr) ::r,X=>OA->TF r X
 | (_,.map) ::r,X=>Option Nat->TF r X
 | (_,.any) ::r,X=>Value->TF r X
 | (_,.addr) ::r,X=>Addr->TF r X
 | (_,.cst _) ::r,X=>TF r X
def qt{X:Type}:(J:List (Nat×Sh))->TF J X->Fr->(X->Prop)->Prop
 | [],I,_,K=>K I
 | (t,.int k) ::r,I,F,K=>(match F t with
  | .v (.int k' x)=>if k=k' then qt r (I x) F K else False
  | _=>False)
 | (t,.bool) ::r,I,F,K=>(match F t with
  | .v (.bool c)=>qt r (I c) F K
  | .b c=>qt r (I c) F K
  | .p q d=>qt r (I (@decide q d)) F K
  | _=>False)
 | (t,.str) ::r,I,F,K=>(match F t with
  | .v (.string x)=>qt r (I x) F K
  | _=>False)
 | (t,.slice) ::r,I,F,K=>(match F t with
  | .v (.slice A n c)=>qt r (I A n c) F K
  | _=>False)
 | (t,.ptr) ::r,I,F,K=>(match F t with
  | .v (.pointer p)=>qt r (I p) F K
  | _=>False)
 | (t,.map) ::r,I,F,K=>(match F t with
  | .v (.map p)=>qt r (I p) F K
  | _=>False)
 | (t,.any) ::r,I,F,K=>(match F t with
  | .v x=>qt r (I x) F K
  | _=>False)
 | (t,.addr) ::r,I,F,K=>(match F t with
  | .v (.pointer (some a))=>qt r (I a) F K
  | _=>False)
 | (_,.cst _) ::_,_,_,_=>False
def pq{X:Type}:(J:List (Nat×Sh))->TF J X->Fr->(X->Fr->Prop)->Prop
 | [],I,F,K=>K I F
 | (t,.int k) ::r,I,F,K=>∀ x:Int,pq r (I x) (upd F t (.v (.int k x))) K
 | (t,.bool) ::r,I,F,K=>∀ c:Bool,pq r (I c) (upd F t (.b c)) K
 | (t,.str) ::r,I,F,K=>∀ x:ByteArray,pq r (I x) (upd F t (.v (.string x))) K
 | (t,.slice) ::r,I,F,K=>∀(A:OA)(n c:Nat),pq r (I A n c) (upd F t (.v (.slice A n c))) K
 | (t,.ptr) ::r,I,F,K=>∀ p:OA,pq r (I p) (upd F t (.v (.pointer p))) K
 | (t,.map) ::r,I,F,K=>∀ p:Option Nat,pq r (I p) (upd F t (.v (.map p))) K
 | (t,.any) ::r,I,F,K=>∀ x:Value,pq r (I x) (upd F t (.v x)) K
 | (t,.addr) ::r,I,F,K=>∀ a:Addr,pq r (I a) (upd F t (.v (.pointer (some a)))) K
 | (_,.cst _) ::r,I,F,K=>pq r I F K
def hav(F:Fr)(W:List Nat):Fr:=fun t=>bif W.contains t then .un else F t
def da:Code->List Nat->Bool
 | .region _ ops _,W=>ops.toList.all fun o=>match o.dst with
  | some d=>W.contains d
  | none=>true
 | .seq a b,W=>da a W && da b W
 | .cond _ a b,W=>da a W && da b W
 | .block _ a,W=>da a W
 | .loop a,W=>da a W
 | .skip,_ | .exit _,_ | .ret,_=>true
 | _,_=>false
def normalTo(e:Exit)(A B:Prop):Prop :=
 match e with
 | .normal=>A
 | _=>B
def XC (cx:Cx):Sk->Code->(Exit->Fr->World->Prop)->Fr->World->Prop
  | .reg ra,.region _ ops draw,Q,F,w=>Di cx ra ops.toList draw F w fun F w=>Q .normal F w
  | .regX ra t,.region _ ops draw,Q,F,w=>AX cx ra t ops.toList draw F w fun F w=>Q .normal F w
  | .seq x y,.seq c d,Q,F,w=>XC cx x c (fun e F w=>match e with
    | .normal=>XC cx y d Q F w
    | e=>Q e F w) F w
  | .cond x y,.cond c t e,Q,F,w=>(match ev F c with
    | .v (.bool true)=>XC cx x t Q F w
    | .v (.bool false)=>XC cx y e Q F w
    | .b b=>(b=true->XC cx x t Q F w)/\(b=false->XC cx y e Q F w)
    | .p q _=>(q->XC cx x t Q F w)/\(¬ q->XC cx y e Q F w)
    | _=>False)
  | .join J W x,c,Q,F,w=>bif da c W then
      ∃ I : TF J (World->Prop),
        XC cx x c (fun e F' w'=>match e with
            | .normal=>qt J I F' fun I=>I w'
            | e=>Q e F' w') F w ∧
        pq J I (hav F W) fun I F'=>∀ w',I w'->Q .normal F' w'
    else False
  | .block x,.block id c,Q,F,w=>XC cx x c (fun e F w=>match e with
    | .exit i=>bif Nat.beq i id then Q .normal F w else Q (.exit i) F w
    | e=>Q e F w) F w
  | .loop J W x,.loop c,Q,F,w=>bif da c W then
      ∃ I :Nat->TF J (World->Prop),(∃ m,qt J (I m) F fun I=>I w) ∧
        ∀ m,pq J (I m) (hav F W) fun Im F'=>∀ w',Im w'->XC cx x c (fun e F w=>match e with
          | .normal=>∃ m',m'<m/\qt J (I m') F fun I=>I w
          | e=>Q e F w) F' w'
    else False
  | .leaf,.skip,Q,F,w=>Q .normal F w
  | .leaf,.exit i,Q,F,w=>Q (.exit i) F w
  | .leaf,.ret,Q,F,w=>Q .ret F w
  | _,_,_,_,_=>False
section
variable {cx : Cx} {F : Fr} {a : Act} {w : World}
def fj(c:Code)(a a':Act):Prop:=∀(W:List Nat)(t:Nat),da c W=true->W.contains t=false->a'.tmps.getD t undef=a.tmps.getD t undef
theorem fj.refl(c:Code)(a:Act):fj c a a:=fun _ _ _ _=>rfl
theorem fj.trans{c:Code}{a a' a'':Act}(h:fj c a a')(k:fj c a' a''):fj c a a'':=fun W t h1 h2=>(k W t h1 h2).trans (h W t h1 h2)
theorem z5{a:Act}{d:Option Tmp}{v:Value}{t:Nat}(h:d≠some t):(a.put d v).tmps.getD t undef=a.tmps.getD t undef:=by
 cases d with
 | none=>rfl
 | some d =>
  have DJ:d≠t:=fun e=>h (by rw[e]);simp[Act.put,Array.getElem?_setIfInBounds_ne DJ]
theorem BB{c:Code}{W:List Nat}{F':Fr}{a':Act}(hS:St cx F a)(EE:St cx F' a')(hW:da c W=true)(h:fj c a a'):St cx (hav F W) a':=by
 refine⟨fun t=>?_,EE.size,EE.defers⟩;unfold hav;cases hc:W.contains t with
 | true=>exact trivial
 | false =>
  simp only[cond_false];rw[h W t hW hc];exact hS.ag t
theorem St.upd(hS:St cx F a){t:Nat}{s:SV}(h:gp s (a.tmps.getD t undef)):St cx (upd F t s) a:=by
 refine⟨fun u=>?_,hS.size,hS.defers⟩;unfold V.upd;cases hb:Nat.beq u t with
 | true =>
  have:u=t:=Nat.eq_of_beq_eq_true hb;subst this;exact h
 | false=>exact hS.ag u
theorem iH{X:Type}:∀ {J:List (Nat×Sh)} {I:TF J X} {F F':Fr} {K:X->Prop} {K':X->Fr->Prop},St cx F a->St cx F' a->qt J I F K->pq J I F' K'->∃(i:X)(F'':Fr),St cx F'' a/\K i/\K' i F''
 | [],I,F,F',K,K',_,h2,h3,h4=>⟨I,F',h2,h3,h4⟩
 | (t,.int k) ::r,I,F,F',K,K',h1,h2,h3,h4=>by
  have ht:=h1.ag t;simp only[qt]at h3;split at h3
  ·rename_i k' x he;rw[he]at ht;split at h3
   ·rename_i hk;subst hk;exact iH h1 (h2.upd ht) h3 (h4 x)
   ·exact h3.elim
  ·exact h3.elim
 | (t,.bool) ::r,I,F,F',K,K',h1,h2,h3,h4=>by
  have ht:=h1.ag t;simp only[qt]at h3;split at h3
  ·rename_i c he;rw[he]at ht;exact iH h1 (h2.upd (s:=.b c) ht) h3 (h4 c)
  ·rename_i c he;rw[he]at ht;exact iH h1 (h2.upd (s:=.b c) ht) h3 (h4 c)
  ·rename_i q d he;rw[he]at ht;exact iH h1 (h2.upd (s:=.b (@decide q d)) ht) h3 (h4 _)
  ·exact h3.elim
 | (t,.str) ::r,I,F,F',K,K',h1,h2,h3,h4=>by
  have ht:=h1.ag t;simp only[qt]at h3;split at h3
  ·rename_i x he;rw[he]at ht;exact iH h1 (h2.upd ht) h3 (h4 x)
  ·exact h3.elim
 | (t,.slice) ::r,I,F,F',K,K',h1,h2,h3,h4=>by
  have ht:=h1.ag t;simp only[qt]at h3;split at h3
  ·rename_i A n c he;rw[he]at ht;exact iH h1 (h2.upd ht) h3 (h4 A n c)
  ·exact h3.elim
 | (t,.ptr) ::r,I,F,F',K,K',h1,h2,h3,h4=>by
  have ht:=h1.ag t;simp only[qt]at h3;split at h3
  ·rename_i x he;rw[he]at ht;exact iH h1 (h2.upd ht) h3 (h4 x)
  ·exact h3.elim
 | (t,.map) ::r,I,F,F',K,K',h1,h2,h3,h4=>by
  have ht:=h1.ag t;simp only[qt]at h3;split at h3
  ·rename_i x he;rw[he]at ht;exact iH h1 (h2.upd ht) h3 (h4 x)
  ·exact h3.elim
 | (t,.any) ::r,I,F,F',K,K',h1,h2,h3,h4=>by
  have ht:=h1.ag t;simp only[qt]at h3;split at h3
  ·rename_i x he;rw[he]at ht;exact iH h1 (h2.upd ht) h3 (h4 x)
  ·exact h3.elim
 | (t,.addr) ::r,I,F,F',K,K',h1,h2,h3,h4=>by
  have ht:=h1.ag t;simp only[qt]at h3;split at h3
  ·rename_i x he;rw[he]at ht;exact iH h1 (h2.upd ht) h3 (h4 x)
  ·exact h3.elim
 | (_,.cst _) ::r,I,F,F',K,K',h1,h2,h3,h4=>by
  simp only[qt]at h3
theorem kQ {P:Program} {ops:Array Oper} {C:World->Prop} {kd:fi} {D:Nat->Prop} {Q:Act->World->Prop} :
    ∀ (l:List (Nat×Oper)) (a:Act) (w:World),(∀ x∈l,∀ d,x.2.dst=some d->D d)->eh P ops C kd Q l a w->eh P ops C kd (fun a' w'=>(∀ t,¬ D t->a'.tmps.getD t undef=a.tmps.getD t undef)/\Q a' w') l a w
  | [],a,w,_,h=>⟨fun _ _=>rfl,h⟩
  | (i, o) ::l,a,w,hl,h=>by
    have ho:=hl (i,o) (by simp);have ih:=fun a w (h:eh P ops C kd Q l a w)=>kQ (D:=D) (Q:=Q) l a w (fun x hx=>hl x (by simp[hx])) h;simp only[eh]at h ⊢;have key:∀ v a' w',a'=a.put o.dst v->eh P ops C kd Q l a' w'->eh P ops C kd (fun a'' w''=>(∀ t,¬ D t->a''.tmps.getD t undef=a.tmps.getD t undef)/\Q a'' w'') l a' w':=by
      rintro v a' w' rfl h;refine j6 ?_ _ _ _ (ih _ _ h);rintro a'' w'' ⟨h1,h2⟩;exact⟨fun t ht=>(h1 t ht).trans (z5 fun e=>ht (ho t e)),h2⟩
    unfold cu at h ⊢;split
    · rename_i hw;rw[if_pos hw]at h;split at h
      · obtain⟨v,h1,h2⟩:=h;exact⟨v,h1,key v _ _ rfl h2⟩
      · obtain⟨v,h1,h2⟩:=h;exact⟨v,h1,key v _ _ rfl h2⟩
      · refine Oper.wp_mono ?_ h;rintro a' w' ⟨⟨u,rfl⟩,h1,h2⟩;exact⟨⟨u,rfl⟩,h1,key u _ _ rfl h2⟩
    · rename_i hw;rw[if_neg hw]at h;exact key _ _ _ rfl h
def xw(cx:Cx)(c:Code)(a:Act)(Q:Exit->Fr->World->Prop):Exit->Act->World->Prop:=fun e a' w'=>∃ F',St cx F' a'/\fj c a a'/\Q e F' w'
theorem xF (hT:og cx.P cx.T) (Fh:C3 cx.P cx.fs) (Fg:cx.P.follows .mixedOrders=true) (hS:St cx F a) {ra:Ra} {id:Nat} {ops:List Oper} {draw:Bool} {Q:Exit->Fr->World->Prop}
    (h:Di cx ra ops draw F w fun F w=>Q .normal F w):(Code.region id ops.toArray draw).wp cx.P (xw cx (Code.region id ops.toArray draw) a Q) a w:=by
  have mono:∀ {C:Option (World->Prop)} {w:World},qh cx ra C ops (gy 0 ops) F w (fun F w=>Q .normal F w) →
      eh cx.P ops.toArray (gG C) (kinds cx.T ra.ql ops) (fun a' w'=>gG C w'->xw cx (Code.region id ops.toArray draw) a Q .normal a' w') (gy 0 ops) a w:=by
    intro C w h;have h1:=oz hT Fh _ _ _ _ (wL ops) hS h;refine j6 ?_ _ _ _ (kQ (D:=fun t=>∃ o∈ops,o.dst=some t) _ _ _ ?_ h1)
    · rintro a' w' ⟨hs,F',EE,hK⟩ _;refine⟨F',EE,fun W t hW ht=>hs t ?_,hK⟩;rintro⟨o,ho,hd⟩;simp only[da,List.all_eq_true]at hW;have:=hW o (by simpa using ho);rw[hd]at this;simp only at this;rw[ht]at this;cases this
    · rintro⟨i,o⟩ hx d hd;exact⟨o,List.mem_of_getElem? (wL ops _ hx),hd⟩
  unfold Di at h;cases draw with
  | false =>
    simp only[cond_false]at h;exact sK (C:=gG none) (kd:=kinds cx.T ra.ql ops) trivial (mono h)
  | true =>
    simp only[cond_true]at h;cases hB:Af ops (kinds cx.T ra.ql ops) ra.waits with
    | false=>rw[hB]at h;exact h.elim
    | true =>
      rw[hB]at h;simp only[cond_true]at h;split at h
      · exact mD (C:=gG none) (kd:=kinds cx.T ra.ql ops) Fg hB trivial (mono h)
      · obtain⟨C,hC,h⟩:=h;exact mD (C:=gG (some C)) (kd:=kinds cx.T ra.ql ops) Fg hB hC (mono h)
theorem vy (hT:og cx.P cx.T) (Fh:C3 cx.P cx.fs) (Fg:cx.P.follows .mixedOrders=true) (hS:St cx F a) {ra:Ra} {t:XT} {id:Nat} {ops:List Oper} {draw:Bool} {Q:Exit->Fr->World->Prop}
    (h:AX cx ra t ops draw F w fun F w=>Q .normal F w):(Code.region id ops.toArray draw).wp cx.P (xw cx (Code.region id ops.toArray draw) a Q) a w:=by
  have mono:∀ {C:Option (World->Prop)} {w:World} (t:XT),vxt cx ra C ops F w (fun F w=>Q .normal F w) t →
      wpX cx.P ops (gG C) (kinds cx.T ra.ql ops) (fun a' w'=>gG C w'->xw cx (Code.region id ops.toArray draw) a Q .normal a' w') a w t:=by
    intro C w t
    induction t with
    | leaf L =>
      intro h;have h1:=oz hT Fh _ _ _ _ (fun x hx=>(nN.1 (show(x.1,x.2)∈pick ops L from hx)).2) hS h;refine j6 ?_ _ _ _ (kQ (D:=fun t=>∃ o∈ops,o.dst=some t) _ _ _ ?_ h1)
      · rintro a' w' ⟨hs,F',EE,hK⟩ _;refine⟨F',EE,fun W t hW ht=>hs t ?_,hK⟩;rintro⟨o,ho,hd⟩;simp only[da,List.all_eq_true]at hW;have:=hW o (by simpa using ho);rw[hd]at this;simp only at this;rw[ht]at this;cases this
      · rintro⟨i,o⟩ hx d hd;exact⟨o,List.mem_of_getElem? (nN.1 hx).2,hd⟩
    | split p q x y ihx ihy=>exact fun h=>⟨ihx h.1,ihy h.2⟩
    | dead L=>exact fun _=>trivial
  unfold AX at h;cases draw with
  | false=>exact h.elim
  | true =>
    simp only[cond_true]at h;cases hB:CF ops (kinds cx.T ra.ql ops) ra.waits t with
    | false=>rw[hB]at h;exact h.elim
    | true =>
      rw[hB]at h;simp only[cond_true]at h;split at h
      · exact pw (C:=gG none) (kd:=kinds cx.T ra.ql ops) Fg hB trivial (mono t h)
      · obtain⟨C,hC,h⟩:=h;exact pw (C:=gG (some C)) (kd:=kinds cx.T ra.ql ops) Fg hB hC (mono t h)
theorem yb {P:Program} {c:Code} {Q:Exit->Act->World->Prop} (I:Nat->Act->World->Prop) {m:Nat} {a:Act} {w:World} (h₀:I m a w)
    (round:∀ m a w,I m a w->c.wp P (Exit.then (fun a' w'=>∃ m',m'<m/\I m' a' w') Q) a w):(Code.loop c).wp P Q a w:=by
  intro b k cs;have key:∀ n a w,I n a w->∃ e a' w',Q e a' w'/\Arrives P (lone (b.at a (.code c ::.inLoop c ::k)) cs w) b k cs e a' w':=by
    intro n
    induction n using Nat.strongRecOn with
    | _ n ih =>
      intro a w hI;obtain⟨e,a₁,w₁,hq,FK⟩:=round n a w hI b (.inLoop c ::k) cs;cases e with
      | normal =>
        obtain⟨m',DF,Ss⟩:=hq;obtain⟨e₂,a₂,w₂,QJ,Lo⟩:=ih m' DF a₁ w₁ Ss;exact⟨e₂,a₂,w₂,QJ,.of_steps (Steps.trans FK (.one step_inLoop)) Lo⟩
      | exit id=>exact⟨_,a₁,w₁,hq,.pass (x:=.inLoop c) rfl (fun _ _=>.inl (by simp)) FK⟩
      | goto l=>exact⟨_,a₁,w₁,hq,.pass (x:=.inLoop c) rfl (fun _ _=>.inl (by simp)) FK⟩
      | ret=>exact⟨_,a₁,w₁,hq,.pass (x:=.inLoop c) rfl (fun _ _=>.inl (by simp)) FK⟩
      | panic ch=>exact⟨_,a₁,w₁,hq,.pass (x:=.inLoop c) rfl (fun _ _=>.inl (by simp)) FK⟩
      | outgrown=>exact⟨_,a₁,w₁,hq,.pass (x:=.inLoop c) rfl (fun _ _=>.inl (by simp)) FK⟩
  obtain⟨e,a',w',hq,FK⟩:=key _ a w h₀;exact⟨e,a',w',hq,.of_steps (.one step_loop) FK⟩
theorem vJ{c d:Code}{a a':Act}(h:fj c a a'):fj (.seq c d) a a':=fun W t hW ht=>h W t (by simp only[da,Bool.and_eq_true]at hW;exact hW.1) ht
theorem zV{c d:Code}{a a':Act}(h:fj d a a'):fj (.seq c d) a a':=fun W t hW ht=>h W t (by simp only[da,Bool.and_eq_true]at hW;exact hW.2) ht
theorem AE{x:Operand}{c d:Code}{a a':Act}(h:fj c a a'):fj (.cond x c d) a a':=fun W t hW ht=>h W t (by simp only[da,Bool.and_eq_true]at hW;exact hW.1) ht
theorem yH{x:Operand}{c d:Code}{a a':Act}(h:fj d a a'):fj (.cond x c d) a a':=fun W t hW ht=>h W t (by simp only[da,Bool.and_eq_true]at hW;exact hW.2) ht
theorem Aj{c:Code}{J:List (Nat×Sh)}{W:List Nat}{I:TF J (World->Prop)}{Q:Exit->Fr->World->Prop}{F':Fr}{a':Act}{w':World}(hS:St cx F a)(hW:da c W=true)
    (DN:pq J I (hav F W) fun I F'=>∀ w',I w'->Q .normal F' w') (EE:St cx F' a') (hk:fj c a a') (h:qt J I F' fun I=>I w'):xw cx c a Q .normal a' w':=by
  obtain⟨i,F'',h1,h2,h3⟩:=iH EE (BB hS EE hW hk) h DN;exact⟨F'',h1,hk,h3 w' h2⟩
theorem C2 (hT:og cx.P cx.T) (Fh:C3 cx.P cx.fs) (Fg:cx.P.follows .mixedOrders=true):∀(sk:Sk)(c:Code)(Q:Exit->Fr->World->Prop)(F:Fr)(a:Act)(w:World),
    St cx F a->XC cx sk c Q F w->c.wp cx.P (xw cx c a Q) a w:=by
  intro sk
  induction sk with
  | reg ra =>
    intro c Q F a w hS h;cases c with
    | region id ops draw =>
      simp only[XC]at h;have e:ops=ops.toList.toArray:=by simp
      rw[e];exact xF hT Fh Fg hS h
    | _=>simp only[XC]at h
  | regX ra t =>
    intro c Q F a w hS h;cases c with
    | region id ops draw =>
      simp only[XC]at h;have e:ops=ops.toList.toArray:=by simp
      rw[e];exact vy hT Fh Fg hS h
    | _=>simp only[XC]at h
  | seq x y ihx ihy =>
    intro c Q F a w hS h;cases c with
    | seq c d =>
      simp only[XC]at h;refine wp_seq (wp_mono (ihx c _ F a w hS h) ?_);intro e a' w' hp;obtain⟨F',h1,h2,h3⟩:=hp;cases e with
      | normal =>
        refine wp_mono (ihy d Q F' a' w' h1 h3) ?_;rintro e a'' w'' ⟨F'',h4,h5,h6⟩;exact⟨F'',h4,(vJ h2).trans (zV h5),h6⟩
      | _=>exact⟨F',h1,vJ h2,h3⟩
    | _=>simp only[XC]at h
  | cond x y ihx ihy =>
    intro c Q F a w hS h;cases c with
    | cond c t e =>
      have left:XC cx x t Q F w->t.wp cx.P (xw cx (.cond c t e) a Q) a w:=fun h=>wp_mono (ihx t Q F a w hS h) fun e a' w' ⟨F',h1,h2,h3⟩=>⟨F',h1,AE h2,h3⟩;have right:XC cx y e Q F w->e.wp cx.P (xw cx (.cond c t e) a Q) a w:=fun h=>wp_mono (ihy e Q F a w hS h) fun e a' w' ⟨F',h1,h2,h3⟩=>⟨F',h1,yH h2,h3⟩;simp only[XC]at h;have hc:=hS.ag.ev c;split at h
      · rename_i hv;rw[hv]at hc;exact wp_cond_true hc (left h)
      · rename_i hv;rw[hv]at hc;exact wp_cond_false hc (right h)
      · rename_i b hv;rw[hv]at hc;cases b with
        | true=>exact wp_cond_true hc (left (h.1 rfl))
        | false=>exact wp_cond_false hc (right (h.2 rfl))
      · rename_i q d hv;rw[hv]at hc;by_cases hq:q
        · exact wp_cond_true (by rw[hc];simp[hq]) (left (h.1 hq))
        · exact wp_cond_false (by rw[hc];simp[hq]) (right (h.2 hq))
      · exact h.elim
    | _=>simp only[XC]at h
  | join J W x ih =>
    intro c Q F a w hS h;have h:XC cx (.join J W x) c Q F w:=h;simp only[XC]at h;cases hb:da c W with
    | false=>rw[hb]at h;exact h.elim
    | true =>
      rw[hb]at h;obtain⟨I,h,DN⟩:=h;refine wp_mono (ih c _ F a w hS h) ?_;rintro ex a' w' ⟨F',h1,h2,h3⟩;cases ex with
      | normal=>exact Aj hS hb DN h1 h2 h3
      | _=>exact⟨F',h1,h2,h3⟩
  | block x ih =>
    intro c Q F a w hS h;cases c with
    | block id c =>
      simp only[XC]at h;refine wp_block (wp_mono (ih c _ F a w hS h) ?_);rintro e a' w' ⟨F',h1,h2,h3⟩;cases e with
      | exit i =>
        simp only at h3;cases hb:Nat.beq i id with
        | true =>
          rw[hb]at h3;have:=Nat.eq_of_beq_eq_true hb;simp only[Exit.inBlock,this,if_true];exact⟨F',h1,h2,h3⟩
        | false =>
          rw[hb]at h3;have:i≠id:=fun e=>by subst e;simp at hb
          simp only[Exit.inBlock,this,if_false];exact⟨F',h1,h2,h3⟩
      | _=>exact⟨F',h1,h2,h3⟩
    | _=>simp only[XC]at h
  | loop J W x ih =>
    intro c Q F a w hS h;cases c with
    | loop c =>
      simp only[XC]at h;cases hb:da c W with
      | false=>rw[hb]at h;exact h.elim
      | true =>
        rw[hb]at h;obtain⟨I,⟨m,h0⟩,DN⟩:=h;refine yb (fun m a' w'=>∃ F',St cx F' a'/\fj c a a'/\qt J (I m) F' fun I=>I w') (m:=m) ⟨F,hS,fj.refl _ _,h0⟩ ?_;rintro m a' w' ⟨F',h1,h2,h3⟩;obtain⟨i,F'',h4,h5,h6⟩:=iH h1 (BB hS h1 hb h2) h3 (DN m);refine wp_mono (ih c _ F'' a' w' h4 (h6 w' h5)) ?_;rintro e a'' w'' ⟨G,h7,h8,h9⟩;cases e with
        | normal =>
          obtain⟨m',DF,h9⟩:=h9;exact⟨m',DF,G,h7,h2.trans h8,h9⟩
        | _=>exact⟨G,h7,h2.trans h8,h9⟩
    | _=>simp only[XC]at h
  | leaf =>
    intro c Q F a w hS h;cases c with
    | skip=>exact wp_skip ⟨F,hS,fj.refl _ _,h⟩
    | exit i=>exact wp_exit ⟨F,hS,fj.refl _ _,h⟩
    | ret=>exact wp_ret ⟨F,hS,fj.refl _ _,h⟩
    | _=>simp only[XC]at h
end
/-! ### Functions -/
def vx(T:qe)(F:Fr)(w:World):List ResultVar->(List Value->Prop)->Prop
 | [],K=>K []
 | .tmp t ::r,K=>vv F (.tmp t) fun v=>vx T F w r fun vs=>K (v ::vs)
 | .cell t ty ::r,K=>xI F (.tmp t) fun a=>(match tf T ty with
  | some te=>bif te.ld.agg then(bif Nat.beq te.shs.length te.size then vg (fun φ=>φ w) a 0 te.shs fun cs=>vx T F w r fun vs=>K (.agg cs.toArray ::vs) else False)
   else yy (te.shs.headD .any) fun _ v=>w.cell? a=some v/\vx T F w r fun vs=>K (v ::vs)
  | none=>False)
def y9(vs:List Value):Value :=
 match vs with
 | [v]=>v
 | vs=>.tuple vs.toArray
def F0(args:List Value):Fr:=fun t=>match args[t]? with
 | some v=>mk v
 | none=>.un
def XF(cx:Cx)(fn:Func)(sk:Sk)(args:List Value)(w:World)(R:Ending->World->Prop):Prop :=
 match fn.body with
 | some c=>bif Nat.beq fn.ntmps cx.n && Nat.ble args.length cx.n then XC cx sk c (fun e F w=>match e with
  | .normal | .ret=>vx cx.T F w fn.results.toList fun vs=>R (.returned (y9 vs)) w
  | _=>False) (F0 args) w else False
 | none=>False
def qW(tmps:Array Value):ResultVar->Sem Value
 | .tmp t=>pure (tmps.getD t undef)
 | .cell a t=>do loadVar t (← asAddr (tmps.getD a undef))
theorem xQ(fn:Func)(tmps:Array Value):results fn tmps=(do let vs ← fn.results.mapM (qW tmps);pure (if h:vs.size=1 then vs[0] else .tuple vs)):=by
 unfold results;congr 2
theorem ow {cx:Cx} (hT:og cx.P cx.T) {F:Fr} {a:Act} {w:World} (hS:St cx F a):∀ {rs:List ResultVar} {K:List Value->Prop},vx cx.T F w rs K →
    ∃ vs,(rs.mapM (qW a.tmps)).run cx.P w=.ok vs w/\K vs
  | [],K,h=>⟨[],by simp,h⟩
  | .tmp t ::r,K,h=>by
    have h:=aX hS.ag (x:=.tmp t) h;obtain⟨vs,h1,h2⟩:=ow hT hS h;refine⟨_,?_,h2⟩;simp only[List.mapM_cons,qW,Sem.run_bind,Sem.run_pure,Result.andThen_ok,h1];rfl
  | .cell t ty ::r,K,h=>by
    simp only[vx]at h;obtain⟨ad,hx,h⟩:=jC hS.ag h;have hx:a.tmps.getD t undef=.pointer (some ad):=hx;split at h
    · rename_i te Ec;have hl:∃ v,(loadVar ty ad).run cx.P w=.ok v w/\vx cx.T F w r fun vs=>K (v ::vs):=by
        cases hb:te.ld.agg with
        | true =>
          rw[hb]at h;simp only[cond_true]at h;cases hl:Nat.beq te.shs.length te.size with
          | false=>rw[hl]at h;exact h.elim
          | true =>
            rw[hl]at h;simp only[cond_true]at h;obtain⟨vs,DH,hD,hK⟩:=lI (D:=fun φ=>φ w) (fun _ _ h k=>⟨h,k⟩) (fun _ _ h k=>h w k) (fun _ h=>h w) h;refine⟨_,?_,hK⟩;have hs:te.size=vs.length:=by rw[DH];exact(Nat.eq_of_beq_eq_true hl).symm
            simp only[loadVar,Sem.run_bind,(hT.get Ec).isAgg w,Result.andThen_ok,hb,if_true,(hT.get Ec).sizeOf w,loadCells,hs];rw[fZ vs 0 #[] hD];simp
        | false =>
          rw[hb]at h;simp only[cond_false]at h;obtain⟨s,v,h1,h2,h3⟩:=jV h;refine⟨v,?_,h3⟩;simp[loadVar,(hT.get Ec).isAgg w,hb,load,Sem.run,h2]
      obtain⟨v,hv,h⟩:=hl;obtain⟨vs,h1,h2⟩:=ow hT hS h;refine⟨_,?_,h2⟩;simp only[List.mapM_cons,qW,Sem.run_bind,hx,asAddr,Sem.run_pure,Result.andThen_ok,hv,h1]
    · exact h.elim
theorem di {cx:Cx} {f:FuncId} {fn:Func} {sk:Sk} {args:List Value} {w:World} {R:Ending->World->Prop} (hT:og cx.P cx.T) (Fh:C3 cx.P cx.fs) (Fg:cx.P.follows .mixedOrders=true)
    (hf:cx.P.funcs[f]?=some fn) (h:XF cx fn sk args w R):Calls cx.P f args.toArray w R:=by
  unfold XF at h;split at h
  · rename_i c hc;cases hb:Nat.beq fn.ntmps cx.n && Nat.ble args.length cx.n with
    | false=>rw[hb]at h;exact h.elim
    | true =>
      rw[hb]at h;simp only[cond_true]at h;simp only[Bool.and_eq_true]at hb;have hn:fn.ntmps=cx.n:=Nat.eq_of_beq_eq_true hb.1;have hl:args.length<=cx.n:=Nat.le_of_ble_eq_true hb.2;refine calls_of_wp hf hc ?_;have hS:St cx (F0 args) { tmps:=args.toArray++Array.replicate (fn.ntmps-args.toArray.size) undef,defers:=[] }:=by
        refine⟨fun t=>?_,by simp;omega,rfl⟩;unfold F0;split
        · rename_i v hv;have DF:=(List.getElem?_eq_some_iff.1 hv).1;have:(args.toArray++Array.replicate (fn.ntmps-args.toArray.size) undef).getD t undef=v:=by
            rw[Array.getD_eq_getD_getElem?,Array.getElem?_append_left (by simpa using DF)];simp[hv]
          rw[this];exact gp.mk v
        · exact trivial
      refine wp_mono (C2 hT Fh Fg sk c _ _ _ w hS h) ?_;rintro e a' w' ⟨F',h1,_,h2⟩;have fin:(vx cx.T F' w' fn.results.toList fun vs=>R (.returned (y9 vs)) w')->a'.defers=[]/\∃ v,(results fn a'.tmps).run cx.P w'=.ok v w'/\R (.returned v) w':=by
        intro h2;obtain⟨vs,h3,h4⟩:=ow hT h1 h2;refine⟨h1.defers,y9 vs,?_,h4⟩;rw[xQ,Sem.run_bind];have:(fn.results.mapM (qW a'.tmps)).run cx.P w'=.ok vs.toArray w':=by
          rw[Array.mapM_eq_mapM_toList,Sem.run_map,h3];rfl
        rw[this];simp only[Result.andThen_ok,Sem.run_pure]
        match vs with
        | []=>rfl
        | [v]=>rfl
        | _ ::_ ::_=>simp[y9]
      cases e with
      | normal=>exact fin h2
      | ret=>exact fin h2
      | _=>exact h2.elim
  · exact h.elim
theorem fOkM {P : Program} {fs : List Nat} (h : (fs.all fun g => match P.funcs[g]? with | some fn => !(fn.name == "runtime.NumGoroutine") && !fn.body.isNone | none => false) = true) : C3 P fs := by
 intro g hg args w;have h1:=List.all_eq_true.1 h g hg;cases hf:P.funcs[g]? with
 | none=>simp[hf]at h1
 | some fn =>
  simp only[hf,Bool.and_eq_true,Bool.not_eq_true']at h1;have e1 : ¬ fn.name = "runtime.NumGoroutine" := by simpa using h1.1
  have e2:¬ fn.body=none:=by intro e;rw[e]at h1;simp at h1
  simp[callFunc,program,Sem.run,hf,e1,e2]
theorem tOkM{P:Program}{T:qe}(h:T.map (fun e=>((P.info? e.1).map (fun i=>(i.size,i.bytes,i.zero)),(P.underlying e.1).map rp))=T.map (fun e=>(some (e.2.size,e.2.bytes,some e.2.zero),some e.2.ld))):og P T:=fun e he=>by
 have:=List.map_inj_left.1 h e he;exact⟨congrArg Prod.fst this,congrArg Prod.snd this⟩
end Go.V
