/- Own texts, packed: V1, VX, V2, V3, V4, V5, V6, V7, V8. -/
import Derived.WalkKit
import Derived.Still
import Derived.Laws.World
import Derived.Laws.NewBlocks
import Derived.Laws.Rows
import Derived.Deep.LoopGhost
/-! The own library V, part 1: a region that draws its order is walked in the order of the text, whatever its operations are: operations that leave the world alone commute with all others, operations that act are kept in one order. -/
namespace Go.V
abbrev OA:=Option Addr
abbrev dU:=Nat->Nat
def dA(P:Program)(o:Oper)(a:Act)(w:World)(v:Value):Prop :=
 (execOp a.eval o).run P w=.ok (.value v) w∨((execOp a.eval o).run P w=.ok .skip w/\v=undef)
theorem dA.unique{P:Program}{o:Oper}{a:Act}{w:World}{v u:Value}(h:dA P o a w v)(k:dA P o a w u):v=u:=by
 rcases h with h | ⟨h,rfl⟩ <;>rcases k with k | ⟨k,rfl⟩ <;>rw[h]at k <;>simp at k <;>first | exact k | rfl
def yW:Exit->Act->World->Prop:=fun _ _ _=>False
def aU(P:Program)(ops:Array Oper)(C:World->Prop)(kd:Nat)(o:Oper)(K:Act->World->Prop)(a:Act)(w:World):Prop :=
 if Region.wanted o (yielded ops a.tmps) then
  match kd with
  | 0=>∃ v,(∀ w',C w'->dA P o a w' v)/\K (a.put o.dst v) w
  | 1=>∃ v,dA P o a w v/\K (a.put o.dst v) w
  | _=>o.wp P a w (fun a' w'=>(∃ u,a'=a.put o.dst u)/\C w'/\K a' w') yW
 else K (a.put o.dst undef) w
def dB(P:Program)(ops:Array Oper)(C:World->Prop)(kd:dU)(Q:Act->World->Prop):List (Nat×Oper)->Act->World->Prop
 | [],a,w=>Q a w
 | (i,o) ::rest,a,w=>aU P ops C (kd i) o (dB P ops C kd Q rest) a w
section
variable {P : Program} {ops : Array Oper} {C : World → Prop} {K K' : Act → World → Prop} {a : Act} {w : World}
theorem tG{k:Nat}{o:Oper}(h:∀ a w,K a w->K' a w)(hh:aU P ops C k o K a w):aU P ops C k o K' a w:=by
 unfold aU at *;split
 ·rename_i hw;simp only[hw,if_true]at hh;split at hh
  ·obtain⟨v,h1,h2⟩:=hh;exact⟨v,h1,h _ _ h2⟩
  ·obtain⟨v,h1,h2⟩:=hh;exact⟨v,h1,h _ _ h2⟩
  ·exact Oper.wp_mono (fun a w ⟨h1,h2,h3⟩=>⟨h1,h2,h _ _ h3⟩) hh
 ·rename_i hw;simp only[hw]at hh;exact h _ _ hh
theorem qL{k:Nat}{o:Oper}(hC:C w)(h:∀ a w,C w->K a w->K' a w)(hh:aU P ops C k o K a w):aU P ops C k o K' a w:=by
 unfold aU at *;split
 ·rename_i hw;simp only[hw,if_true]at hh;split at hh
  ·obtain⟨v,h1,h2⟩:=hh;exact⟨v,h1,h _ _ hC h2⟩
  ·obtain⟨v,h1,h2⟩:=hh;exact⟨v,h1,h _ _ hC h2⟩
  ·exact Oper.wp_mono (fun a w ⟨h1,h2,h3⟩=>⟨h1,h2,h _ _ h2 h3⟩) hh
 ·rename_i hw;simp only[hw]at hh;exact h _ _ hC hh
theorem iQ{kd:dU}{Q Q':Act->World->Prop}(hQ:∀ a w,Q a w->Q' a w):∀ (l:List (Nat×Oper)) (a:Act) (w:World),dB P ops C kd Q l a w->dB P ops C kd Q' l a w
 | [],_,_,h=>hQ _ _ h
 | (_,_) ::l,_,_,h=>tG (fun a w=>iQ hQ l a w) h
theorem Ah{f:FuncId}{args:Array Value}{R:Ending->World->Prop}(h:Calls P f args w R):∃ e w',R e w':=by
 obtain⟨e,w',_,h,_⟩:=h [];exact⟨e,w',h⟩
theorem CA{o:Oper}(h:o.wp P a w K yW):∃ a' w',K a' w':=by
 unfold Oper.wp at h;generalize (execOp a.eval o).run P w=r at *;cases r with
 | ok n w' =>
  cases n <;>simp only[Oper.upon]at h
  case value v=>exact⟨_,_,h⟩
  case skip=>exact⟨_,_,h⟩
  case defer d=>exact⟨_,_,h⟩
  case enter f args =>
   obtain⟨e,w'',h⟩:=Ah h;cases e with
   | returned v=>exact⟨_,_,h⟩
   | panicked c=>exact h.elim
   | outgrown=>obtain⟨_,_,h⟩:=h;exact h.elim
  case row s args =>
   obtain⟨v,w'',h,_⟩:=h default [];exact⟨_,_,h⟩
 | halt x w'=>cases x <;>simp only[Oper.upon]at h;exact h.elim
theorem Dn{o:Oper}{d:Option Tmp}{v:Value}(hs:∀ cs b,o.op≠.select cs b)(h1:∀ t,d=some t->t ∉ o.looksAt ops)(h2:∀ t,d=some t->o.dst≠some t)
    (h:o.wp P (a.put d v) w (fun a' w'=>(∃ u,a'=(a.put d v).put o.dst u)/\K a' w') yW) :
    o.wp P a w (fun a' w'=>(∃ u,a'=a.put o.dst u)/\K (a'.put d v) w') yW:=by
  unfold Oper.wp at *;rw[execOp_put (ops:=ops) o hs a d v h1]at h;generalize (execOp a.eval o).run P w=r at *;have key:∀ u w',(∃ u',(a.put d v).put o.dst u=(a.put d v).put o.dst u')/\K ((a.put d v).put o.dst u) w'->(∃ u',a.put o.dst u=a.put o.dst u')/\K ((a.put o.dst u).put d v) w':=by
    rintro u w' ⟨_,hk⟩;rw[Act.put_comm a v u h2]at hk;exact⟨⟨u,rfl⟩,hk⟩
  cases r with
  | ok n w' =>
    cases n <;>simp only[Oper.upon]at h ⊢
    case value u=>exact key _ _ h
    case skip=>exact key _ _ h
    case defer dd =>
      obtain⟨⟨u,hu⟩,hk⟩:=h;exfalso;have:dd ::(a.put d v).defers=((a.put d v).put o.dst u).defers:=by rw[← hu];cases o.dst <;>rfl
      have e:((a.put d v).put o.dst u).defers=(a.put d v).defers:=by cases o.dst <;>rfl
      rw[e]at this;exact absurd this (by simp)
    case enter f args =>
      refine h.mono ?_;intro e w'' he;cases e with
      | returned u=>exact key _ _ he
      | panicked c=>exact he
      | outgrown=>exact he
    case row s args=>exact h.mono fun u w'' he=>key _ _ he
  | halt x w'=>cases x <;>simp only[Oper.upon]at h ⊢;exact h
theorem dA.of_put{o:Oper}{d:Option Tmp}{v u:Value}{w:World}(hs:∀ cs b,o.op≠.select cs b)(h1:∀ t,d=some t->t ∉ o.looksAt ops):dA P o (a.put d v) w u↔dA P o a w u:=by
 unfold dA;rw[execOp_put (ops:=ops) o hs a d v h1]
def jX(x y:Nat):Bool:=x ==0 || y ==0 || (x ==1 && y ==1)
theorem dZ{k:Nat}{o:Oper}(hk:k=0∨k=1)(h:aU P ops C k o K a w):
    ∃ v,((Region.wanted o (yielded ops a.tmps)=true/\(if k=0 then ∀ w',C w'->dA P o a w' v else dA P o a w v))∨(Region.wanted o (yielded ops a.tmps)=false/\v=undef))/\K (a.put o.dst v) w:=by
  unfold aU at h;by_cases hw:Region.wanted o (yielded ops a.tmps)=true
  · simp only[hw,if_true]at h;rcases hk with rfl | rfl
    · obtain⟨v,h1,h2⟩:=h;exact⟨v,.inl ⟨hw,by simpa using h1⟩,h2⟩
    · obtain⟨v,h1,h2⟩:=h;exact⟨v,.inl ⟨hw,by simpa using h1⟩,h2⟩
  · simp only[hw]at h;exact⟨undef,.inr ⟨by simpa using hw,rfl⟩,h⟩
theorem cG{k:Nat}{o:Oper}(hk:k=0∨k=1){v:Value}
    (h:(Region.wanted o (yielded ops a.tmps)=true/\(if k=0 then ∀ w',C w'->dA P o a w' v else dA P o a w v))∨(Region.wanted o (yielded ops a.tmps)=false/\v=undef)) (hK:K (a.put o.dst v) w) :
    aU P ops C k o K a w:=by
  unfold aU;rcases h with⟨hw,h⟩ | ⟨hw,rfl⟩
  · simp only[hw,if_true];rcases hk with rfl | rfl
    · exact⟨v,by simpa using h,hK⟩
    · exact⟨v,by simpa using h,hK⟩
  · simp only[hw];exact hK
theorem gJ{k:Nat}{o:Oper}(hk:¬ (k=0∨k=1)):aU P ops C k o K a w =
    (if Region.wanted o (yielded ops a.tmps) then o.wp P a w (fun a' w'=>(∃ u,a'=a.put o.dst u)/\C w'/\K a' w') yW else K (a.put o.dst undef) w):=by
  unfold aU;split
  · split
    · omega
    · omega
    · rfl
  · rfl
theorem CG {i j:Nat} {oi oj:Oper} (hC:C w) (La:oi.apart ops oj=true) (hc:jX i j=true)
    (Hl:∀ cs b,oi.op≠.select cs b) (Ft:∀ cs b,oj.op≠.select cs b)
    (h:aU P ops C i oi (aU P ops C j oj K) a w):aU P ops C j oj (aU P ops C i oi K) a w:=by
  obtain⟨h1,h2,h3⟩:=Oper.apart_spec La;have h4:∀ d,oj.dst=some d->oi.dst≠some d:=fun d hd he=>h2 d he hd;have wi:∀ v,Region.wanted oi (yielded ops (a.put oj.dst v).tmps)=Region.wanted oi (yielded ops a.tmps):=fun v=>wanted_put oi a oj.dst v h3;have wj:∀ v,Region.wanted oj (yielded ops (a.put oi.dst v).tmps)=Region.wanted oj (yielded ops a.tmps):=fun v=>wanted_put oj a oi.dst v h1;by_cases qi:i=0∨i=1
  · obtain⟨v,hv,hn⟩:=dZ qi h;clear h;by_cases qj:j=0∨j=1
    · obtain⟨u,hu,hn⟩:=dZ qj hn;refine cG (v:=u) qj ?_ (cG (v:=v) qi ?_ ?_)
      · simp only[wj,dA.of_put (ops:=ops) Ft h1]at hu;exact hu
      · simp only[wi,dA.of_put (ops:=ops) Hl h3];exact hv
      · rw[Act.put_comm a u v h4];exact hn
    · -- i quiet, j acts: then i is of kind 0
      have KJ:i=0:=by
        simp only[jX,Bool.or_eq_true,Bool.and_eq_true,beq_iff_eq]at hc;omega
      subst KJ;rw[gJ qj]at hn ⊢;rw[wj]at hn;by_cases hw:Region.wanted oj (yielded ops a.tmps)=true
      · rw[if_pos hw]at hn ⊢;have h':=Dn (ops:=ops) (K:=fun a' w'=>C w'/\K a' w') Ft h1 h2 hn;refine Oper.wp_mono ?_ h';rintro a' w' ⟨⟨u,rfl⟩,Ha,hK⟩;refine⟨⟨u,rfl⟩,Ha,cG (.inl rfl) (v:=v) ?_ hK⟩;simp only[wi,dA.of_put (ops:=ops) Hl h3];simpa using hv
      · rw[if_neg hw]at hn ⊢;refine cG (.inl rfl) (v:=v) ?_ ?_
        · simp only[wi,dA.of_put (ops:=ops) Hl h3];exact hv
        · rw[Act.put_comm a undef v h4];exact hn
  · -- i acts: j is of kind 0
    have KI:j=0:=by
      simp only[jX,Bool.or_eq_true,Bool.and_eq_true,beq_iff_eq]at hc;omega
    subst KI;rw[gJ qi]at h;by_cases hw:Region.wanted oi (yielded ops a.tmps)=true
    · rw[if_pos hw]at h;have hx:=h;clear h;obtain⟨a',w',⟨u,rfl⟩,Ha,hq⟩:=CA hx;obtain⟨v,hv,_⟩:=dZ (.inl rfl) hq;simp only[wj,dA.of_put (ops:=ops) Ft h1,if_true]at hv;refine cG (.inl rfl) (v:=v) (by simpa using hv) ?_;rw[gJ qi,wi,if_pos hw];unfold Oper.wp at hx ⊢;rw[execOp_put (ops:=ops) oi Hl a oj.dst v h3]
      have key:∀(u:Value)(w'':World),((∃ u',a.put oi.dst u=a.put oi.dst u')/\C w''/\aU P ops C 0 oj K (a.put oi.dst u) w'') →
          (∃ u',(a.put oj.dst v).put oi.dst u=(a.put oj.dst v).put oi.dst u')/\C w''/\K ((a.put oj.dst v).put oi.dst u) w'':=by
        rintro u w'' ⟨_,Lm,hq⟩;obtain⟨v',Hj,EX⟩:=dZ (.inl rfl) hq;simp only[wj,dA.of_put (ops:=ops) Ft h1,if_true]at Hj;have Kf:v'=v:=by
          rcases hv with⟨ha,hv⟩ | ⟨ha,rfl⟩ <;>rcases Hj with⟨hb,Hj⟩ | ⟨hb,rfl⟩
          · exact(Hj w hC).unique (hv w hC)
          · rw[ha]at hb;cases hb
          · rw[ha]at hb;cases hb
          · rfl
        subst Kf;exact⟨⟨u,rfl⟩,Lm,by rw[Act.put_comm a _ _ h4];exact EX⟩
      generalize (execOp a.eval oi).run P w=r at *;cases r with
      | ok n w' =>
        cases n <;>simp only[Oper.upon]at hx ⊢
        case value u=>exact key _ _ hx
        case skip=>exact key _ _ hx
        case defer dd =>
          obtain⟨⟨u,hu⟩,_⟩:=hx;exfalso;have:dd ::a.defers=(a.put oi.dst u).defers:=by rw[← hu];cases oi.dst <;>rfl
          have e:(a.put oi.dst u).defers=a.defers:=by cases oi.dst <;>rfl
          rw[e]at this;exact absurd this (by simp)
        case enter f args =>
          refine hx.mono ?_;intro e w'' he;cases e with
          | returned u=>exact key _ _ he
          | panicked c=>exact he
          | outgrown=>obtain⟨_,_,he⟩:=he;exact he.elim
        case row s args=>exact hx.mono fun u w'' he=>key _ _ he
      | halt x w'=>cases x <;>simp only[Oper.upon]at hx ⊢;exact hx
    · rw[if_neg hw]at h;obtain⟨v,hv,hK⟩:=dZ (.inl rfl) h;simp only[wj,dA.of_put (ops:=ops) Ft h1]at hv;refine cG (.inl rfl) hv ?_;rw[gJ qi,wi,if_neg hw];rw[Act.put_comm a _ _ h4];exact hK
theorem tS{kd:dU}{Q:Act->World->Prop}{j:Nat}{oj:Oper}{B:List (Nat×Oper)}(Ft:∀ cs b,oj.op≠.select cs b):
    ∀ (A:List (Nat×Oper)),(∀ x∈A,x.2.apart ops oj=true/\jX (kd x.1) (kd j)=true/\∀ cs b,x.2.op≠.select cs b) →
    ∀(a:Act)(w:World),C w->dB P ops C kd Q (A++(j,oj) ::B) a w->aU P ops C (kd j) oj (dB P ops C kd Q (A++B)) a w
  | [],_,_,_,_,h=>h
  | (i,oi) ::A,hA,a,w,hC,h=>by
    have h0:=hA (i,oi) (by simp);refine CG hC h0.1 h0.2.1 h0.2.2 Ft ?_;have:∀ a w,C w->dB P ops C kd Q (A++(j,oj) ::B) a w->aU P ops C (kd j) oj (dB P ops C kd Q (A++B)) a w :=
      fun a w hC h=>tS Ft A (fun x hx=>hA x (by simp[hx])) a w hC h
    simp only[List.cons_append,dB]at h;exact qL hC this h
theorem xV{o:Oper}{Q:Exit->Act->World->Prop}(h:o.wp P a w K yW):o.wp P a w K Q:=by
 unfold Oper.wp at *;generalize (execOp a.eval o).run P w=r at *;cases r with
 | ok n w' =>
  cases n <;>simp only[Oper.upon]at h ⊢
  case enter f args =>
   refine h.mono ?_;intro e w'' he;cases e with
   | returned u=>exact he
   | panicked c=>exact he.elim
   | outgrown=>obtain⟨_,_,he⟩:=he;exact he.elim
  all_goals exact h
 | halt x w'=>cases x <;>simp only[Oper.upon]at h ⊢;exact h.elim
theorem fM{j:Nat}{o:Oper}{k:Nat}{Q:Exit->Act->World->Prop}(hj:ops[j]?=some o)(hC:C w)(hK:∀ a w,C w->K a w->K' a w)(h:aU P ops C k o K a w):wpOp P ops Q j K' a w:=by
 unfold wpOp;simp only[hj];unfold aU at h;split
 ·rename_i hw;simp only[hw,if_true]at h;left;split at h
  ·obtain⟨v,h1,h2⟩:=h;unfold Oper.wp;rcases h1 w hC with h3 | ⟨h3,rfl⟩ <;>rw[h3] <;>exact hK _ _ hC h2
  ·obtain⟨v,h1,h2⟩:=h;unfold Oper.wp;rcases h1 with h3 | ⟨h3,rfl⟩ <;>rw[h3] <;>exact hK _ _ hC h2
  ·exact xV (Oper.wp_mono (fun a' w' ⟨_,h1,h2⟩=>hK _ _ h1 h2) h)
 ·rename_i hw;simp only[hw]at h;exact hK _ _ hC h
def eX:Nat->List Oper->List (Nat×Oper)
 | _,[]=>[]
 | k,o ::l=>(k,o) ::eX (k+1) l
theorem dJ{i:Nat}{o:Oper}:∀ {k:Nat} {l:List Oper},(i,o)∈eX k l↔k<=i/\l[i-k]?=some o
 | k,[]=>by simp[eX]
 | k,x ::l=>by
  simp only[eX,List.mem_cons,Prod.mk.injEq,dJ (k:=k+1) (l:=l)];constructor
  ·rintro(⟨rfl,rfl⟩ | ⟨h1,h2⟩)
   ·simp
   ·refine⟨by omega,?_⟩;rw[show i-k=(i-(k+1))+1 by omega];simpa using h2
  ·rintro⟨h1,h2⟩;rcases Nat.eq_or_lt_of_le h1 with h | h
   ·subst h;left;simp at h2;exact⟨rfl,h2.symm⟩
   ·right;refine⟨by omega,?_⟩;rw[show i-k=(i-(k+1))+1 by omega]at h2;simpa using h2
theorem gO:∀(k:Nat)(l:List Oper),(eX k l).Pairwise (fun x y=>x.1<y.1)
 | _,[]=>List.Pairwise.nil
 | k,o ::l=>by
  simp only[eX];refine List.Pairwise.cons ?_ (gO (k+1) l);rintro⟨i,oi⟩ hm;have:=(dJ.1 hm).1;show k<i;omega
abbrev dM:=List (Nat×Nat×Nat)
def kM(R:dM)(j i:Nat):Bool:=R.any fun t=>t.1 ==j && t.2.1 ==i
def edgeB(o:Oper)(m:Nat):Bool:=o.after.any fun e=>Region.binds .any e && e.on ==m
def lD(ops:List Oper)(R:dM):Bool :=
 R.all fun t=>decide (t.2.2<t.1) && (match ops[t.1]? with | some o=>edgeB o t.2.2 | none=>false) && (t.2.2 ==t.2.1 || kM R t.2.2 t.2.1)
def nQ(ops:Array Oper)(kd:dU)(R:dM)(x y:Nat×Oper):Bool:=(x.2.apart ops y.2 && jX (kd x.1) (kd y.1)) || kM R y.1 x.1
def Cu(l:List (Nat×Oper)):Bool:=l.all fun x=>x.2.after.all fun e=>!Region.binds .any e || decide (e.on<x.1)
def tZ(ops:Array Oper)(kd:dU)(R:dM):List (Nat×Oper)->Bool
 | []=>true
 | x ::l=>l.all (nQ ops kd R x) && tZ ops kd R l
def Bk(ops:List Oper)(kd:dU)(R:dM):Bool :=
 Region.noSelect ops.toArray && Cu (eX 0 ops) && lD ops R && tZ ops.toArray kd R (eX 0 ops)
theorem nP{kd:dU}{R:dM}:∀ {l:List (Nat×Oper)},tZ ops kd R l=true->l.Pairwise (fun x y=>nQ ops kd R x y=true)
 | [],_=>List.Pairwise.nil
 | x ::l,h=>by
  simp only[tZ,Bool.and_eq_true,List.all_eq_true]at h;exact List.Pairwise.cons h.1 (nP h.2)
def Cz(ops:List Oper)(listed:Array Bool):Prop:=∀ j o,ops[j]?=some o->listed.getD j true=true->∀ e∈o.after,Region.binds .any e=true->listed.getD e.on false=true
theorem mK {l:List Oper} {R:dM} (hR:lD l R=true) {listed:Array Bool} (hd:Cz l listed) {i:Nat} (hi:listed.getD i false=false) :
    ∀(j:Nat),kM R j i=true->listed.getD j true=false/\j ∉ Region.ready .any l.toArray listed:=by
  intro j
  induction j using Nat.strongRecOn with
  | _ j ih =>
    intro hw;obtain⟨⟨j',i',m⟩,hm,he⟩:=List.any_eq_true.1 hw;simp only[Bool.and_eq_true,beq_iff_eq]at he;obtain⟨rfl,rfl⟩:=he;have h:=List.all_eq_true.1 hR _ hm;simp only[Bool.and_eq_true,decide_eq_true_eq,Bool.or_eq_true,beq_iff_eq]at h;obtain⟨⟨DL,he⟩,hc⟩:=h;cases ho:l[j']? with
    | none=>rw[ho]at he;simp at he
    | some o =>
      rw[ho]at he;obtain⟨e,GW,hb⟩:=Array.any_eq_true'.1 he;simp only[Bool.and_eq_true,beq_iff_eq]at hb;have Jt:listed.getD m false=false:=by
        rcases hc with rfl | hc
        · exact hi
        · have:=(ih m DL hc).1;rcases Nat.lt_or_ge m listed.size with h' | h'
          · simp[h']at this ⊢;exact this
          · simp[Array.getElem?_eq_none h']
      constructor
      · cases hj:listed.getD j' true with
        | false=>rfl
        | true =>
          have:=hd j' o ho hj e GW hb.1;rw[hb.2,Jt]at this;cases this
      · intro hr;obtain⟨_,o',FH,DQ⟩:=mem_ready.1 hr;have:o'=o:=by
          have:l[j']?=some o':=by simpa using FH
          rw[ho]at this;exact(Option.some.inj this).symm
        subst this;have:=DQ e GW hb.1;rw[hb.2,Jt]at this;cases this
theorem tB {l :List Oper} {kd:dU} {R:dM} {Qn:Act->World->Prop} {Q:Exit->Act->World->Prop} (hB:Bk l kd R=true) (hQ:∀ a w,C w->Qn a w->Q .normal a w) :
    ∀ (n:Nat) (L:List (Nat×Oper)) (listed:Array Bool) (a:Act) (w:World),L.length=n->C w->listed.size=l.length->L.Pairwise (fun x y=>x.1<y.1/\nQ l.toArray kd R x y=true) →
      (∀ i o,(i,o)∈L↔(l[i]?=some o/\listed.getD i true=false))->Cz l listed->dB P l.toArray C kd Qn L a w->wpAny P .any l.toArray Q n listed a w:=by
  have J0:=hB;simp only[Bk,Bool.and_eq_true]at J0;obtain⟨⟨⟨E5,Ew⟩,DS⟩,_⟩:=J0;have Et:=Region.noSelect_spec E5;intro n
  induction n with
  | zero =>
    intro L listed a w hL hC hs hp hm hd h;obtain rfl:L=[]:=List.length_eq_zero_iff.1 hL;refine⟨?_,hQ _ _ hC h⟩;refine List.eq_nil_iff_forall_not_mem.2 fun j hj=>?_;obtain⟨hu,o,ho,_⟩:=mem_ready.1 hj;have:=(hm j o).2 ⟨by simpa using ho,hu⟩;cases this
  | succ n ih =>
    intro L listed a w hL hC hs hp hm hd h;constructor
    · intro hr;exfalso;cases L with
      | nil=>simp at hL
      | cons x L =>
        obtain⟨i,oi⟩:=x;have hi:=(hm i oi).1 (by simp);have:i∈Region.ready .any l.toArray listed:=by
          refine mem_ready.2 ⟨hi.2,oi,by simpa using hi.1,fun e he hb=>?_⟩;have h1:=List.all_eq_true.1 Ew (i,oi) (dJ.2 ⟨Nat.zero_le _,by simpa using hi.1⟩);have h2:=Array.all_eq_true'.1 h1 e he;simp only[hb,Bool.not_true,Bool.false_or,decide_eq_true_eq]at h2;cases hl:listed.getD e.on true with
          | true =>
            have DL:i<l.length:=(List.getElem?_eq_some_iff.1 hi.1).1;have:e.on<listed.size:=by omega
            simp[this]at hl ⊢;exact hl
          | false =>
            exfalso;have DL:i<l.length:=(List.getElem?_eq_some_iff.1 hi.1).1;have Hp:=(hm e.on (l[e.on]'(by omega))).2 ⟨by simp,hl⟩;rcases List.mem_cons.1 Hp with h3 | h3
            · simp only[Prod.mk.injEq]at h3;omega
            · have:=(List.pairwise_cons.1 hp).1 _ h3;simp only at this;omega
        rw[hr]at this;cases this
    · intro j hj;obtain⟨hu,oj,E9,DQ⟩:=mem_ready.1 hj;have Ea:l[j]?=some oj:=by simpa using E9
      have Ef:=(hm j oj).2 ⟨Ea,hu⟩;obtain⟨A,B,rfl⟩:=List.append_of_mem Ef;have Eu:=List.pairwise_append.1 hp;have hA :∀ x∈A,x.2.apart l.toArray oj=true/\jX (kd x.1) (kd j)=true/\∀ cs b,x.2.op≠.select cs b:=by
        rintro⟨i,oi⟩ hx;have hi:=(hm i oi).1 (by simp[hx]);have h1:=(Eu.2.2 (i,oi) hx (j,oj) (by simp)).2;simp only[nQ,Bool.or_eq_true,Bool.and_eq_true]at h1;refine⟨?_,?_,fun cs b=>Et i oi cs b (by simpa using hi.1)⟩
        all_goals
          rcases h1 with h1 | h1
          · first | exact h1.1 | exact h1.2
          · exfalso;have It:listed.getD i false=false:=by
              have:=hi.2;rcases Nat.lt_or_ge i listed.size with h' | h'
              · simp[h']at this ⊢;exact this
              · simp[Array.getElem?_eq_none h']
            exact(mK DS hd It j h1).2 hj
      have Em:=tS (Et j oj · · E9) A hA a w hC h;refine fM E9 hC (fun a' w' Hb hK=>?_) Em;have GI:j<listed.size:=by
        rw[hs];exact(List.getElem?_eq_some_iff.1 Ea).1
      have DN:∀ x,x∈A∨x∈B->x.1≠j:=by
        rintro x (hx | hx)
        · have:=(Eu.2.2 x hx (j,oj) (by simp)).1;simp only at this;omega
        · have:=(List.pairwise_cons.1 Eu.2.1).1 x hx;simp only at this;omega
      refine ih (A++B) (listed.setIfInBounds j true) a' w' (by simp at hL ⊢;omega) Hb (by simpa using hs) ?_ ?_ ?_ hK
      · refine List.pairwise_append.2 ⟨Eu.1,(List.pairwise_cons.1 Eu.2.1).2,fun x hx y hy=>Eu.2.2 x hx y (by simp[hy])⟩
      · intro i o;constructor
        · intro hx;have Ep:(i,o)∈A∨(i,o)∈B:=by simpa using hx
          have h1:=(hm i o).1 (by simp only[List.mem_append,List.mem_cons];rcases Ep with h | h <;>simp[h]);refine⟨h1.1,?_⟩;have:=DN _ Ep;simp only at this;rw[getD_set_ne true (fun h=>this h.symm)];exact h1.2
        · rintro⟨h1,h2⟩;by_cases Eb:j=i
          · subst Eb;simp[GI]at h2
          · rw[getD_set_ne true Eb]at h2;have:=(hm i o).2 ⟨h1,h2⟩;simp only[List.mem_append,List.mem_cons,Prod.mk.injEq]at this ⊢;rcases this with h | ⟨h,_⟩ | h
            · exact .inl h
            · exact absurd h.symm Eb
            · exact .inr h
      · intro i o ho hl e he hb;by_cases Eb:j=i
        · subst Eb;have:o=oj:=Option.some.inj (ho.symm.trans Ea);subst this;exact getD_set_true (DQ e he hb)
        · rw[getD_set_ne true Eb]at hl;exact getD_set_true (hd i o ho hl e he hb)
theorem kG{id:Nat}{Q:Exit->Act->World->Prop}{l:List Oper}{kd:dU}{R:dM}(hm:P.follows .mixedOrders=true)(hB:Bk l kd R=true)(hC:C w.drew)
    (h:dB P l.toArray C kd (fun a w=>C w->Q .normal a w) (eX 0 l) a w.drew):(Code.region id l.toArray true).wp P Q a w:=by
  refine wp_region_any hm ?_;have hp:=gO 0 l;have E7:(eX 0 l).Pairwise (fun x y=>nQ l.toArray kd R x y=true):=by
    simp only[Bk,Bool.and_eq_true]at hB;exact nP hB.2
  have DO:∀ k (l:List Oper),(eX k l).length=l.length:=by
    intro k l
    induction l generalizing k with
    | nil=>rfl
    | cons o l ih=>simp[eX,ih]
  refine tB (C:=C) (Qn:=fun a w=>C w->Q .normal a w) hB (fun a w hC h=>h hC) l.toArray.size (eX 0 l) _ a _ (by simp[DO]) hC (by simp) (hp.imp₂ (fun _ _ h1 h2=>⟨h1,h2⟩) E7) ?_ ?_ h
  · intro i o;rw[dJ];simp only[Nat.zero_le,true_and,Nat.sub_zero];constructor
    · intro h;refine⟨h,?_⟩;have:=(List.getElem?_eq_some_iff.1 h).1;simp[this]
    · exact fun h=>h.1
  · intro j o ho hl;have:=(List.getElem?_eq_some_iff.1 ho).1;simp[this]at hl
theorem oL{Q:Exit->Act->World->Prop}{l:List Oper}{kd:dU}(hQ:∀ a w,C w->K a w->Q .normal a w):
    ∀(r:List Oper)(k:Nat)(a:Act)(w:World),(∀ j,r[j]?=l[k+j]?)->k+r.length=l.length->C w->dB P l.toArray C kd K (eX k r) a w->wpOps P l.toArray Q (List.range' k r.length) a w
  | [],_,_,_,_,_,hC,h=>hQ _ _ hC h
  | o ::r,k,a,w,hl,DO,hC,h=>by
    have h0:l[k]?=some o:=by simpa using(hl 0).symm
    simp only[List.length_cons,List.range'_succ];rw[wpOps_cons];refine fM (by simpa using h0) hC (fun a' w' Hb hK=>?_) h;exact oL hQ r (k+1) a' w' (fun j=>by have:=hl (j+1);simpa[Nat.add_assoc,Nat.add_comm 1 j]using this) (by simp at DO;omega) Hb hK
theorem qJ{id:Nat}{Q:Exit->Act->World->Prop}{l:List Oper}{kd:dU}(hC:C w)
    (h:dB P l.toArray C kd (fun a w=>C w->Q .normal a w) (eX 0 l) a w):(Code.region id l.toArray false).wp P Q a w:=by
  refine wp_region ?_;have:=oL (C:=C) (K:=fun a w=>C w->Q .normal a w) (Q:=Q) (l:=l) (kd:=kd) (fun a w hC h=>h hC) l 0 a w (by simp) (by simp) hC h;rw[List.range_eq_range'];simpa using this
end
end Go.V
/-! The own library V, part X: a region that draws its order and has operations that act and wait for no one another: one walk for each way in which these may come. -/
namespace Go.V
inductive XT where
 | leaf (L:List Nat)
 | split (p q:Nat) (x y:XT)
 | dead (L:List Nat)
def oK(S:List Nat)(j i:Nat):Prop:=∃ S1 S2,S=S1++j ::S2/\i∈S2
def factB(F:List (Nat×Nat))(R:dM)(x y:Nat):Bool :=
 F.any fun f=>f.1 ==x && (f.2 ==y || kM R y f.2)
def BX(ops:Array Oper)(kd:dU)(R:dM)(F:List (Nat×Nat))(x y:Nat×Oper):Bool:=nQ ops kd R x y || factB F R x.1 y.1
def tY(ops:Array Oper)(kd:dU)(R:dM)(F:List (Nat×Nat)):List (Nat×Oper)->Bool
 | []=>true
 | x ::l=>l.all (BX ops kd R F x) && tY ops kd R F l
def pick(ops:List Oper)(L:List Nat):List (Nat×Oper):=L.filterMap fun i=>(ops[i]?).map fun o=>(i,o)
def uA:List Nat->Bool
 | []=>true
 | x ::l=>!l.contains x && uA l
def Dh(ops:List Oper)(kd:dU)(R:dM)(F:List (Nat×Nat))(L:List Nat):Bool :=
 uA L && (List.range ops.length).all (fun i=>L.contains i) && tY ops.toArray kd R F (pick ops L)
def AE(n:Nat)(F:List (Nat×Nat))(R:dM)(x y:Nat):Bool:=decide (x≠y) && decide (x<n) && decide (y<n) && (F.contains (x,y) || kM R y x)
def Ay(n:Nat)(F:List (Nat×Nat))(R:dM)(a:Nat):List Nat->Bool
 | []=>false
 | [z]=>AE n F R z a
 | y ::z ::l=>AE n F R y z && Ay n F R a (z ::l)
def oR(ops:List Oper)(kd:dU)(R:dM):XT->List (Nat×Nat)->Bool
 | .leaf L,F=>Dh ops kd R F L
 | .split p q x y,F=>decide (p≠q) && oR ops kd R x ((p,q) ::F) && oR ops kd R y ((q,p) ::F)
 | .dead L,F=>match L with
  | []=>false
  | a ::l=>Ay ops.length F R a (a ::l)
def CP(ops:List Oper)(kd:dU)(R:dM)(t:XT):Bool :=
 Region.noSelect ops.toArray && Cu (eX 0 ops) && lD ops R && oR ops kd R t []
def wpX(P:Program)(ops:List Oper)(C:World->Prop)(kd:dU)(Q:Act->World->Prop)(a:Act)(w:World):XT->Prop
 | .leaf L=>dB P ops.toArray C kd Q (pick ops L) a w
 | .split _ _ x y=>wpX P ops C kd Q a w x/\wpX P ops C kd Q a w y
 | .dead _=>True
section
variable {P : Program} {C : World → Prop} {a : Act} {w : World}
theorem nO{ops:Array Oper}{kd:dU}{R:dM}{F:List (Nat×Nat)}:∀ {l:List (Nat×Oper)},tY ops kd R F l=true->l.Pairwise (fun x y=>BX ops kd R F x y=true)
 | [],_=>List.Pairwise.nil
 | x ::l,h=>by
  simp only[tY,Bool.and_eq_true,List.all_eq_true]at h;exact List.Pairwise.cons h.1 (nO h.2)
theorem uI(ops:Array Oper)(fuel t:Nat)(listed:Array Bool):Region.linearise.go .any ops (fuel+1) t listed [] =
    match (Region.ready .any ops listed)[t % (Region.ready .any ops listed).length]? with
    | some i=>i ::Region.linearise.go .any ops fuel (t / (Region.ready .any ops listed).length) (listed.setIfInBounds i true) []
    | none=>[]:=by
  simp only[Region.linearise.go]
  change (match (Region.ready .any ops listed)[t % (Region.ready .any ops listed).length]? with
      | some i=>Region.linearise.go .any ops fuel (t / (Region.ready .any ops listed).length) (listed.setIfInBounds i true) [i]
      | none=>[].reverse)=_
  split
  · rw[linearise_go_acc];rfl
  · rfl
theorem uH(ops:Array Oper)(t:Nat)(listed:Array Bool):Region.linearise.go .any ops 0 t listed []=[]:=by simp[Region.linearise.go]
theorem yR{l:List Oper}{listed:Array Bool}{t:Nat}(DN:Region.ready .any l.toArray listed≠[]):∃ j,(Region.ready .any l.toArray listed)[t % (Region.ready .any l.toArray listed).length]?=some j/\j∈Region.ready .any l.toArray listed:=by
 have Ed:0<(Region.ready .any l.toArray listed).length:=List.length_pos_iff.2 DN;have DL:=Nat.mod_lt t Ed;exact⟨_,List.getElem?_eq_getElem DL,List.getElem_mem DL⟩
theorem C0 {l :List Oper} (Ew:Cu (eX 0 l)=true):∀ (n t:Nat) (L:List (Nat×Oper)) (listed:Array Bool),L.length=n->listed.size=l.length->L.Pairwise (fun x y=>x.1<y.1) →
    (∀ i o,(i,o)∈L↔(l[i]?=some o/\listed.getD i true=false))->(Region.linearise.go .any l.toArray n t listed []).Perm (L.map Prod.fst):=by
  intro n
  induction n with
  | zero =>
    intro t L listed hL hs hp hm;obtain rfl:L=[]:=List.length_eq_zero_iff.1 hL;rw[uH];exact List.Perm.refl _
  | succ n ih =>
    intro t L listed hL hs hp hm;have DN : Region.ready .any l.toArray listed≠[]:=by
      intro hr;cases L with
      | nil=>simp at hL
      | cons x L =>
        obtain⟨i,oi⟩:=x;have hi:=(hm i oi).1 (by simp);have:i∈Region.ready .any l.toArray listed:=by
          refine mem_ready.2 ⟨hi.2,oi,by simpa using hi.1,fun e he hb=>?_⟩;have h1:=List.all_eq_true.1 Ew (i,oi) (dJ.2 ⟨Nat.zero_le _,by simpa using hi.1⟩);have h2:=Array.all_eq_true'.1 h1 e he;simp only[hb,Bool.not_true,Bool.false_or,decide_eq_true_eq]at h2;cases hl:listed.getD e.on true with
          | true =>
            have DL:i<l.length:=(List.getElem?_eq_some_iff.1 hi.1).1;have:e.on<listed.size:=by omega
            simp[this]at hl ⊢;exact hl
          | false =>
            exfalso;have DL:i<l.length:=(List.getElem?_eq_some_iff.1 hi.1).1;have Hp:=(hm e.on (l[e.on]'(by omega))).2 ⟨by simp,hl⟩;rcases List.mem_cons.1 Hp with h3 | h3
            · simp only[Prod.mk.injEq]at h3;omega
            · have:=(List.pairwise_cons.1 hp).1 _ h3;simp only at this;omega
        rw[hr]at this;cases this
    obtain⟨j,KH,hj⟩:=yR (t:=t) DN;rw[uI,KH];obtain⟨hu,oj,E9,DQ⟩:=mem_ready.1 hj;have Ea:l[j]?=some oj:=by simpa using E9
    have Ef:=(hm j oj).2 ⟨Ea,hu⟩;obtain⟨A,B,rfl⟩:=List.append_of_mem Ef;have Eu:=List.pairwise_append.1 hp;have GI:j<listed.size:=by
      rw[hs];exact(List.getElem?_eq_some_iff.1 Ea).1
    have Ie:∀ x,x∈A∨x∈B->x.1≠j:=by
      rintro x (hx | hx)
      · have:=Eu.2.2 x hx (j,oj) (by simp);simp only at this;omega
      · have:=(List.pairwise_cons.1 Eu.2.1).1 x hx;simp only at this;omega
    have HY :=ih (t / (Region.ready .any l.toArray listed).length) (A++B) (listed.setIfInBounds j true) (by simp at hL ⊢;omega) (by simpa using hs)
      (List.pairwise_append.2 ⟨Eu.1,(List.pairwise_cons.1 Eu.2.1).2,fun x hx y hy=>Eu.2.2 x hx y (by simp[hy])⟩) (by
        intro i o;constructor
        · intro hx;have Ep:(i,o)∈A∨(i,o)∈B:=by simpa using hx
          have h1:=(hm i o).1 (by simp only[List.mem_append,List.mem_cons];rcases Ep with h | h <;>simp[h]);refine⟨h1.1,?_⟩;have:=Ie _ Ep;simp only at this;rw[getD_set_ne true (fun h=>this h.symm)];exact h1.2
        · rintro⟨h1,h2⟩;by_cases Eb:j=i
          · subst Eb;simp[GI]at h2
          · rw[getD_set_ne true Eb]at h2;have:=(hm i o).2 ⟨h1,h2⟩;simp only[List.mem_append,List.mem_cons,Prod.mk.injEq]at this ⊢;rcases this with h | ⟨h,_⟩ | h
            · exact .inl h
            · exact absurd h.symm Eb
            · exact .inr h)
    rw[List.map_append,List.map_cons];refine(List.Perm.cons j HY).trans ?_;rw[List.map_append];exact(List.perm_middle (a:=j)).symm
theorem oK.cons{S:List Nat}{j i k:Nat}(h:oK S j i):oK (k ::S) j i:=by
 obtain⟨S1,S2,rfl,h⟩:=h;exact⟨k ::S1,S2,rfl,h⟩
theorem mixS {l :List Oper} {kd:dU} {R:dM} {Qn:Act->World->Prop} {Q:Exit->Act->World->Prop} (E5:Region.noSelect l.toArray=true) (DS:lD l R=true) (hQ:∀ a w,C w->Qn a w->Q .normal a w) :
    ∀ (n t:Nat) (L:List (Nat×Oper)) (listed:Array Bool) (a:Act) (w:World),L.length=n->C w->listed.size=l.length →
      (Region.linearise.go .any l.toArray n t listed []).Perm (L.map Prod.fst)->(L.map Prod.fst).Nodup →
      L.Pairwise (fun x y=>nQ l.toArray kd R x y=true∨¬ oK (Region.linearise.go .any l.toArray n t listed []) y.1 x.1) →
      (∀ i o,(i,o)∈L↔(l[i]?=some o/\listed.getD i true=false))->Cz l listed->dB P l.toArray C kd Qn L a w->wpOps P l.toArray Q (Region.linearise.go .any l.toArray n t listed []) a w:=by
  have Et:=Region.noSelect_spec E5;intro n
  induction n with
  | zero =>
    intro t L listed a w hL hC hs DW EA hp hm hd h;obtain rfl:L=[]:=List.length_eq_zero_iff.1 hL;rw[uH];exact hQ _ _ hC h
  | succ n ih =>
    intro t L listed a w hL hC hs DW EA hp hm hd h;rw[uI]at DW hp ⊢;cases hi:(Region.ready .any l.toArray listed)[t % (Region.ready .any l.toArray listed).length]? with
    | none =>
      rw[hi]at DW;have:=DW.length_eq;simp at this;omega
    | some j =>
      rw[hi]at DW hp;simp only at DW hp ⊢;have hj:j∈Region.ready .any l.toArray listed:=List.mem_of_getElem? hi;obtain⟨hu,oj,E9,DQ⟩:=mem_ready.1 hj;have Ea:l[j]?=some oj:=by simpa using E9
      have Ef:=(hm j oj).2 ⟨Ea,hu⟩;obtain⟨A,B,rfl⟩:=List.append_of_mem Ef;have Eu:=List.pairwise_append.1 hp;have E6:(Region.linearise.go .any l.toArray n (t / (Region.ready .any l.toArray listed).length) (listed.setIfInBounds j true) []).Perm ((A++B).map Prod.fst):=by
        have h1:(j ::Region.linearise.go .any l.toArray n (t / (Region.ready .any l.toArray listed).length) (listed.setIfInBounds j true) []).Perm (j ::(A++B).map Prod.fst):=by
          refine DW.trans ?_;rw[List.map_append,List.map_cons,List.map_append];exact List.perm_middle (a:=j)
        exact h1.cons_inv
      have Gy:j ∉ (A++B).map Prod.fst/\((A++B).map Prod.fst).Nodup:=by
        have:(j ::(A++B).map Prod.fst).Nodup:=by
          refine List.Perm.nodup_iff ?_ |>.1 EA;rw[List.map_append,List.map_cons,List.map_append];exact List.perm_middle (a:=j)
        exact List.nodup_cons.1 this
      have DN:∀ x,x∈A∨x∈B->x.1≠j:=by
        intro x hx e;exact Gy.1 (List.mem_map.2 ⟨x,by simpa using hx,e⟩)
      have hA : ∀ x∈A,x.2.apart l.toArray oj=true/\jX (kd x.1) (kd j)=true/\∀ cs b,x.2.op≠.select cs b:=by
        rintro⟨i,oi⟩ hx;have Jz:=(hm i oi).1 (by simp[hx]);have h1:=Eu.2.2 (i,oi) hx (j,oj) (by simp);have FR :(oi.apart l.toArray oj && jX (kd i) (kd j))=true:=by
          rcases h1 with h1 | h1
          · simp only[nQ,Bool.or_eq_true]at h1;rcases h1 with h1 | h1
            · exact h1
            · exfalso;have It:listed.getD i false=false:=by
                have:=Jz.2;rcases Nat.lt_or_ge i listed.size with h' | h'
                · simp[h']at this ⊢;exact this
                · simp[Array.getElem?_eq_none h']
              exact(mK DS hd It j h1).2 hj
          · exfalso;refine h1 ⟨[],_,rfl,?_⟩;refine E6.symm.subset (List.mem_map.2 ⟨(i,oi),by simp[hx],rfl⟩)
        simp only[Bool.and_eq_true]at FR;exact⟨FR.1,FR.2,fun cs b=>Et i oi cs b (by simpa using Jz.1)⟩
      have Em:=tS (Et j oj · · E9) A hA a w hC h;rw[wpOps_cons];refine fM E9 hC (fun a' w' Hb hK=>?_) Em;have GI:j<listed.size:=by
        rw[hs];exact(List.getElem?_eq_some_iff.1 Ea).1
      refine ih _ (A++B) (listed.setIfInBounds j true) a' w' (by simp at hL ⊢;omega) Hb (by simpa using hs) E6 Gy.2 ?_ ?_ ?_ hK
      · have Lo:=List.pairwise_append.2 ⟨Eu.1,(List.pairwise_cons.1 Eu.2.1).2,fun x hx y hy=>Eu.2.2 x hx y (by simp[hy])⟩;refine Lo.imp ?_;rintro x y (h1 | h1)
        · exact .inl h1
        · exact .inr fun h2=>h1 h2.cons
      · intro i o;constructor
        · intro hx;have Ep:(i,o)∈A∨(i,o)∈B:=by simpa using hx
          have h1:=(hm i o).1 (by simp only[List.mem_append,List.mem_cons];rcases Ep with h | h <;>simp[h]);refine⟨h1.1,?_⟩;have:=DN _ Ep;simp only at this;rw[getD_set_ne true (fun h=>this h.symm)];exact h1.2
        · rintro⟨h1,h2⟩;by_cases Eb:j=i
          · subst Eb;simp[GI]at h2
          · rw[getD_set_ne true Eb]at h2;have:=(hm i o).2 ⟨h1,h2⟩;simp only[List.mem_append,List.mem_cons,Prod.mk.injEq]at this ⊢;rcases this with h | ⟨h,_⟩ | h
            · exact .inl h
            · exact absurd h.symm Eb
            · exact .inr h
      · intro i o ho hl e he hb;by_cases Eb:j=i
        · subst Eb;have:o=oj:=Option.some.inj (ho.symm.trans Ea);subst this;exact getD_set_true (DQ e he hb)
        · rw[getD_set_ne true Eb]at hl;exact getD_set_true (hd i o ho hl e he hb)
theorem AT{y:Nat}:∀ {A A' B B':List Nat},(A++y ::B).Nodup->A++y ::B=A'++y ::B'->B=B'
 | [],[],B,B',_,h=>by simpa using h
 | [],x ::A',B,B',hn,h=>by
  simp only[List.nil_append,List.cons_append,List.cons.injEq]at h;obtain⟨rfl,rfl⟩:=h;have:=(List.nodup_cons.1 hn).1;exact absurd (by simp) this
 | x ::A,[],B,B',hn,h=>by
  simp only[List.nil_append,List.cons_append,List.cons.injEq]at h;obtain⟨rfl,_⟩:=h;have:=(List.nodup_cons.1 hn).1;exact absurd (by simp) this
 | x ::A,x' ::A',B,B',hn,h=>by
  simp only[List.cons_append,List.cons.injEq]at h;exact AT (List.nodup_cons.1 hn).2 h.2
theorem oK.trans{S:List Nat}(hn:S.Nodup){m y x:Nat}(h:oK S m y)(h':oK S y x):oK S m x:=by
 obtain⟨S1,S2,rfl,h1⟩:=h;obtain⟨T1,T2,h2,h3⟩:=h';obtain⟨U1,U2,rfl⟩:=List.append_of_mem h1;have e:(S1++m ::U1)++y ::U2=T1++y ::T2:=by rw[← h2];simp
 have EE:((S1++m ::U1)++y ::U2).Nodup:=by rw[e,← h2];exact hn
 have:=AT EE e;subst this;exact⟨S1,U1++y ::U2,rfl,by simp[h3]⟩
theorem oK.irrefl{S:List Nat}(hn:S.Nodup){x:Nat}(h:oK S x x):False:=by
 obtain⟨S1,S2,rfl,h1⟩:=h;have:=(List.nodup_append.1 hn).2.1;exact(List.nodup_cons.1 this).1 h1
theorem oK.total{S:List Nat}{x y:Nat}(hx:x∈S)(hy:y∈S)(DN:x≠y):oK S x y∨oK S y x:=by
 obtain⟨S1,S2,rfl⟩:=List.append_of_mem hx;rcases List.mem_append.1 hy with h | h
 ·obtain⟨T1,T2,rfl⟩:=List.append_of_mem h;exact .inr ⟨T1,T2++x ::S2,by simp,by simp⟩
 ·rcases List.mem_cons.1 h with h | h
  ·exact absurd h.symm DN
  ·exact .inl ⟨S1,S2,rfl,h⟩
theorem rU{S:List Nat}(hn:S.Nodup){n:Nat}{F:List (Nat×Nat)}{R:dM}(hl:∀ x y,AE n F R x y=true->oK S x y){a:Nat}:∀ {z:Nat} {l:List Nat},Ay n F R a (z ::l)=true->oK S z a
 | z,[],h=>hl _ _ h
 | z,y ::l,h=>by
  simp only[Ay,Bool.and_eq_true]at h;exact oK.trans hn (hl _ _ h.1) (rU hn hl h.2)
theorem wQ {l :List Oper} {R:dM} (DS:lD l R=true) {y m:Nat} (hw:kM R y m=true):∀(n t:Nat)(listed:Array Bool),listed.size=l.length->Cz l listed->listed.getD m false=false->(m<l.length) →
    y∈Region.linearise.go .any l.toArray n t listed []->oK (Region.linearise.go .any l.toArray n t listed []) m y:=by
  intro n
  induction n with
  | zero=>intro t listed _ _ _ _ h;rw[uH]at h;cases h
  | succ n ih =>
    intro t listed hs hd hm Ik h;rw[uI]at h ⊢;cases hi:(Region.ready .any l.toArray listed)[t % (Region.ready .any l.toArray listed).length]? with
    | none=>rw[hi]at h;cases h
    | some j =>
      rw[hi]at h;simp only at h ⊢;have hj:j∈Region.ready .any l.toArray listed:=List.mem_of_getElem? hi;obtain⟨hu,oj,E9,DQ⟩:=mem_ready.1 hj;have Ea:l[j]?=some oj:=by simpa using E9
      rcases List.mem_cons.1 h with e | h'
      · exfalso;rw[← e]at hj;exact(mK DS hd hm y hw).2 hj
      · by_cases Jv:m=j
        · subst Jv;exact⟨[],_,rfl,h'⟩
        · refine(ih _ (listed.setIfInBounds j true) (by simpa using hs) ?_ ?_ Ik h').cons
          · intro i o ho hl e he hb;by_cases Eb:j=i
            · subst Eb;have:o=oj:=Option.some.inj (ho.symm.trans Ea);subst this;exact getD_set_true (DQ e he hb)
            · rw[getD_set_ne true Eb]at hl;exact getD_set_true (hd i o ho hl e he hb)
          · rw[getD_set_ne false (fun h=>Jv h.symm)];exact hm
theorem lR{l:List Oper}{L:List Nat}{i:Nat}{o:Oper}:(i,o)∈pick l L↔i∈L/\l[i]?=some o:=by
 simp only[pick,List.mem_filterMap];constructor
 ·rintro⟨j,hj,h⟩;cases ho:l[j]? with
  | none=>rw[ho]at h;cases h
  | some o' =>
   rw[ho]at h;simp only[Option.map_some,Option.some.injEq,Prod.mk.injEq]at h;obtain⟨rfl,rfl⟩:=h;exact⟨hj,ho⟩
 ·rintro⟨h1,h2⟩;exact⟨i,h1,by rw[h2];rfl⟩
theorem nR:∀ {L:List Nat},uA L=true->L.Nodup
 | [],_=>List.nodup_nil
 | x ::l,h=>by
  simp only[uA,Bool.and_eq_true,Bool.not_eq_true']at h;refine List.nodup_cons.2 ⟨?_,nR h.2⟩;intro hm;have:=h.1;rw[List.contains_iff_mem.2 hm]at this;cases this
theorem pK{l:List Oper}:∀ {L:List Nat},L.Nodup->((pick l L).map Prod.fst).Nodup
 | [],_=>List.nodup_nil
 | x ::L,h=>by
  have h':=List.nodup_cons.1 h;have ih:=pK (l:=l) h'.2;unfold pick;simp only[List.filterMap_cons];cases ho:l[x]? with
  | none=>exact ih
  | some o =>
   simp only[Option.map_some,List.map_cons];refine List.nodup_cons.2 ⟨?_,ih⟩;intro hm;obtain⟨⟨i,o'⟩,h1,h2⟩:=List.mem_map.1 hm;simp only at h2;subst h2;exact h'.1 (lR.1 h1).1
theorem jU:∀(k:Nat)(l:List Oper),(eX k l).length=l.length
 | k,[]=>rfl
 | k,o ::l=>by simp[eX,jU (k+1) l]
theorem nH {id:Nat} {Q:Exit->Act->World->Prop} {l:List Oper} {kd:dU} {R:dM} {tr:XT} (hm:P.follows .mixedOrders=true) (hB:CP l kd R tr=true) (hC:C w.drew)
    (h:wpX P l C kd (fun a w=>C w->Q .normal a w) a w.drew tr):(Code.region id l.toArray true).wp P Q a w:=by
  simp only[CP,Bool.and_eq_true]at hB;obtain⟨⟨⟨E5,Ew⟩,DS⟩,Gm⟩:=hB;refine wp_region_draw fun t=>?_;simp only[Region.schedule,hm,Bool.true_or,if_true];have EZ:l.toArray.size=l.length:=by simp
  have Gl:∀ i o,l[i]?=some o->(Array.replicate l.length false).getD i true=false:=by
    intro i o ho;have:=(List.getElem?_eq_some_iff.1 ho).1;simp[this]
  have Fc:Cz l (Array.replicate l.length false):=by
    intro j o ho hl;have:=(List.getElem?_eq_some_iff.1 ho).1;simp[this]at hl
  have DW:=C0 Ew l.length t (eX 0 l) (Array.replicate l.length false) (jU 0 l) (by simp) (gO 0 l) (by
    intro i o;rw[dJ];simp only[Nat.zero_le,true_and,Nat.sub_zero];exact⟨fun h=>⟨h,Gl i o h⟩,fun h=>h.1⟩)
  have GU:((eX 0 l).map Prod.fst).Nodup:=by
    rw[List.Nodup,List.pairwise_map];exact(gO 0 l).imp (fun h=>by omega)
  have G8:(Region.linearise.go .any l.toArray l.length t (Array.replicate l.length false) []).Nodup:=DW.nodup_iff.2 GU;have DQ:∀ i,i<l.length->i∈Region.linearise.go .any l.toArray l.length t (Array.replicate l.length false) []:=by
    intro i hi;refine DW.symm.subset (List.mem_map.2 ⟨(i,l[i]),dJ.2 ⟨Nat.zero_le _,by simp⟩,rfl⟩)
  have key:∀ (tr:XT) (F:List (Nat×Nat)),oR l kd R tr F=true->(∀ f∈F,¬ oK (Region.linearise.go .any l.toArray l.length t (Array.replicate l.length false) []) f.2 f.1) →
      wpX P l C kd (fun a w=>C w->Q .normal a w) a w.drew tr->wpOps P l.toArray Q (Region.linearise.go .any l.toArray l.length t (Array.replicate l.length false) []) a w.drew:=by
    intro tr
    induction tr with
    | leaf L =>
      intro F hT hF hX;simp only[oR,Dh,Bool.and_eq_true]at hT;obtain⟨⟨hn,IC⟩,FF⟩:=hT;have EA:=pK (l:=l) (nR hn);have Ef:∀ i o,(i,o)∈pick l L↔l[i]?=some o:=by
        intro i o;rw[lR];refine⟨fun h=>h.2,fun h=>⟨?_,h⟩⟩;have hi:=(List.getElem?_eq_some_iff.1 h).1;have:=List.all_eq_true.1 IC i (List.mem_range.2 hi);exact List.contains_iff_mem.1 this
      have Gw:((eX 0 l).map Prod.fst).Perm ((pick l L).map Prod.fst):=by
        refine(List.perm_ext_iff_of_nodup GU EA).2 fun i=>?_;simp only[List.mem_map];constructor
        · rintro⟨⟨i',o⟩,h1,rfl⟩;exact⟨(i',o),(Ef _ _).2 (by simpa using(dJ.1 h1).2),rfl⟩
        · rintro⟨⟨i',o⟩,h1,rfl⟩;exact⟨(i',o),dJ.2 ⟨Nat.zero_le _,by simpa using(Ef _ _).1 h1⟩,rfl⟩
      have DO:(pick l L).length=l.length:=by
        have:=Gw.length_eq;simp only[List.length_map,jU]at this;exact this.symm
      refine mixS (C:=C) (Qn:=fun a w=>C w->Q .normal a w) E5 DS (fun a w hC h=>h hC) l.length t (pick l L) _ a _ DO hC (by simp) (DW.trans Gw) EA ?_ ?_ Fc hX
      · refine(nO FF).imp ?_;rintro⟨x,ox⟩ ⟨y,oy⟩ h1;simp only[BX,Bool.or_eq_true]at h1;rcases h1 with h1 | h1
        · exact .inl h1
        · right;obtain⟨⟨f1,f2⟩,hf,he⟩:=List.any_eq_true.1 h1;simp only[Bool.and_eq_true,beq_iff_eq,Bool.or_eq_true]at he;obtain⟨rfl,he⟩:=he;have Ig:=hF _ hf;simp only at Ig;rcases he with rfl | he
          · exact Ig
          · intro hb;refine Ig (oK.trans G8 ?_ hb)
            -- y waits for f2
            obtain⟨⟨j',i',m'⟩,Hp,GW⟩:=List.any_eq_true.1 he;simp only[Bool.and_eq_true,beq_iff_eq]at GW;obtain⟨rfl,rfl⟩:=GW;have Jd:j'∈Region.linearise.go .any l.toArray l.length t (Array.replicate l.length false) []:=by
              obtain⟨S1,S2,e1,_⟩:=hb;rw[e1];simp
            have EB:j'<l.length:=by
              obtain⟨⟨i2,o2⟩,h2,h3⟩:=List.mem_map.1 (DW.subset Jd);have h4:=(dJ.1 h2).2;have:=(List.getElem?_eq_some_iff.1 h4).1;simp only at h3;omega
            have DL:i'<l.length:=by
              -- what is waited for comes ahead in the text
              have:∀ j,j<l.length->kM R j i'=true->i'<l.length:=by
                intro j
                induction j using Nat.strongRecOn with
                | _ j ih2 =>
                  intro hj hw;obtain⟨⟨j1,i1,m1⟩,Hq,JA⟩:=List.any_eq_true.1 hw;simp only[Bool.and_eq_true,beq_iff_eq]at JA;obtain⟨rfl,rfl⟩:=JA;have h2:=List.all_eq_true.1 DS _ Hq;simp only[Bool.and_eq_true,decide_eq_true_eq,Bool.or_eq_true,beq_iff_eq]at h2;obtain⟨⟨DL,_⟩,hc⟩:=h2;rcases hc with h3 | hc
                  · omega
                  · exact ih2 m1 DL (by omega) hc
              exact this j' EB he
            refine wQ DS he l.length t _ (by simp) Fc ?_ DL Jd;simp[DL]
      · intro i o;rw[Ef];exact⟨fun h=>⟨h,Gl i o h⟩,fun h=>h.1⟩
    | split p q x y ihx ihy =>
      intro F hT hF hX;simp only[oR,Bool.and_eq_true,decide_eq_true_eq]at hT;obtain⟨⟨LI,hx⟩,hy⟩:=hT;by_cases hb:oK (Region.linearise.go .any l.toArray l.length t (Array.replicate l.length false) []) q p
      · refine ihy ((q,p) ::F) hy ?_ hX.2;intro f hf;rcases List.mem_cons.1 hf with e | e
        · subst e;exact fun h=>oK.irrefl G8 (oK.trans G8 h hb)
        · exact hF f e
      · refine ihx ((p,q) ::F) hx ?_ hX.1;intro f hf;rcases List.mem_cons.1 hf with e | e
        · subst e;exact hb
        · exact hF f e
    | dead L =>
      intro F hT hF hX;simp only[oR]at hT;cases L with
      | nil=>cases hT
      | cons z r =>
        refine(oK.irrefl G8 (rU G8 (fun x y Je=>?_) hT)).elim;simp only[AE,Bool.and_eq_true,decide_eq_true_eq,Bool.or_eq_true]at Je;obtain⟨⟨⟨DN,hx⟩,hy⟩,h1 | h1⟩:=Je
        · exact(oK.total (DQ x hx) (DQ y hy) DN).resolve_right (hF (x,y) (List.contains_iff_mem.1 h1))
        · exact wQ DS h1 l.length t _ (by simp) Fc (by simp[hx]) hx (DQ y hy)
  have h1:=key tr [] Gm (by simp) h;have h2:wpOps P l.toArray Q (Region.linearise.go .any l.toArray l.toArray.size t (Array.replicate l.toArray.size false) []) a w.drew:=by rw[EZ];exact h1
  exact h2
end
end Go.V
/-! The own library V, part 2: what must hold for one operation to go through, and what then stands in its slot. -/
namespace Go.V
/-! ### Types, in short -/
inductive LD where
 | int (k:IntKind) | bool | str | ptr (e:Nat) | slice (e:Nat) | arr (n e:Nat) | map (k e:Nat) | struct (fs:List (Nat×Nat)) | tup (ts:List Nat) | other
inductive Sh where
 | int (k:IntKind) | bool | str | slice | ptr | map | any | addr | cst (x:Value)
structure TE where
 ld:LD
 size:Nat
 bytes:Nat
 zero:Value
 shs:List Sh
def pT:TypeDesc->LD
 | .int k=>.int k
 | .bool=>.bool
 | .string=>.str
 | .pointer e=>.ptr e
 | .slice e=>.slice e
 | .array n e=>.arr n e
 | .map k e=>.map k e
 | .struct fs=>.struct (fs.toList.map fun f=>(f.offset,f.type))
 | .tuple ts=>.tup ts.toList
 | _=>.other
abbrev qG:=List (Nat×TE)
def tf:qG->Nat->Option TE
 | [],_=>none
 | (i,e) ::r,t=>bif Nat.beq i t then some e else tf r t
def TyOk(P:Program)(e:Nat×TE):Prop :=
 (P.info? e.1).map (fun i=>(i.size,i.bytes,i.zero))=some (e.2.size,e.2.bytes,some e.2.zero)/\(P.underlying e.1).map pT=some e.2.ld
def oI(P:Program)(T:qG):Prop:=∀ e∈T,TyOk P e
theorem BL:∀ {T:qG} {t:Nat} {e:TE},tf T t=some e->(t,e)∈T
 | (i,x) ::r,t,e,h=>by
  unfold tf at h;cases hb:Nat.beq i t with
  | true =>
   rw[hb]at h;have:i=t:=Nat.eq_of_beq_eq_true hb;subst this;simp at h;subst h;exact List.mem_cons_self
  | false =>
   rw[hb]at h;exact List.mem_cons_of_mem _ (BL h)
structure Ty(P:Program)(t:Nat)(e:TE):Prop where
 info:∃ i,P.info? t=some i/\i.size=e.size/\i.bytes=e.bytes/\i.zero=some e.zero
 und:∃ d,P.underlying t=some d/\pT d=e.ld
theorem oI.get{P:Program}{T:qG}(h:oI P T){t:Nat}{e:TE}(ht:tf T t=some e):Ty P t e:=by
 obtain⟨h1,h2⟩:=h _ (BL ht);obtain⟨i,hi,he⟩:=Option.map_eq_some_iff.1 h1;obtain⟨d,hd,hl⟩:=Option.map_eq_some_iff.1 h2;simp only[Prod.mk.injEq]at he;exact⟨⟨i,hi,he.1,he.2.1,he.2.2⟩,d,hd,hl⟩
section
variable {P : Program} {t : Nat} {e : TE} (w : World)
theorem Ty.sizeOf(h:Ty P t e):(Go.sizeOf t).run P w=.ok e.size w:=by
 obtain⟨i,hi,h1,_⟩:=h.info;simp[Go.sizeOf,typeInfo,program,Sem.run,hi,h1]
theorem Ty.zeroValue(h:Ty P t e):(Go.zeroValue t).run P w=.ok e.zero w:=by
 obtain⟨i,hi,_,_,h1⟩:=h.info;simp[Go.zeroValue,typeInfo,program,Sem.run,hi,h1]
theorem Ty.run_und{d:TypeDesc}(hd:P.underlying t=some d):(Go.underlying t).run P w=.ok d w:=by
 simp[Go.underlying,program,Sem.run,hd]
theorem Ty.slice(h:Ty P t e){x:Nat}(hl:e.ld=.slice x):P.underlying t=some (.slice x):=by
 obtain⟨d,hd,h1⟩:=h.und;rw[hl]at h1;cases d <;>simp[pT]at h1;subst h1;exact hd
theorem Ty.ptr(h:Ty P t e){x:Nat}(hl:e.ld=.ptr x):P.underlying t=some (.pointer x):=by
 obtain⟨d,hd,h1⟩:=h.und;rw[hl]at h1;cases d <;>simp[pT]at h1;subst h1;exact hd
theorem Ty.arr(h:Ty P t e){n x:Nat}(hl:e.ld=.arr n x):P.underlying t=some (.array n x):=by
 obtain⟨d,hd,h1⟩:=h.und;rw[hl]at h1;cases d <;>simp[pT]at h1;obtain⟨rfl,rfl⟩:=h1;exact hd
theorem Ty.map(h:Ty P t e){n x:Nat}(hl:e.ld=.map n x):P.underlying t=some (.map n x):=by
 obtain⟨d,hd,h1⟩:=h.und;rw[hl]at h1;cases d <;>simp[pT]at h1;obtain⟨rfl,rfl⟩:=h1;exact hd
theorem Ty.struct(h:Ty P t e){fs:List (Nat×Nat)}(hl:e.ld=.struct fs):∃ a,P.underlying t=some (.struct a)/\a.toList.map (fun f=>(f.offset,f.type))=fs:=by
 obtain⟨d,hd,h1⟩:=h.und;rw[hl]at h1;cases d <;>simp[pT]at h1;exact⟨_,hd,h1⟩
theorem Ty.int(h:Ty P t e){k:IntKind}(hl:e.ld=.int k):P.underlying t=some (.int k):=by
 obtain⟨d,hd,h1⟩:=h.und;rw[hl]at h1;cases d <;>simp[pT]at h1;subst h1;exact hd
theorem Ty.str(h:Ty P t e)(hl:e.ld=.str):P.underlying t=some .string:=by
 obtain⟨d,hd,h1⟩:=h.und;rw[hl]at h1;cases d <;>simp[pT]at h1;exact hd
def LD.agg:LD->Bool
 | .struct _ | .arr _ _=>true
 | _=>false
theorem Ty.isAgg(h:Ty P t e):(Go.isAgg t).run P w=.ok e.ld.agg w:=by
 obtain⟨d,hd,h1⟩:=h.und;simp only[Go.isAgg,Sem.run_bind,Ty.run_und w hd,Result.andThen_ok];rw[← h1];cases d <;>simp[pT,LD.agg]
end
/-! ### Slots -/
inductive SV where
 | un
 | v (x:Value)
 | b (c:Bool)
 | p (q:Prop) (d:Decidable q)
abbrev Fr:=Nat->SV
def upd(F:Fr)(d:Nat)(s:SV):Fr:=fun t=>bif Nat.beq t d then s else F t
def eW:SV->Value->Prop
 | .un,_=>True
 | .v x,y=>y=x
 | .b c,y=>y=.bool c
 | .p q d,y=>y=.bool (@decide q d)
def Ag(F:Fr)(a:Act):Prop:=∀ t,eW (F t) (a.tmps.getD t undef)
def ev(F:Fr):Operand->SV
 | .tmp t=>F t
 | .const x=>.v x
 | .global g=>.v (.pointer (some ⟨g,0,none⟩))
 | .func f=>.v (.func (.func f) #[] #[])
theorem Ag.ev{F:Fr}{a:Act}(h:Ag F a)(x:Operand):eW (ev F x) (a.eval x):=by
 cases x with
 | tmp t=>exact h t
 | _=>rfl
theorem Ag.put{F:Fr}{a:Act}{s:SV}{v:Value}{d n:Nat}(h:Ag F a)(hn:a.tmps.size=n)(hd:d<n)(hs:eW s v):Ag (upd F d s) (a.put (some d) v):=by
 intro t;unfold upd;cases hb:Nat.beq t d with
 | true =>
  have:t=d:=Nat.eq_of_beq_eq_true hb;subst this;simp[Act.put,hn,hd,hs]
 | false =>
  have DN:d≠t:=fun e=>by subst e;simp at hb
  have:=h t;simp only[cond_false];simpa[Act.put,Array.getElem?_setIfInBounds_ne DN]using this
def mk:Value->SV
 | .bool c=>.b c
 | x=>.v x
theorem eW.mk(x:Value):eW (mk x) x:=by cases x <;>rfl
/-! ### Reading operands -/
def vv(F:Fr)(x:Operand)(K:Value->Prop):Prop :=
 match ev F x with
 | .un=>False
 | .v a=>K a
 | .b c=>K (.bool c)
 | .p q d=>K (.bool (@decide q d))
theorem aL{F:Fr}{a:Act}(h:Ag F a){x:Operand}{K:Value->Prop}(hk:vv F x K):K (a.eval x):=by
 have:=h.ev x;unfold vv at hk;split at hk
 ·exact hk.elim
 all_goals (rename_i he;rw[he]at this;simp only[eW]at this;rw[this];exact hk)
def xT(F:Fr):List Operand->(List Value->Prop)->Prop
 | [],K=>K []
 | x ::r,K=>vv F x fun v=>xT F r fun vs=>K (v ::vs)
theorem cO{F:Fr}{a:Act}(h:Ag F a):∀ {xs:List Operand} {K:List Value->Prop},xT F xs K->K (xs.map a.eval)
 | [],_,hk=>hk
 | x ::r,K,hk=>cO h (xs:=r) (K:=fun vs=>K (a.eval x ::vs)) (aL h (x:=x) (K:=fun v=>xT F r fun vs=>K (v ::vs)) hk)
def DK(F:Fr):List (Nat×Operand)->(List (Nat×Value)->Prop)->Prop
 | [],K=>K []
 | (i,x) ::r,K=>vv F x fun v=>DK F r fun vs=>K ((i,v) ::vs)
theorem lE{F:Fr}{a:Act}(h:Ag F a):∀ {xs:List (Nat×Operand)} {K:List (Nat×Value)->Prop},DK F xs K->K (xs.map fun p=>(p.1,a.eval p.2))
 | [],_,hk=>hk
 | (i,x) ::r,K,hk=>lE h (xs:=r) (K:=fun vs=>K ((i,a.eval x) ::vs)) (aL h (x:=x) (K:=fun v=>DK F r fun vs=>K ((i,v) ::vs)) hk)
def gB(F:Fr)(x:Operand)(K:IntKind->Int->Prop):Prop :=
 match ev F x with
 | .v (.int k n)=>K k n
 | _=>False
theorem aY{F:Fr}{a:Act}(h:Ag F a){x:Operand}{K:IntKind->Int->Prop}(hk:gB F x K):∃ k n,a.eval x=.int k n/\K k n:=by
 have:=h.ev x;unfold gB at hk;split at hk
 ·rename_i k n he;rw[he]at this;exact⟨k,n,this,hk⟩
 ·exact hk.elim
def yA(F:Fr)(x:Operand)(K:Addr->Prop):Prop :=
 match ev F x with
 | .v (.pointer (some p))=>K p
 | _=>False
theorem hO{F:Fr}{a:Act}(h:Ag F a){x:Operand}{K:Addr->Prop}(hk:yA F x K):∃ p,a.eval x=.pointer (some p)/\K p:=by
 have:=h.ev x;unfold yA at hk;split at hk
 ·rename_i p he;rw[he]at this;exact⟨p,this,hk⟩
 ·exact hk.elim
/-! ### Whole numbers -/
def aI:IntKind->Int->Prop
 | .i8,z=>-128<=z/\z<=127
 | .i16,z=>-32768<=z/\z<=32767
 | .i32,z=>-2147483648<=z/\z<=2147483647
 | .i64,z=>-9223372036854775808<=z/\z<=9223372036854775807
 | .u8,z=>0<=z/\z<=255
 | .u16,z=>0<=z/\z<=65535
 | .u32,z=>0<=z/\z<=4294967295
 | .u64,z=>0<=z/\z<=18446744073709551615
theorem dP{k:IntKind}{z:Int}(h:aI k z):k.wrap z=z:=by
 cases k <;>simp only[aI]at h <;>simp only[IntKind.wrap,IntKind.bits,IntKind.signed] <;>simp <;>omega
def kD(op:BinOp)(k:IntKind)(x y:Int):Int :=
 match op with
 | .and=>k.wrap ((BitVec.ofInt k.bits x &&& BitVec.ofInt k.bits y).toNat)
 | .or=>k.wrap ((BitVec.ofInt k.bits x ||| BitVec.ofInt k.bits y).toNat)
 | .xor=>k.wrap ((BitVec.ofInt k.bits x^^^BitVec.ofInt k.bits y).toNat)
 | _=>k.wrap ((BitVec.ofInt k.bits x &&& ~~~BitVec.ofInt k.bits y).toNat)
def Dk(wr:Bool)(op:BinOp)(k:IntKind)(x y:Int)(K:SV->Prop):Prop :=
 match op with
 | .add=>bif wr then K (.v (.int k (k.wrap (x+y)))) else aI k (x+y)/\K (.v (.int k (x+y)))
 | .sub=>bif wr then K (.v (.int k (k.wrap (x-y)))) else aI k (x-y)/\K (.v (.int k (x-y)))
 | .mul=>bif wr then K (.v (.int k (k.wrap (x*y)))) else aI k (x*y)/\K (.v (.int k (x*y)))
 | .quo=>bif wr then y≠0/\K (.v (.int k (k.wrap (x.tdiv y)))) else(0<=x/\0<y/\aI k (x / y))/\K (.v (.int k (x / y)))
 | .rem=>bif wr then y≠0/\K (.v (.int k (x.tmod y))) else(0<=x/\0<y)/\K (.v (.int k (x % y)))
 | .and | .or | .xor | .andNot=>K (.v (.int k (kD op k x y)))
 | .eql=>K (.p (x=y) inferInstance)
 | .neq=>K (.p (x≠y) inferInstance)
 | .lss=>K (.p (x<y) inferInstance)
 | .leq=>K (.p (x<=y) inferInstance)
 | .gtr=>K (.p (x>y) inferInstance)
 | .geq=>K (.p (x≥y) inferInstance)
 | _=>False
def sop(wr:Bool)(op:BinOp)(k:IntKind)(x y:Int)(K:SV->Prop):Prop :=
 match op with
 | .shl=>bif wr then 0<=y/\K (.v (.int k (k.wrap (x*2^(min y.toNat k.bits))))) else(0<=y/\aI k (x*2^(min y.toNat k.bits)))/\K (.v (.int k (x*2^(min y.toNat k.bits))))
 | .shr=>0<=y/\K (.v (.int k (x / 2^(min y.toNat k.bits))))
 | _=>False
theorem wI{P:Program}{wr:Bool}{op:BinOp}{k:IntKind}{x y:Int}{t:TypeId}{K:SV->Prop}(h:Dk wr op k x y K):
    ∃ s v,eW s v/\(∀ w,(binOp op t (.int k x) (.int k y)).run P w=.ok v w)/\K s:=by
  cases op <;>simp only[Dk]at h
  case add=>cases wr with
    | true=>exact⟨.v _,_,(rfl:_=_),fun w=>by simp[binOp,Op.intArith],h⟩
    | false=>exact⟨.v _,_,(rfl:_=_),fun w=>by simp[binOp,Op.intArith,dP h.1],h.2⟩
  case sub=>cases wr with
    | true=>exact⟨.v _,_,(rfl:_=_),fun w=>by simp[binOp,Op.intArith],h⟩
    | false=>exact⟨.v _,_,(rfl:_=_),fun w=>by simp[binOp,Op.intArith,dP h.1],h.2⟩
  case mul=>cases wr with
    | true=>exact⟨.v _,_,(rfl:_=_),fun w=>by simp[binOp,Op.intArith],h⟩
    | false=>exact⟨.v _,_,(rfl:_=_),fun w=>by simp[binOp,Op.intArith,dP h.1],h.2⟩
  case quo=>cases wr with
    | true=>exact⟨.v _,_,(rfl:_=_),fun w=>by simp[binOp,Op.intDiv,h.1],h.2⟩
    | false =>
      simp only[cond_false]at h;obtain⟨⟨h1,h2,h3⟩,h4⟩:=h;refine⟨.v _,_,(rfl:_=_),fun w=>?_,h4⟩;simp[binOp,Op.intDiv,show y≠0 by omega,Int.tdiv_eq_ediv_of_nonneg h1,dP h3]
  case rem=>cases wr with
    | true=>exact⟨.v _,_,(rfl:_=_),fun w=>by simp[binOp,Op.intDiv,h.1],h.2⟩
    | false =>
      simp only[cond_false]at h;obtain⟨⟨h1,h2⟩,h4⟩:=h;refine⟨.v _,_,(rfl:_=_),fun w=>?_,h4⟩;simp[binOp,Op.intDiv,show y≠0 by omega,Int.tmod_eq_emod_of_nonneg h1]
  case and=>exact⟨.v _,_,(rfl:_=_),fun w=>by simp[binOp,Op.intBits,kD],h⟩
  case or=>exact⟨.v _,_,(rfl:_=_),fun w=>by simp[binOp,Op.intBits,kD],h⟩
  case xor=>exact⟨.v _,_,(rfl:_=_),fun w=>by simp[binOp,Op.intBits,kD],h⟩
  case andNot=>exact⟨.v _,_,(rfl:_=_),fun w=>by simp[binOp,Op.intBits,kD],h⟩
  case eql=>exact⟨.p _ _,_,(rfl:_=_),fun w=>by simp[binOp,Op.intCmp];rfl,h⟩
  case neq=>exact⟨.p _ _,_,(rfl:_=_),fun w=>by simp[binOp,Op.intCmp,bne];rfl,h⟩
  case lss=>exact⟨.p _ _,_,(rfl:_=_),fun w=>by simp[binOp,Op.intCmp],h⟩
  case leq=>exact⟨.p _ _,_,(rfl:_=_),fun w=>by simp[binOp,Op.intCmp],h⟩
  case gtr=>exact⟨.p _ _,_,(rfl:_=_),fun w=>by simp[binOp,Op.intCmp],h⟩
  case geq=>exact⟨.p _ _,_,(rfl:_=_),fun w=>by simp[binOp,Op.intCmp],h⟩
theorem BQ{P:Program}{wr:Bool}{op:BinOp}{k yk:IntKind}{x y:Int}{t:TypeId}{K:SV->Prop}(h:sop wr op k x y K):
    ∃ s v,eW s v/\(∀ w,(binOp op t (.int k x) (.int yk y)).run P w=.ok v w)/\K s:=by
  cases op <;>simp only[sop]at h
  case shl=>cases wr with
    | true =>
      simp only[cond_true]at h;exact⟨.v _,_,(rfl:_=_),fun w=>by simp[binOp,Op.shift,show ¬ y<0 by omega],h.2⟩
    | false =>
      simp only[cond_false]at h;exact⟨.v _,_,(rfl:_=_),fun w=>by simp[binOp,Op.shift,show ¬ y<0 by omega,dP h.1.2],h.2⟩
  case shr =>
    refine⟨.v _,_,(rfl:_=_),fun w=>?_,h.2⟩;have:(0:Int)<=2^(min y.toNat k.bits):=Int.pow_nonneg (by omega);simp[binOp,Op.shift,show ¬ y<0 by omega,Int.fdiv_eq_ediv_of_nonneg _ this]
end Go.V
/-! The own library V, part 3: operations that compute: what must hold for them, and what they yield. -/
namespace Go.V
/-! ### Something of a type -/
def zZ(s:Sh)(K:SV->Value->Prop):Prop :=
 match s with
 | .int k=>∃ x:Int,K (.v (.int k x)) (.int k x)
 | .bool=>∃ c:Bool,K (.b c) (.bool c)
 | .str=>∃ x:ByteArray,K (.v (.string x)) (.string x)
 | .slice=>∃(A:OA)(n c:Nat),K (.v (.slice A n c)) (.slice A n c)
 | .ptr=>∃ a:OA,K (.v (.pointer a)) (.pointer a)
 | .map=>∃ r:Option Nat,K (.v (.map r)) (.map r)
 | .any=>∃ x:Value,K (.v x) x
 | .addr=>∃ a:Addr,K (.v (.pointer (some a))) (.pointer (some a))
 | .cst x=>K (.v x) x
def DC:List Sh->(List Value->Prop)->Prop
 | [],K=>K []
 | s ::r,K=>zZ s fun _ v=>DC r fun vs=>K (v ::vs)
def AN(te:TE)(K:SV->Value->Prop):Prop :=
 match te.ld with
 | .struct _ | .arr _ _=>DC te.shs fun cs=>K (.v (.agg cs.toArray)) (.agg cs.toArray)
 | _=>zZ (te.shs.headD .any) K
def wV(T:qG):List Nat->(List Value->Prop)->Prop
 | [],K=>K []
 | t ::r,K=>match tf T t with
  | some te=>AN te fun _ v=>wV T r fun vs=>K (v ::vs)
  | none=>False
def xU(T:qG)(t:Nat)(K:SV->Value->Prop):Prop :=
 match tf T t with
 | some te=>(match te.ld with
  | .tup ts=>wV T ts fun vs=>K (.v (.tuple vs.toArray)) (.tuple vs.toArray)
  | _=>AN te K)
 | none=>False
theorem iM{s:Sh}{K:SV->Value->Prop}(h:zZ s K):∃ x v,eW x v/\K x v:=by
 cases s <;>simp only[zZ]at h
 case slice=>obtain⟨A,n,c,h⟩:=h;exact⟨.v _,_,(rfl:_=_),h⟩
 case bool=>obtain⟨c,h⟩:=h;exact⟨.b _,_,(rfl:_=_),h⟩
 case cst x=>exact⟨.v _,_,(rfl:_=_),h⟩
 all_goals (obtain⟨x,h⟩:=h;exact⟨.v _,_,(rfl:_=_),h⟩)
theorem mZ:∀ {s:List Sh} {K:List Value->Prop},DC s K->∃ vs,K vs
 | [],_,h=>⟨[],h⟩
 | s ::r,K,h=>by
  obtain⟨_,v,_,h⟩:=iM h;obtain⟨vs,h⟩:=mZ h;exact⟨v ::vs,h⟩
theorem qD{te:TE}{K:SV->Value->Prop}(h:AN te K):∃ x v,eW x v/\K x v:=by
 unfold AN at h;split at h
 ·obtain⟨vs,h⟩:=mZ h;exact⟨.v _,_,(rfl:_=_),h⟩
 ·obtain⟨vs,h⟩:=mZ h;exact⟨.v _,_,(rfl:_=_),h⟩
 ·exact iM h
theorem lA{T:qG}:∀ {s:List Nat} {K:List Value->Prop},wV T s K->∃ vs,K vs
 | [],_,h=>⟨[],h⟩
 | s ::r,K,h=>by
  unfold wV at h;split at h
  ·obtain⟨_,v,_,h⟩:=qD h;obtain⟨vs,h⟩:=lA h;exact⟨v ::vs,h⟩
  ·exact h.elim
theorem dK{T:qG}{t:Nat}{K:SV->Value->Prop}(h:xU T t K):∃ x v,eW x v/\K x v:=by
 unfold xU at h;split at h
 ·split at h
  ·obtain⟨vs,h⟩:=lA h;exact⟨.v _,_,(rfl:_=_),h⟩
  ·exact qD h
 ·exact h.elim
/-! ### Small words -/
def bN(A:OA)(c l sz:Nat):OA:=if c=l then A else A.map (·.add (l*sz))
def mx(x y:Int):Int:=if y>x then y else x
def mn(x y:Int):Int:=if y<x then y else x
def bt(s:ByteArray)(i:Nat):Int:=((s.data.toList.getD i 0).toNat:Int)
def mxs(k:IntKind):Int->List Value->(Int->Prop)->Prop
 | x,[],K=>K x
 | x,.int _ y ::r,K=>mxs k (mx x y) r K
 | _,_,_=>False
def mns(k:IntKind):Int->List Value->(Int->Prop)->Prop
 | x,[],K=>K x
 | x,.int _ y ::r,K=>mns k (mn x y) r K
 | _,_,_=>False
def tV(i:Int):Nat->List Value->(SV->Prop)->Prop
 | _,[],_=>True
 | j,c ::r,K=>(i=(j:Int)->K (mk c))/\tV i (j+1) r K
def tX(sz:Nat)(cs:List Value)(i:Int):Nat->Nat->(SV->Prop)->Prop
 | _,0,_=>True
 | j,c+1,K=>(i=(j:Int)->K (.v (.agg ((cs.drop (j*sz)).take sz).toArray)))/\tX sz cs i (j+1) c K
def Ar(T:qG):List (Nat×Nat)->(List (Nat×Nat)->Prop)->Prop
 | [],K=>K []
 | (o,t) ::r,K=>match tf T t with
  | some te=>Ar T r fun l=>K ((o,te.size) ::l)
  | none=>False
def uV(a:Addr)(i sz:Nat):Addr:=bif Nat.beq sz 1 then a.add i else a.add (i*sz)
theorem sY(a:Addr)(i sz:Nat):uV a i sz=a.add (i*sz):=by
 unfold uV;cases h:Nat.beq sz 1 with
 | true =>
  have:sz=1:=Nat.eq_of_beq_eq_true h;simp[this]
 | false=>rfl
def semP(ρ:Operand->Value)(o:Oper):Option (Sem Value) :=
 match o.op with
 | .binOp op t x y _=>some (do eqGuard op t x y (ρ x) (ρ y);Go.binOp op t (ρ x) (ρ y))
 | .unOp op _ x=>some (Op.unary op (ρ x))
 | .convert src dst x=>some (Go.convert src dst (ρ x))
 | .makeInterface t x=>some (Instr.makeInterface t (ρ x))
 | .typeAssert x t u ok=>some (Instr.typeAssert (ρ x) t u ok)
 | .makeMap t r=>some (Instr.makeMap t (r.map ρ))
 | .makeSlice t l c=>some (Instr.makeSlice t (ρ l) (ρ c))
 | .slice t x lo hi mx=>some (Instr.sliceAt t (ρ x) (lo.map ρ) (hi.map ρ) (mx.map ρ))
 | .index t x i=>some (Instr.index t (ρ x) (ρ i))
 | .lookup t x i ok=>some (Instr.lookup t (ρ x) (ρ i) ok)
 | .mapEntry t m k=>some (Instr.mapEntry t (ρ m) (ρ k))
 | .range t x=>some (Instr.range t (ρ x))
 | .next it s=>some (Instr.next (ρ it) s o.type)
 | .entry it=>some (Instr.entry (ρ it))
 | .call { callee:=.builtin .append,args,argTypes }=>some (Builtin.append_ argTypes o.type (args.map ρ))
 | .call { callee:=.builtin .copy,args,argTypes }=>some (Builtin.copy_ argTypes o.type (args.map ρ))
 | .call { callee:=.builtin .delete,args,argTypes }=>some (Builtin.delete_ argTypes o.type (args.map ρ))
 | .call { callee:=.builtin .clear,args,argTypes }=>some (Builtin.clear_ argTypes o.type (args.map ρ))
 | .call { callee:=.builtin .len,args,argTypes }=>some (Builtin.len_ argTypes o.type (args.map ρ))
 | _=>none
theorem Bg{P:Program}{ρ:Operand->Value}{o:Oper}{s:Sem Value}(h:semP ρ o=some s)(w:World):(execOp ρ o).run P w=(s.run P w).andThen fun v w'=>.ok (.value v) w':=by
 obtain⟨d,op,t,pos,after,g⟩:=o;have e:∀ x:Sem Value,(do pure (Next.value (← x)):Sem Next).run P w=(x.run P w).andThen fun v w'=>.ok (.value v) w':=fun x=>by simp
 have r:∀(b:Builtin)(args:Array Operand)(ts:Array TypeId),(execOp ρ ⟨d,.call ⟨.builtin b,args,ts⟩,t,pos,after,g⟩).run P w=(builtin b ts t (args.map fun | .const _=>true | _=>false) (args.map ρ)).run P w:=fun b args ts=>by
  simp only[execOp,resolve];rfl
 unfold semP at h;split at h
 case h_15 ho=>simp only at ho;cases ho;cases h;rw[r];exact e _
 case h_16 ho=>simp only at ho;cases ho;cases h;rw[r];exact e _
 case h_17 ho=>simp only at ho;cases ho;cases h;rw[r];exact e _
 case h_18 ho=>simp only at ho;cases ho;cases h;rw[r];exact e _
 case h_19 ho=>simp only at ho;cases ho;cases h;rw[r];exact e _
 case h_20=>cases h
 all_goals (rename_i ho;simp only at ho;cases ho;cases h;simp only[execOp];exact e _)
/-! ### Operations that compute -/
def aZ(P:Program)(T:qG)(wr:Bool)(o:Oper)(F:Fr)(K:SV->Prop):Prop :=
 match o.op with
 | .move x | .assign x=>K (ev F x)
 | .pick c a b=>(match ev F c with
  | .v (.bool true)=>K (ev F a)
  | .v (.bool false)=>K (ev F b)
  | _=>False)
 | .nilCheck x=>(match ev F x with
  | .v (.pointer p)=>∃ a,p=some a/\K (.v (.pointer (some a)))
  | .v (.func (.func g) f c)=>K (.v (.func (.func g) f c))
  | _=>False)
 | .binOp op t x y _=>(match op with
  | .shl | .shr=>gB F x fun k a=>gB F y fun _ b=>sop wr op k a b K
  | .eql | .neq=>(match ev F x,ev F y with
   | .v (.int k a),.v (.int k' b)=>if k=k' then Dk wr op k a b K else False
   | .v (.pointer p),.v (.pointer none)=>(match tf T t with
    | some ⟨.ptr _,_,_,_,_⟩=>(match op with
     | .eql=>K (.p (p=none) inferInstance)
     | _=>K (.p (p≠none) inferInstance))
    | _=>False)
   | .v (.slice A _ _),.v (.slice none _ _)=>(match tf T t with
    | some ⟨.slice _,_,_,_,_⟩=>(match op with
     | .eql=>K (.p (A=none) inferInstance)
     | _=>K (.p (A≠none) inferInstance))
    | _=>False)
   | .v (.map r),.v (.map none)=>(match tf T t with
    | some ⟨.map _ _,_,_,_,_⟩=>(match op with
     | .eql=>K (.p (r=none) inferInstance)
     | _=>K (.p (r≠none) inferInstance))
    | _=>False)
   | _,_=>vv F x fun a=>vv F y fun b=>xU T o.type fun s v=>(∀ w,(do eqGuard op t x y a b;Go.binOp op t a b:Sem Value).run P w=.ok v w)/\K s)
  | _=>(match ev F x,ev F y with
   | .v (.int k a),.v (.int k' b)=>if k=k' then Dk wr op k a b K else False
   | _,_=>vv F x fun a=>vv F y fun b=>xU T o.type fun s v=>(∀ w,(Go.binOp op t a b:Sem Value).run P w=.ok v w)/\K s))
 | .unOp op _ x=>(match op,ev F x with
  | .not,.v (.bool true)=>K (.v (.bool false))
  | .not,.v (.bool false)=>K (.v (.bool true))
  | .not,.b c=>K (.p (c=false) inferInstance)
  | .not,.p q d=>K (.p (¬ q) (@instDecidableNot q d))
  | .neg,.v (.int k a)=>Dk wr .sub k 0 a K
  | .xor,.v (.int k a)=>K (.v (.int k (kD .xor k (if k.signed then -1 else k.max) a)))
  | _,_=>False)
 | .fieldAddr s x f=>(match tf T s with
  | some ⟨.struct fs,_,_,_,_⟩=>(match fs[f]? with
   | some (off,ty)=>(match tf T ty with
    | some te=>bif Nat.beq te.size 0 then False else yA F x fun a=>K (.v (.pointer (some (a.add off))))
    | none=>False)
   | none=>False)
  | _=>False)
 | .field s x f=>(match tf T s with
  | some ⟨.struct fs,_,_,_,_⟩=>(match fs[f]? with
   | some (off,ty)=>(match tf T ty with
    | some te=>vv F x fun v=>(match v with
     | .agg cs=>bif te.ld.agg then K (.v (.agg (cs.extract off (off+te.size)))) else(match cs[off]? with
      | some c=>K (mk c)
      | none=>False)
     | _=>False)
    | none=>False)
   | none=>False)
  | _=>False)
 | .indexAddr t x ix=>gB F ix fun _ i=>(match tf T t with
  | some ⟨.slice e,_,_,_,_⟩=>(match tf T e with
   | some te=>(match ev F x with
    | .v (.slice A n _)=>∃ a,A=some a/\0<=i/\i<(n:Int)/\K (.v (.pointer (some (uV a i.toNat te.size))))
    | _=>False)
   | none=>False)
  | some ⟨.arr n e,_,_,_,_⟩=>(match tf T e with
   | some te=>yA F x fun a=>(0<=i/\i<(n:Int))/\K (.v (.pointer (some (uV a i.toNat te.size))))
   | none=>False)
  | _=>False)
 | .index t x ix=>gB F ix fun _ i=>(match tf T t with
  | some ⟨.arr n e,_,_,_,_⟩=>(match tf T e with
   | some te=>vv F x fun v=>(match v with
    | .agg cs=>bif te.ld.agg then(0<=i/\i<(n:Int))/\tX te.size cs.toList i 0 n K else bif Nat.beq te.size 1 then bif Nat.beq cs.size n then(0<=i/\i<(n:Int))/\tV i 0 cs.toList K else False else False
    | _=>False)
   | none=>False)
  | some ⟨.str,_,_,_,_⟩=>vv F x fun v=>(match v with
   | .string s=>(0<=i/\i<(s.size:Int))/\K (.v (.int .u8 (bt s i.toNat)))
   | _=>False)
  | _=>False)
 | .slice t x lo hi none=>(match tf T t with
  | some ⟨.slice e,_,_,_,_⟩=>(match tf T e with
   | some te=>(match ev F x with
    | .v (.slice A n c)=>(match lo,hi with
     | none,none=>K (.v (.slice A n c))
     | none,some h=>gB F h fun _ h=>(0<=h/\h<=(c:Int))/\K (.v (.slice A h.toNat c))
     | some l,none=>gB F l fun _ l=>(0<=l/\l<=(n:Int))/\K (.v (.slice (bN A c l.toNat te.size) (n-l.toNat) (c-l.toNat)))
     | some l,some h=>gB F l fun _ l=>gB F h fun _ h=>(0<=h/\h<=(c:Int)/\0<=l/\l<=h)/\K (.v (.slice (bN A c l.toNat te.size) (h.toNat-l.toNat) (c-l.toNat))))
    | _=>False)
   | none=>False)
  | some ⟨.str,_,_,_,_⟩=>(match ev F x with
   | .v (.string s)=>(match lo,hi with
    | none,none=>K (.v (.string (s.extract 0 s.size)))
    | none,some h=>gB F h fun _ h=>(0<=h/\h<=(s.size:Int))/\K (.v (.string (s.extract 0 h.toNat)))
    | some l,none=>gB F l fun _ l=>(0<=l/\l<=(s.size:Int))/\K (.v (.string (s.extract l.toNat s.size)))
    | some l,some h=>gB F l fun _ l=>gB F h fun _ h=>(0<=h/\h<=(s.size:Int)/\0<=l/\l<=h)/\K (.v (.string (s.extract l.toNat h.toNat))))
   | _=>False)
  | some ⟨.arr _ _,_,_,_,_⟩=>vv F x fun m=>(match lo,hi with
   | none,some h=>gB F h fun k h=>xU T o.type fun s v=>(∀ w,(Instr.sliceAt t m none (some (.int k h)) none).run P w=.ok v w)/\K s
   | _,_=>False)
  | _=>False)
 | .slice t x (some l) (some h) (some mo)=>(match tf T t with
  | some ⟨.slice e,_,_,_,_⟩=>(match tf T e with
   | some te=>(match ev F x with
    | .v (.slice A _ c)=>gB F l fun _ l=>gB F h fun _ h=>gB F mo fun _ m=>(0<=m/\m<=(c:Int)/\0<=h/\h<=m/\0<=l/\l<=h)/\K (.v (.slice (bN A m.toNat l.toNat te.size) (h.toNat-l.toNat) (m.toNat-l.toNat)))
    | _=>False)
   | none=>False)
  | _=>False)
 | .build t parts=>(match tf T t with
  | some ⟨.struct fs,_,_,z,_⟩=>Ar T fs fun ps=>DK F parts.toList fun vs=>(match Instr.fill (ps[·]?) z.cells vs with
   | some cells=>K (.v (.agg cells))
   | none=>False)
  | some ⟨.arr _ e,_,_,z,_⟩=>(match tf T e with
   | some te=>DK F parts.toList fun vs=>(match Instr.fill (fun i=>some (i*te.size,te.size)) z.cells vs with
    | some cells=>K (.v (.agg cells))
    | none=>False)
   | none=>False)
  | _=>False)
 | .makeFunc fn first captured=>xT F first.toList fun f=>xT F captured.toList fun c=>K (.v (.func fn f.toArray c.toArray))
 | .extract x i=>(match ev F x with
  | .v (.tuple vs)=>(match vs[i]? with
   | some v=>K (mk v)
   | none=>False)
  | _=>False)
 | .convert src dst x=>(match tf T src,tf T dst,ev F x with
  | some ⟨.int _,_,_,_,_⟩,some ⟨.int k,_,_,_,_⟩,.v (.int _ n)=>bif wr then K (.v (.int k (k.wrap n))) else aI k n/\K (.v (.int k n))
  | some ⟨.str,_,_,_,_⟩,some ⟨.str,_,_,_,_⟩,.v (.string s)=>K (.v (.string s))
  | _,_,_=>False)
 | .makeInterface t x=>(match tf T t with
  | some ⟨.ptr _,_,_,_,_⟩=>vv F x fun a=>K (.v (.iface t a))
  | _=>vv F x fun a=>xU T o.type fun s v=>(∀ w,(Instr.makeInterface t a).run P w=.ok v w)/\K s)
 | .call { callee:=.builtin .len,args,argTypes }=>(match args[0]?,argTypes[0]? with
  | some x,some t=>(match tf T t with
   | some ⟨.slice _,_,_,_,_⟩=>(match ev F x with
    | .v (.slice _ n _)=>K (.v (.int .i64 (n:Int)))
    | _=>False)
   | some ⟨.str,_,_,_,_⟩=>(match ev F x with
    | .v (.string s)=>K (.v (.int .i64 (s.size:Int)))
    | _=>False)
   | some ⟨.arr n _,_,_,_,_⟩=>K (.v (.int .i64 (n:Int)))
   | _=>False)
  | _,_=>False)
 | .call { callee:=.builtin .max,args,.. }=>(match args.toList with
  | x ::r=>gB F x fun k x=>xT F r fun vs=>mxs k x vs fun z=>K (.v (.int k z))
  | _=>False)
 | .call { callee:=.builtin .min,args,.. }=>(match args.toList with
  | x ::r=>gB F x fun k x=>xT F r fun vs=>mns k x vs fun z=>K (.v (.int k z))
  | _=>False)
 | _=>False
end Go.V
/-! The own library V, part 4: operations that compute yield what part 3 says. -/
namespace Go.V
variable {P : Program} {T : qG} {F : Fr} {a : Act} {wr : Bool} {K : SV → Prop} {dst : Option Tmp} {ty : TypeId} {pos : String} {after : Array Edge} {guard : Option (Nat × Bool)}
def dN(P:Program)(o:Oper)(a:Act)(K:SV->Prop):Prop:=∃ s v,eW s v/\(∀ w,(execOp a.eval o).run P w=.ok (.value v) w)/\K s
theorem dN.of{o:Oper}{S:Sem Value}(ho:∀ w,(execOp a.eval o).run P w=(S.run P w).andThen fun v w'=>.ok (.value v) w')(h:∃ s v,eW s v/\(∀ w,S.run P w=.ok v w)/\K s):dN P o a K:=by
 obtain⟨s,v,h1,h2,h3⟩:=h;exact⟨s,v,h1,fun w=>by rw[ho,h2];rfl,h3⟩
theorem aS{ρ:Operand->Value}{o:Oper}{S:Sem Value}(h:execOp ρ o=(do pure (Next.value (← S))))(w:World):(execOp ρ o).run P w=(S.run P w).andThen fun v w'=>.ok (.value v) w':=by
 rw[h];simp
theorem wZ(d:Nat){t e:TypeId}(h:P.underlying t=some (.pointer e))(p:OA)(w:World):(Op.equalIn (d+1) t (.pointer p) (.pointer none)).run P w=.ok p.isNone w:=by
 cases p <;>simp[Op.equalIn,Ty.run_und w h]
theorem qE(d:Nat){t e:TypeId}(h:P.underlying t=some (.slice e))(A:OA)(n c n' c':Nat)(w:World):(Op.equalIn (d+1) t (.slice A n c) (.slice none n' c')).run P w=.ok A.isNone w:=by
 cases A <;>simp[Op.equalIn,Ty.run_und w h]
theorem xA(d:Nat){t k e:TypeId}(h:P.underlying t=some (.map k e))(r:Option Nat)(w:World):(Op.equalIn (d+1) t (.map r) (.map none)).run P w=.ok r.isNone w:=by
 cases r <;>simp[Op.equalIn,Ty.run_und w h]
theorem fF{op:BinOp}{t:TypeId}{x y:Operand}{A B:Value}(h1:∀ cs,A≠.agg cs)(h2:A≠.nilIface):eqGuard op t x y A B=pure ():=by
 unfold eqGuard;cases op <;>simp
 all_goals (split <;>first | rfl | exact absurd rfl h2 | exact absurd rfl (h1 _))
theorem kY{α:Type}[DecidableEq α](p:Option α):p.isNone=decide (p=none):=by cases p <;>simp
theorem kX{α:Type}[DecidableEq α](p:Option α):(!p.isNone)=decide (p≠none):=by cases p <;>simp
theorem zR (hT:oI P T) (hA:Ag F a) {op:BinOp} {t yt:TypeId} {x y:Operand}
    (h:aZ P T wr ⟨dst,.binOp op t x y yt,ty,pos,after,guard⟩ F K):dN P ⟨dst,.binOp op t x y yt,ty,pos,after,guard⟩ a K:=by
  refine dN.of (S:=do eqGuard op t x y (a.eval x) (a.eval y);Go.binOp op t (a.eval x) (a.eval y)) (aS (by simp only[execOp])) ?_;have noguard:∀(A B:Value),(op≠.eql/\op≠.neq)->∀ w,(do eqGuard op t x y A B;Go.binOp op t A B:Sem Value).run P w=(Go.binOp op t A B).run P w:=by
    intro A B Fk w;have:eqGuard op t x y A B=pure ():=by
      unfold eqGuard;cases op <;>simp at Fk ⊢
    rw[this];simp
  have intguard:∀(k k':IntKind)(m n:Int),∀ w,(do eqGuard op t x y (.int k m) (.int k' n);Go.binOp op t (.int k m) (.int k' n):Sem Value).run P w=(Go.binOp op t (.int k m) (.int k' n)).run P w:=by
    intro k k' m n w;have:eqGuard op t x y (.int k m) (.int k' n)=pure ():=by
      unfold eqGuard;cases op <;>simp
    rw[this];simp
  have shift:(op=.shl∨op=.shr)->(gB F x fun k m=>gB F y fun _ n=>sop wr op k m n K)->∃ s v,eW s v/\(∀ w,(do eqGuard op t x y (a.eval x) (a.eval y);Go.binOp op t (a.eval x) (a.eval y):Sem Value).run P w=.ok v w)/\K s:=by
    intro _ h;obtain⟨k,m,hx,h⟩:=aY hA h;obtain⟨k',n,hy,h⟩:=aY hA h;obtain⟨s,v,h1,h2,h3⟩:=BQ (P:=P) (yk:=k') (t:=t) h;exact⟨s,v,h1,fun w=>by rw[hx,hy,intguard];exact h2 w,h3⟩
  have ints:∀ {k k':IntKind} {m n:Int},ev F x=.v (.int k m)->ev F y=.v (.int k' n)->(if k=k' then Dk wr op k m n K else False) →
      ∃ s v,eW s v/\(∀ w,(do eqGuard op t x y (a.eval x) (a.eval y);Go.binOp op t (a.eval x) (a.eval y):Sem Value).run P w=.ok v w)/\K s:=by
    intro k k' m n hx hy h;have Ep:a.eval x=.int k m:=by have:=hA.ev x;rw[hx]at this;exact this
    have EQ:a.eval y=.int k' n:=by have:=hA.ev y;rw[hy]at this;exact this
    split at h
    · rename_i hk;subst hk;obtain⟨s,v,h1,h2,h3⟩:=wI (P:=P) (t:=t) h;exact⟨s,v,h1,fun w=>by rw[Ep,EQ,intguard];exact h2 w,h3⟩
    · exact h.elim
  have other:(op≠.eql/\op≠.neq)->(vv F x fun A=>vv F y fun B=>xU T ty fun s v=>(∀ w,(Go.binOp op t A B:Sem Value).run P w=.ok v w)/\K s) →
      ∃ s v,eW s v/\(∀ w,(do eqGuard op t x y (a.eval x) (a.eval y);Go.binOp op t (a.eval x) (a.eval y):Sem Value).run P w=.ok v w)/\K s:=by
    intro Fk h;obtain⟨s,v,h1,h2,h3⟩:=dK (aL hA (aL hA h));exact⟨s,v,h1,fun w=>by rw[noguard _ _ Fk];exact h2 w,h3⟩
  have main:(op≠.eql/\op≠.neq)->∀ hh:(match ev F x,ev F y with
      | .v (.int k a),.v (.int k' b)=>if k=k' then Dk wr op k a b K else False
      | _,_=>vv F x fun A=>vv F y fun B=>xU T ty fun s v=>(∀ w,(Go.binOp op t A B:Sem Value).run P w=.ok v w)/\K s),
      ∃ s v,eW s v/\(∀ w,(do eqGuard op t x y (a.eval x) (a.eval y);Go.binOp op t (a.eval x) (a.eval y):Sem Value).run P w=.ok v w)/\K s:=by
    intro Fk h;split at h
    · rename_i hx hy;exact ints hx hy h
    · exact other Fk h
  have eqs:(op=.eql∨op=.neq)->∀ hh:(match ev F x,ev F y with
      | .v (.int k a),.v (.int k' b)=>if k=k' then Dk wr op k a b K else False
      | .v (.pointer p),.v (.pointer none)=>(match tf T t with
        | some ⟨.ptr _,_,_,_,_⟩=>(match op with
          | .eql=>K (.p (p=none) inferInstance)
          | _=>K (.p (p≠none) inferInstance))
        | _=>False)
      | .v (.slice A _ _),.v (.slice none _ _)=>(match tf T t with
        | some ⟨.slice _,_,_,_,_⟩=>(match op with
          | .eql=>K (.p (A=none) inferInstance)
          | _=>K (.p (A≠none) inferInstance))
        | _=>False)
      | .v (.map r),.v (.map none)=>(match tf T t with
        | some ⟨.map _ _,_,_,_,_⟩=>(match op with
          | .eql=>K (.p (r=none) inferInstance)
          | _=>K (.p (r≠none) inferInstance))
        | _=>False)
      | _,_=>vv F x fun A=>vv F y fun B=>xU T ty fun s v=>(∀ w,(do eqGuard op t x y A B;Go.binOp op t A B:Sem Value).run P w=.ok v w)/\K s),
      ∃ s v,eW s v/\(∀ w,(do eqGuard op t x y (a.eval x) (a.eval y);Go.binOp op t (a.eval x) (a.eval y):Sem Value).run P w=.ok v w)/\K s:=by
    intro Fk h;split at h
    · rename_i hx hy;exact ints hx hy h
    · rename_i p hx hy;have Ep:a.eval x=.pointer p:=by have:=hA.ev x;rw[hx]at this;exact this
      have EQ:a.eval y=.pointer none:=by have:=hA.ev y;rw[hy]at this;exact this
      split at h
      · rename_i e _ _ _ _ ht;have hu:=(hT.get ht).ptr rfl;rcases Fk with rfl | rfl
        · refine⟨.p _ _,_,(rfl:_=_),fun w=>?_,h⟩;rw[Ep,EQ];rw[fF (by simp) (by simp)];simp only[pure_bind];show((do pure (.bool (← Op.equalIn (9999+1) t _ _)):Sem Value)).run P w=_;simp only[Sem.run_bind,wZ 9999 hu,Result.andThen_ok,kY];rfl
        · refine⟨.p _ _,_,(rfl:_=_),fun w=>?_,h⟩;rw[Ep,EQ];rw[fF (by simp) (by simp)];simp only[pure_bind];show((do pure (.bool (!(← Op.equalIn (9999+1) t _ _))):Sem Value)).run P w=_;simp only[Sem.run_bind,wZ 9999 hu,Result.andThen_ok,kX];rfl
      · exact h.elim
    · rename_i A n c n' c' hx hy;have Ep:a.eval x=.slice A n c:=by have:=hA.ev x;rw[hx]at this;exact this
      have EQ:a.eval y=.slice none n' c':=by have:=hA.ev y;rw[hy]at this;exact this
      split at h
      · rename_i e _ _ _ _ ht;have hu:=(hT.get ht).slice rfl;rcases Fk with rfl | rfl
        · refine⟨.p _ _,_,(rfl:_=_),fun w=>?_,h⟩;rw[Ep,EQ];rw[fF (by simp) (by simp)];simp only[pure_bind];show((do pure (.bool (← Op.equalIn (9999+1) t _ _)):Sem Value)).run P w=_;simp only[Sem.run_bind,qE 9999 hu,Result.andThen_ok,kY];rfl
        · refine⟨.p _ _,_,(rfl:_=_),fun w=>?_,h⟩;rw[Ep,EQ];rw[fF (by simp) (by simp)];simp only[pure_bind];show((do pure (.bool (!(← Op.equalIn (9999+1) t _ _))):Sem Value)).run P w=_;simp only[Sem.run_bind,qE 9999 hu,Result.andThen_ok,kX];rfl
      · exact h.elim
    · rename_i r hx hy;have Ep:a.eval x=.map r:=by have:=hA.ev x;rw[hx]at this;exact this
      have EQ:a.eval y=.map none:=by have:=hA.ev y;rw[hy]at this;exact this
      split at h
      · rename_i k e _ _ _ _ ht;have hu:=(hT.get ht).map rfl;rcases Fk with rfl | rfl
        · refine⟨.p _ _,_,(rfl:_=_),fun w=>?_,h⟩;rw[Ep,EQ];rw[fF (by simp) (by simp)];simp only[pure_bind];show((do pure (.bool (← Op.equalIn (9999+1) t _ _)):Sem Value)).run P w=_;simp only[Sem.run_bind,xA 9999 hu,Result.andThen_ok,kY];rfl
        · refine⟨.p _ _,_,(rfl:_=_),fun w=>?_,h⟩;rw[Ep,EQ];rw[fF (by simp) (by simp)];simp only[pure_bind];show((do pure (.bool (!(← Op.equalIn (9999+1) t _ _))):Sem Value)).run P w=_;simp only[Sem.run_bind,xA 9999 hu,Result.andThen_ok,kX];rfl
      · exact h.elim
    · obtain⟨s,v,h1,h2,h3⟩:=dK (aL hA (aL hA h));exact⟨s,v,h1,h2,h3⟩
  simp only[aZ]at h;cases op
  case shl=>exact shift (.inl rfl) h
  case shr=>exact shift (.inr rfl) h
  case eql=>exact eqs (.inl rfl) h
  case neq=>exact eqs (.inr rfl) h
  all_goals exact main (by simp) h
theorem Bo(hA:Ag F a){op:UnOp}{t:TypeId}{x:Operand}
    (h:aZ P T wr ⟨dst,.unOp op t x,ty,pos,after,guard⟩ F K):dN P ⟨dst,.unOp op t x,ty,pos,after,guard⟩ a K:=by
  refine dN.of (S:=Op.unary op (a.eval x)) (aS (by simp only[execOp])) ?_;have hx:=hA.ev x;simp only[aZ]at h;split at h
  · rename_i he;rw[he]at hx;simp only[eW]at hx;exact⟨.v _,_,(rfl:_=_),fun w=>by rw[hx];simp[Op.unary],h⟩
  · rename_i he;rw[he]at hx;simp only[eW]at hx;exact⟨.v _,_,(rfl:_=_),fun w=>by rw[hx];simp[Op.unary],h⟩
  · rename_i c he;rw[he]at hx;simp only[eW]at hx;exact⟨.p _ _,_,(rfl:_=_),fun w=>by rw[hx];cases c <;>simp[Op.unary],h⟩
  · rename_i q d he;rw[he]at hx;simp only[eW]at hx;exact⟨.p _ _,_,(rfl:_=_),fun w=>by rw[hx];simp[Op.unary],h⟩
  · rename_i k m he;rw[he]at hx;simp only[eW]at hx;obtain⟨s,v,h1,h2,h3⟩:=wI (P:=P) (t:=0) h;refine⟨s,v,h1,fun w=>?_,h3⟩;rw[hx,← h2 w];simp[Op.unary,Go.binOp]
  · rename_i k m he;rw[he]at hx;simp only[eW]at hx;exact⟨.v _,_,(rfl:_=_),fun w=>by rw[hx];simp[Op.unary,Op.intBits,kD],h⟩
  · exact h.elim
theorem qB (hT:oI P T) (hA:Ag F a) {s:TypeId} {x:Operand} {f:Nat}
    (h:aZ P T wr ⟨dst,.fieldAddr s x f,ty,pos,after,guard⟩ F K):dN P ⟨dst,.fieldAddr s x f,ty,pos,after,guard⟩ a K:=by
  refine dN.of (S:=Instr.fieldAt s (a.eval x) f) (aS (by simp only[execOp])) ?_;simp only[aZ]at h;split at h
  · rename_i fs _ _ _ _ hs;split at h
    · rename_i off ft hf;split at h
      · rename_i te DT;obtain⟨fa,hu,El⟩:=(hT.get hs).struct rfl;have hz:Nat.beq te.size 0=false:=by
          cases hb:Nat.beq te.size 0 with
          | false=>rfl
          | true=>rw[hb]at h;exact h.elim
        rw[hz]at h;simp only[cond_false]at h;obtain⟨p,hp,hK⟩:=hO hA h;refine⟨.v _,_,(rfl:_=_),fun w=>?_,hK⟩;have DN:te.size≠0:=fun e=>by rw[e]at hz;simp at hz
        have Iw:∃ g,fa[f]?=some g/\g.offset=off/\g.type=ft:=by
          rw[← El]at hf;simp only[List.getElem?_map,Option.map_eq_some_iff,Prod.mk.injEq]at hf;obtain⟨g,hg,h1,h2⟩:=hf;exact⟨g,by simpa using hg,h1,h2⟩
        obtain⟨g,hg,rfl,rfl⟩:=Iw;rw[hp];simp[Instr.fieldAt,Ty.run_und w hu,hg,Instr.sureAddr,fieldPlace,(hT.get DT).sizeOf w,DN]
      · exact h.elim
    · exact h.elim
  · exact h.elim
theorem zO (hT:oI P T) (hA:Ag F a) {s:TypeId} {x:Operand} {f:Nat}
    (h:aZ P T wr ⟨dst,.field s x f,ty,pos,after,guard⟩ F K):dN P ⟨dst,.field s x f,ty,pos,after,guard⟩ a K:=by
  refine dN.of (S:=Instr.field s (a.eval x) f) (aS (by simp only[execOp])) ?_;simp only[aZ]at h;split at h
  · rename_i fs _ _ _ _ hs;split at h
    · rename_i off ft hf;split at h
      · rename_i te DT;obtain⟨fa,hu,El⟩:=(hT.get hs).struct rfl;have h:=aL hA h;have Iw:∃ g,fa[f]?=some g/\g.offset=off/\g.type=ft:=by
          rw[← El]at hf;simp only[List.getElem?_map,Option.map_eq_some_iff,Prod.mk.injEq]at hf;obtain⟨g,hg,h1,h2⟩:=hf;exact⟨g,by simpa using hg,h1,h2⟩
        obtain⟨g,hg,rfl,rfl⟩:=Iw;split at h
        · rename_i cs EM;rw[EM];cases hb:te.ld.agg with
          | true =>
            rw[hb]at h;refine⟨.v _,_,(rfl:_=_),fun w=>?_,h⟩;simp[Instr.field,Ty.run_und w hu,hg,asAgg,part,(hT.get DT).isAgg w,hb,(hT.get DT).sizeOf w]
          | false =>
            rw[hb]at h;simp only[cond_false]at h;split at h
            · rename_i c hc;refine⟨mk c,c,eW.mk c,fun w=>?_,h⟩;simp[Instr.field,Ty.run_und w hu,hg,asAgg,part,(hT.get DT).isAgg w,hb,hc]
            · exact h.elim
        · exact h.elim
      · exact h.elim
    · exact h.elim
  · exact h.elim
end Go.V
/-! The own library V, part 5: the other operations that compute. -/
namespace Go.V
variable {P : Program} {T : qG} {F : Fr} {a : Act} {wr : Bool} {K : SV → Prop} {dst : Option Tmp} {ty : TypeId} {pos : String} {after : Array Edge} {guard : Option (Nat × Bool)}
theorem Bp(hA:Ag F a){c x y:Operand}
    (h:aZ P T wr ⟨dst,.pick c x y,ty,pos,after,guard⟩ F K):dN P ⟨dst,.pick c x y,ty,pos,after,guard⟩ a K:=by
  simp only[aZ]at h;have hc:=hA.ev c;split at h
  · rename_i he;rw[he]at hc;simp only[eW]at hc;exact⟨_,_,hA.ev x,fun w=>by simp[execOp,hc,asBool],h⟩
  · rename_i he;rw[he]at hc;simp only[eW]at hc;exact⟨_,_,hA.ev y,fun w=>by simp[execOp,hc,asBool],h⟩
  · exact h.elim
theorem qX(hA:Ag F a){x:Operand}
    (h:aZ P T wr ⟨dst,.nilCheck x,ty,pos,after,guard⟩ F K):dN P ⟨dst,.nilCheck x,ty,pos,after,guard⟩ a K:=by
  simp only[aZ]at h;have hc:=hA.ev x;split at h
  · rename_i p he;rw[he]at hc;simp only[eW]at hc;obtain⟨ad,rfl,h⟩:=h;exact⟨.v _,_,(rfl:_=_),fun w=>by simp[execOp,hc],h⟩
  · rename_i g f c he;rw[he]at hc;simp only[eW]at hc;exact⟨.v _,_,(rfl:_=_),fun w=>by simp[execOp,hc],h⟩
  · exact h.elim
theorem qA (hT:oI P T) (hA:Ag F a) {t:TypeId} {x ix:Operand}
    (h:aZ P T wr ⟨dst,.indexAddr t x ix,ty,pos,after,guard⟩ F K):dN P ⟨dst,.indexAddr t x ix,ty,pos,after,guard⟩ a K:=by
  refine dN.of (S:=Instr.indexAt t (a.eval x) (a.eval ix)) (aS (by simp only[execOp])) ?_;simp only[aZ]at h;obtain⟨k,i,hi,h⟩:=aY hA h;split at h
  · rename_i e _ _ _ _ ht;split at h
    · rename_i te DT;split at h
      · rename_i A n c he;have hx:=hA.ev x;rw[he]at hx;simp only[eW]at hx;obtain⟨ad,rfl,h0,h1,h⟩:=h;rw[sY]at h;refine⟨.v _,_,(rfl:_=_),fun w=>?_,h⟩;simp[Instr.indexAt,hi,hx,asIntOf,Ty.run_und w ((hT.get ht).slice rfl),h0,h1,(hT.get DT).sizeOf w]
      · exact h.elim
    · exact h.elim
  · rename_i n e _ _ _ _ ht;split at h
    · rename_i te DT;obtain⟨ad,hx,h⟩:=hO hA h;obtain⟨⟨h0,h1⟩,h⟩:=h;rw[sY]at h;refine⟨.v _,_,(rfl:_=_),fun w=>?_,h⟩;simp[Instr.indexAt,hi,hx,asIntOf,Ty.run_und w ((hT.get ht).arr rfl),Instr.sureAddr,h0,h1,(hT.get DT).sizeOf w]
    · exact h.elim
  · exact h.elim
theorem nM{i:Int}:∀ {j:Nat} {cs:List Value},tV i j cs K->(j:Int)<=i->i<(j:Int)+cs.length->∃ c,cs[i.toNat-j]?=some c/\K (mk c)
 | j,[],_,h1,h2=>by simp at h2;omega
 | j,c ::r,h,h1,h2=>by
  simp only[tV]at h;by_cases he:i=(j:Int)
  ·exact⟨c,by simp[he],h.1 he⟩
  ·obtain⟨c',hc,hk⟩:=nM (j:=j+1) (cs:=r) h.2 (by omega) (by simp at h2 ⊢;omega);refine⟨c',?_,hk⟩;rw[show i.toNat-j=(i.toNat-(j+1))+1 by omega];simpa using hc
theorem nN{sz:Nat}{cs:List Value}{i:Int}:∀ {c j:Nat},tX sz cs i j c K->(j:Int)<=i->i<(j:Int)+c->K (.v (.agg ((cs.drop (i.toNat*sz)).take sz).toArray))
 | 0,j,_,h1,h2=>by omega
 | c+1,j,h,h1,h2=>by
  simp only[tX]at h;by_cases he:i=(j:Int)
  ·have:=h.1 he;rw[he];exact this
  ·exact nN (c:=c) (j:=j+1) h.2 (by omega) (by omega)
theorem zM (hT:oI P T) (hA:Ag F a) {t:TypeId} {x ix:Operand}
    (h:aZ P T wr ⟨dst,.index t x ix,ty,pos,after,guard⟩ F K):dN P ⟨dst,.index t x ix,ty,pos,after,guard⟩ a K:=by
  refine dN.of (S:=Instr.index t (a.eval x) (a.eval ix)) (aS (by simp only[execOp])) ?_;simp only[aZ]at h;obtain⟨k,i,hi,h⟩:=aY hA h;split at h
  · rename_i n e _ _ _ _ ht;split at h
    · rename_i te DT;have h:=aL hA h;split at h
      · rename_i cs EM;cases hb:te.ld.agg with
        | true =>
          rw[hb]at h;simp only[cond_true]at h;obtain⟨⟨h3,h4⟩,h⟩:=h;refine⟨.v _,_,(rfl:_=_),fun w=>?_,nN h (by simpa using h3) (by simpa using h4)⟩;have he:cs.extract (i.toNat*te.size) (i.toNat*te.size+te.size)=((cs.toList.drop (i.toNat*te.size)).take te.size).toArray:=by
            apply Array.toList_inj.1;simp[Array.toList_extract,List.extract]
          simp[Instr.index,hi,EM,asIntOf,Ty.run_und w ((hT.get ht).arr rfl),h3,h4,part,(hT.get DT).isAgg w,hb,(hT.get DT).sizeOf w,he]
        | false =>
          rw[hb]at h;simp only[cond_false]at h;cases h1:Nat.beq te.size 1 with
          | false=>rw[h1]at h;exact h.elim
          | true =>
            rw[h1]at h;simp only[cond_true]at h;cases h2:Nat.beq cs.size n with
            | false=>rw[h2]at h;exact h.elim
            | true =>
              rw[h2]at h;simp only[cond_true]at h;have e1:te.size=1:=Nat.eq_of_beq_eq_true h1;have e2:cs.size=n:=Nat.eq_of_beq_eq_true h2;obtain⟨⟨h3,h4⟩,h⟩:=h;obtain⟨c,hc,hk⟩:=nM h (by simpa using h3) (by simp;omega);refine⟨mk c,c,eW.mk c,fun w=>?_,hk⟩;have Fy:cs[i.toNat]?=some c:=by simpa using hc
              simp[Instr.index,hi,EM,asIntOf,Ty.run_und w ((hT.get ht).arr rfl),h3,h4,part,(hT.get DT).isAgg w,hb,(hT.get DT).sizeOf w,e1,Fy]
      · exact h.elim
    · exact h.elim
  · rename_i _ _ _ _ ht;have h:=aL hA h;split at h
    · rename_i s hs;obtain⟨⟨h3,h4⟩,h⟩:=h;refine⟨.v _,_,(rfl:_=_),fun w=>?_,h⟩;have DL:i.toNat<s.size:=by omega
      have EU:i.toNat<s.data.toList.length:=by simpa using DL
      have hg:s[i.toNat]?=some (s.data.toList.getD i.toNat 0):=by
        rw[getElem?_pos s i.toNat DL];simp only[List.getD_eq_getElem?_getD,List.getElem?_eq_getElem EU,Option.getD_some];rfl
      simp[Instr.index,hi,hs,asIntOf,Ty.run_und w ((hT.get ht).str rfl),h3,hg,bt]
    · exact h.elim
  · exact h.elim
theorem zQ (hT:oI P T) (hA:Ag F a) {t:TypeId} {parts:Array (Nat×Operand)}
    (h:aZ P T wr ⟨dst,.build t parts,ty,pos,after,guard⟩ F K):dN P ⟨dst,.build t parts,ty,pos,after,guard⟩ a K:=by
  refine dN.of (S:=Instr.build t (parts.map fun(i,x)=>(i,a.eval x))) (aS (by simp only[execOp])) ?_;have hl:∀ vs,vs=parts.toList.map (fun p=>(p.1,a.eval p.2))->(parts.map fun(i,x)=>(i,a.eval x)).toList=vs:=by
    rintro _ rfl;simp
  simp only[aZ]at h;split at h
  · rename_i fs _ _ z _ ht;have sz :∀ {fs:List (Nat×Nat)} {K:List (Nat×Nat)->Prop},Ar T fs K->∃ l,K l/\∀(f:List Field),f.map (fun g=>(g.offset,g.type))=fs->∀ w,(f.mapM fun g=>do pure (g.offset,← sizeOf g.type):Sem (List (Nat×Nat))).run P w=.ok l w:=by
      intro fs
      induction fs with
      | nil =>
        intro K h;refine⟨[],h,fun f hf w=>?_⟩;simp at hf;subst hf;simp
      | cons p r ih =>
        obtain⟨o,ty⟩:=p;intro K h;unfold Ar at h;split at h
        · rename_i te DT;obtain⟨l,hK,hl⟩:=ih h;refine⟨_,hK,fun f hf w=>?_⟩;cases f with
          | nil=>simp at hf
          | cons g f =>
            simp only[List.map_cons,List.cons.injEq,Prod.mk.injEq]at hf;obtain⟨⟨rfl,rfl⟩,hf⟩:=hf;simp only[List.mapM_cons,Sem.run_bind,Sem.run_pure,Result.andThen_ok,(hT.get DT).sizeOf w,hl f hf w]
        · exact h.elim
    obtain⟨ps,h,Kq⟩:=sz h;have h:=lE hA h;split at h
    · rename_i cells hc;obtain⟨fa,hu,El⟩:=(hT.get ht).struct rfl;refine⟨.v _,_,(rfl:_=_),fun w=>?_,h⟩;have hm:(fa.mapM fun g=>do pure (g.offset,← sizeOf g.type):Sem (Array (Nat×Nat))).run P w=.ok ps.toArray w:=by
        rw[Array.mapM_eq_mapM_toList,Sem.run_map,Kq _ El w];rfl
      simp only[Instr.build,Sem.run_bind,(hT.get ht).zeroValue w,Result.andThen_ok,Ty.run_und w hu,hm];rw[hl _ rfl];have:(fun x:Nat=>ps.toArray[x]?)=(fun x:Nat=>ps[x]?):=by funext x;simp
      rw[this,hc];simp
    · exact h.elim
  · rename_i n e _ _ z _ ht;split at h
    · rename_i te DT;have h:=lE hA h;split at h
      · rename_i cells hc;refine⟨.v _,_,(rfl:_=_),fun w=>?_,h⟩;simp only[Instr.build,Sem.run_bind,(hT.get ht).zeroValue w,Result.andThen_ok,Ty.run_und w ((hT.get ht).arr rfl),(hT.get DT).sizeOf w];rw[hl _ rfl,hc];simp
      · exact h.elim
    · exact h.elim
  · exact h.elim
theorem qY(hA:Ag F a){fn:Fn}{f c:Array Operand}
    (h:aZ P T wr ⟨dst,.makeFunc fn f c,ty,pos,after,guard⟩ F K):dN P ⟨dst,.makeFunc fn f c,ty,pos,after,guard⟩ a K:=by
  refine dN.of (S:=Instr.makeFunc fn (f.map a.eval) (c.map a.eval)) (aS (by simp only[execOp])) ?_;simp only[aZ]at h;have h:=cO hA (cO hA h);refine⟨.v _,_,(rfl:_=_),fun w=>?_,h⟩;simp[Instr.makeFunc];constructor <;>apply Array.toList_inj.1 <;>simp
theorem uF(hA:Ag F a){x:Operand}{i:Nat}
    (h:aZ P T wr ⟨dst,.extract x i,ty,pos,after,guard⟩ F K):dN P ⟨dst,.extract x i,ty,pos,after,guard⟩ a K:=by
  refine dN.of (S:=Instr.extract (a.eval x) i) (aS (by simp only[execOp])) ?_;simp only[aZ]at h;have hx:=hA.ev x;split at h
  · rename_i vs he;rw[he]at hx;simp only[eW]at hx;split at h
    · rename_i v hv;exact⟨mk v,v,eW.mk v,fun w=>by simp[Instr.extract,hx,hv],h⟩
    · exact h.elim
  · exact h.elim
theorem uG(hT:oI P T)(hA:Ag F a){src d:TypeId}{x:Operand}
    (h:aZ P T wr ⟨dst,.convert src d x,ty,pos,after,guard⟩ F K):dN P ⟨dst,.convert src d x,ty,pos,after,guard⟩ a K:=by
  refine dN.of (S:=Go.convert src d (a.eval x)) (aS (by simp only[execOp])) ?_;simp only[aZ]at h;have hx:=hA.ev x;split at h
  · rename_i k1 _ _ _ _ k _ _ _ _ k2 n h1 h2 he;rw[he]at hx;simp only[eW]at hx;have u1:=fun w=>Ty.run_und w ((hT.get h1).int rfl);have u2:=fun w=>Ty.run_und w ((hT.get h2).int rfl);cases wr with
    | true=>exact⟨.v _,_,(rfl:_=_),fun w=>by simp[Go.convert,hx,u1,u2,Conv.intToInt],h⟩
    | false=>exact⟨.v _,_,(rfl:_=_),fun w=>by simp[Go.convert,hx,u1,u2,Conv.intToInt,dP h.1],h.2⟩
  · rename_i _ _ _ _ _ _ _ _ s h1 h2 he;rw[he]at hx;simp only[eW]at hx;have u1:=fun w=>Ty.run_und w ((hT.get h1).str rfl);have u2:=fun w=>Ty.run_und w ((hT.get h2).str rfl);exact⟨.v _,_,(rfl:_=_),fun w=>by simp[Go.convert,hx,u1,u2],h⟩
  · exact h.elim
theorem kZ(hT:oI P T)(hA:Ag F a){t:TypeId}{x:Operand}
    (h:aZ P T wr ⟨dst,.makeInterface t x,ty,pos,after,guard⟩ F K):dN P ⟨dst,.makeInterface t x,ty,pos,after,guard⟩ a K:=by
  refine dN.of (S:=Instr.makeInterface t (a.eval x)) (aS (by simp only[execOp])) ?_;simp only[aZ]at h;split at h
  · rename_i e _ _ _ _ ht;have hu:=(hT.get ht).ptr rfl;exact⟨.v _,_,(rfl:_=_),fun w=>by simp[Instr.makeInterface,Ty.run_und w hu],aL hA h⟩
  · obtain⟨s,v,h1,h2,h3⟩:=dK (aL hA h);exact⟨s,v,h1,h2,h3⟩
theorem Cd (hT:oI P T) (hA:Ag F a) {args:Array Operand} {ts:Array TypeId}
    (h:aZ P T wr ⟨dst,.call ⟨.builtin .len,args,ts⟩,ty,pos,after,guard⟩ F K):dN P ⟨dst,.call ⟨.builtin .len,args,ts⟩,ty,pos,after,guard⟩ a K:=by
  refine dN.of (S:=Builtin.len_ ts ty (args.map a.eval)) (Bg rfl) ?_;simp only[aZ]at h;split at h
  · rename_i x t hx ht;have L2:(args.map a.eval)[0]?=some (a.eval x):=by simp[hx]
    have he:=hA.ev x;split at h
    · rename_i e _ _ _ _ DT;split at h
      · rename_i A n c hs;rw[hs]at he;simp only[eW]at he;refine⟨.v _,_,(rfl:_=_),fun w=>?_,h⟩;simp[Builtin.len_,hx,ht,he,Ty.run_und w ((hT.get DT).slice rfl),goInt]
      · exact h.elim
    · rename_i _ _ _ _ DT;split at h
      · rename_i s hs;rw[hs]at he;simp only[eW]at he;refine⟨.v _,_,(rfl:_=_),fun w=>?_,h⟩;simp[Builtin.len_,hx,ht,he,Ty.run_und w ((hT.get DT).str rfl),goInt]
      · exact h.elim
    · rename_i n e _ _ _ _ DT;refine⟨.v _,_,(rfl:_=_),fun w=>?_,h⟩;simp[Builtin.len_,hx,ht,Ty.run_und w ((hT.get DT).arr rfl),goInt]
    · exact h.elim
  · exact h.elim
theorem wB{k:IntKind}:∀ {vs:List Value} {x:Int} {K:Int->Prop},mxs k x vs K->∃ z,K z/\∀ w,(vs.foldlM Builtin.max2 (.int k x)).run P w=.ok (.int k z) w
 | [],x,K,h=>⟨x,h,fun w=>by simp⟩
 | v ::r,x,K,h=>by
  cases v with
  | int k' y =>
   simp only[mxs]at h;obtain⟨z,hk,hz⟩:=wB h;refine⟨z,hk,fun w=>?_⟩;simp only[List.foldlM_cons,Builtin.max2,pure_bind];exact hz w
  | _=>simp only[mxs]at h
theorem wC{k:IntKind}:∀ {vs:List Value} {x:Int} {K:Int->Prop},mns k x vs K->∃ z,K z/\∀ w,(vs.foldlM Builtin.min2 (.int k x)).run P w=.ok (.int k z) w
 | [],x,K,h=>⟨x,h,fun w=>by simp⟩
 | v ::r,x,K,h=>by
  cases v with
  | int k' y =>
   simp only[mns]at h;obtain⟨z,hk,hz⟩:=wC h;refine⟨z,hk,fun w=>?_⟩;simp only[List.foldlM_cons,Builtin.min2,pure_bind];exact hz w
  | _=>simp only[mns]at h
theorem dC{b:Builtin}{args:Array Operand}{ts:Array TypeId}{S:Sem Value}(hS:∀ c,builtin b ts ty c (args.map a.eval)=(do pure (.value (← S))))(w:World):
    (execOp a.eval ⟨dst,.call ⟨.builtin b,args,ts⟩,ty,pos,after,guard⟩).run P w=(S.run P w).andThen fun v w'=>.ok (.value v) w':=by
  have:(execOp a.eval ⟨dst,.call ⟨.builtin b,args,ts⟩,ty,pos,after,guard⟩).run P w=(builtin b ts ty (args.map fun | .const _=>true | _=>false) (args.map a.eval)).run P w:=by
    simp only[execOp,resolve];rfl
  rw[this,hS];simp
theorem Cc(hA:Ag F a){args:Array Operand}{ts:Array TypeId}
    (h:aZ P T wr ⟨dst,.call ⟨.builtin .max,args,ts⟩,ty,pos,after,guard⟩ F K):dN P ⟨dst,.call ⟨.builtin .max,args,ts⟩,ty,pos,after,guard⟩ a K:=by
  refine dN.of (S:=Builtin.max_ ts ty (args.map a.eval)) (dC fun c=>rfl) ?_;simp only[aZ]at h;split at h
  · rename_i x r hx;obtain⟨k,n,hn,h⟩:=aY hA h;have h:=cO hA h;obtain⟨z,hk,hz⟩:=wB (P:=P) h;refine⟨.v _,_,(rfl:_=_),fun w=>?_,hk⟩;simp only[Builtin.max_,Array.toList_map,hx,List.map_cons,hn];exact hz w
  · exact h.elim
theorem Cb(hA:Ag F a){args:Array Operand}{ts:Array TypeId}
    (h:aZ P T wr ⟨dst,.call ⟨.builtin .min,args,ts⟩,ty,pos,after,guard⟩ F K):dN P ⟨dst,.call ⟨.builtin .min,args,ts⟩,ty,pos,after,guard⟩ a K:=by
  refine dN.of (S:=Builtin.min_ ts ty (args.map a.eval)) (dC fun c=>rfl) ?_;simp only[aZ]at h;split at h
  · rename_i x r hx;obtain⟨k,n,hn,h⟩:=aY hA h;have h:=cO hA h;obtain⟨z,hk,hz⟩:=wC (P:=P) h;refine⟨.v _,_,(rfl:_=_),fun w=>?_,hk⟩;simp only[Builtin.min_,Array.toList_map,hx,List.map_cons,hn];exact hz w
  · exact h.elim
theorem cut0(A:OA):A.map (·.add 0)=A:=by cases A <;>simp[Addr.add]
theorem zL (hT:oI P T) (hA:Ag F a) {t:TypeId} {x:Operand} {lo hi mxo:Option Operand}
    (h:aZ P T wr ⟨dst,.slice t x lo hi mxo,ty,pos,after,guard⟩ F K):dN P ⟨dst,.slice t x lo hi mxo,ty,pos,after,guard⟩ a K:=by
  refine dN.of (S:=Instr.sliceAt t (a.eval x) (lo.map a.eval) (hi.map a.eval) (mxo.map a.eval)) (aS (by simp only[execOp])) ?_;have bnd:∀(k:IntKind)(i:Int)(y:Nat)(c:BoundsCode)(w:World),0<=i->i<=(y:Int)->(Instr.sliceBound (.int k i) y c).run P w=.ok i.toNat w:=by
    intro k i y c w h0 h1;simp[Instr.sliceBound,asIntOf,h0,h1]
  cases mxo with
  | some m =>
    cases lo with
    | none=>simp only[aZ]at h
    | some l =>
    cases hi with
    | none=>simp only[aZ]at h
    | some hi =>
    simp only[aZ]at h;have he:=hA.ev x;split at h
    · rename_i e _ _ _ _ ht;split at h
      · rename_i te DT;have hu:=(hT.get ht).slice rfl;split at h
        · rename_i A n c hs;rw[hs]at he;simp only[eW]at he;obtain⟨k,i,EG,h⟩:=aY hA h;obtain⟨k',j,GH,h⟩:=aY hA h;obtain⟨k'',q,Ko,h⟩:=aY hA h;obtain⟨⟨h0,h1,h2,h3,h4,h5⟩,h⟩:=h;refine⟨.v _,_,(rfl:_=_),fun w=>?_,h⟩;simp only[Option.map_some,EG,GH,Ko];simp[Instr.sliceAt,Instr.slice,he,Ty.run_und w hu,Instr.sliceBounds,bnd k'' q c _ w h0 h1,bnd k' j q.toNat _ w h2 (by omega),bnd k i j.toNat _ w h4 (by omega),(hT.get DT).sizeOf w,bN]
        · exact h.elim
      · exact h.elim
    · exact h.elim
  | none =>
    simp only[aZ]at h;have he:=hA.ev x;split at h
    · rename_i e _ _ _ _ ht;split at h
      · rename_i te DT;have hu:=(hT.get ht).slice rfl;split at h
        · rename_i A n c hs;rw[hs]at he;simp only[eW]at he
          have base:∀ (l hh m:Nat) w,(Instr.sliceBounds true n c (lo.map a.eval) (hi.map a.eval) none).run P w=.ok (l,hh,m) w →
              (Instr.sliceAt t (a.eval x) (lo.map a.eval) (hi.map a.eval) none).run P w=.ok (.slice (if m=l then A else A.map (·.add (l*te.size))) (hh-l) (m-l)) w:=by
            intro l hh m w hb;simp[Instr.sliceAt,Instr.slice,he,Ty.run_und w hu,hb,(hT.get DT).sizeOf w]
          split at h
          · refine⟨.v _,_,(rfl:_=_),fun w=>?_,h⟩;rw[show(none:Option Operand).map a.eval=none from rfl]at base ⊢;rw[base 0 n c w (by simp[Instr.sliceBounds])];simp[cut0]
          · rename_i hv;obtain⟨k,i,EG,h⟩:=aY hA h;obtain⟨⟨h0,h1⟩,h⟩:=h;refine⟨.v _,_,(rfl:_=_),fun w=>?_,h⟩;simp only[Option.map_none,Option.map_some,EG]at base ⊢;rw[base 0 i.toNat c w (by simp[Instr.sliceBounds,bnd k i c _ w h0 h1])];simp[cut0]
          · rename_i lv;obtain⟨k,i,EG,h⟩:=aY hA h;obtain⟨⟨h0,h1⟩,h⟩:=h;refine⟨.v _,_,(rfl:_=_),fun w=>?_,h⟩;simp only[Option.map_none,Option.map_some,EG]at base ⊢;rw[base i.toNat n c w (by simp[Instr.sliceBounds,bnd k i n _ w h0 h1])];rfl
          · rename_i lv hv;obtain⟨k,i,EG,h⟩:=aY hA h;obtain⟨k',j,GH,h⟩:=aY hA h;obtain⟨⟨h0,h1,h2,h3⟩,h⟩:=h;refine⟨.v _,_,(rfl:_=_),fun w=>?_,h⟩;simp only[Option.map_none,Option.map_some,EG,GH]at base ⊢;rw[base i.toNat j.toNat c w (by simp[Instr.sliceBounds,bnd k' j c _ w h0 h1,bnd k i j.toNat _ w h2 (by omega)])];rfl
        · exact h.elim
      · exact h.elim
    · rename_i _ _ _ _ ht;have hu:=(hT.get ht).str rfl;split at h
      · rename_i s hs;rw[hs]at he;simp only[eW]at he
        have base:∀ (l hh m:Nat) w,(Instr.sliceBounds false s.size s.size (lo.map a.eval) (hi.map a.eval) none).run P w=.ok (l,hh,m) w →
            (Instr.sliceAt t (a.eval x) (lo.map a.eval) (hi.map a.eval) none).run P w=.ok (.string (s.extract l hh)) w:=by
          intro l hh m w hb;simp[Instr.sliceAt,Instr.slice,he,Ty.run_und w hu,hb]
        split at h
        · refine⟨.v _,_,(rfl:_=_),fun w=>?_,h⟩;rw[show(none:Option Operand).map a.eval=none from rfl]at base ⊢;rw[base 0 s.size s.size w (by simp[Instr.sliceBounds])]
        · rename_i hv;obtain⟨k,i,EG,h⟩:=aY hA h;obtain⟨⟨h0,h1⟩,h⟩:=h;refine⟨.v _,_,(rfl:_=_),fun w=>?_,h⟩;simp only[Option.map_none,Option.map_some,EG]at base ⊢;rw[base 0 i.toNat s.size w (by simp[Instr.sliceBounds,bnd k i s.size _ w h0 h1])]
        · rename_i lv;obtain⟨k,i,EG,h⟩:=aY hA h;obtain⟨⟨h0,h1⟩,h⟩:=h;refine⟨.v _,_,(rfl:_=_),fun w=>?_,h⟩;simp only[Option.map_none,Option.map_some,EG]at base ⊢;rw[base i.toNat s.size s.size w (by simp[Instr.sliceBounds,bnd k i s.size _ w h0 h1])]
        · rename_i lv hv;obtain⟨k,i,EG,h⟩:=aY hA h;obtain⟨k',j,GH,h⟩:=aY hA h;obtain⟨⟨h0,h1,h2,h3⟩,h⟩:=h;refine⟨.v _,_,(rfl:_=_),fun w=>?_,h⟩;simp only[Option.map_none,Option.map_some,EG,GH]at base ⊢;rw[base i.toNat j.toNat s.size w (by simp[Instr.sliceBounds,bnd k' j s.size _ w h0 h1,bnd k i j.toNat _ w h2 (by omega)])]
      · exact h.elim
    · have h:=aL hA h;split at h
      · obtain⟨k,i,EG,h⟩:=aY hA h;obtain⟨s,v,hv,hr,h⟩:=dK h;refine⟨s,v,hv,fun w=>?_,h⟩;simp only[Option.map_none,Option.map_some,EG];exact hr w
      · exact h.elim
    · exact h.elim
theorem xZ(hT:oI P T)(hA:Ag F a){o:Oper}(h:aZ P T wr o F K):dN P o a K:=by
 obtain⟨dst,op,ty,pos,after,guard⟩:=o;cases op
 case move x=>exact⟨_,_,hA.ev x,fun w=>by simp[execOp],h⟩
 case assign x=>exact⟨_,_,hA.ev x,fun w=>by simp[execOp],h⟩
 case pick=>exact Bp hA h
 case nilCheck=>exact qX hA h
 case binOp=>exact zR hT hA h
 case unOp=>exact Bo hA h
 case convert=>exact uG hT hA h
 case makeInterface=>exact kZ hT hA h
 case makeFunc=>exact qY hA h
 case slice=>exact zL hT hA h
 case fieldAddr=>exact qB hT hA h
 case field=>exact zO hT hA h
 case indexAddr=>exact qA hT hA h
 case index=>exact zM hT hA h
 case build=>exact zQ hT hA h
 case extract=>exact uF hA h
 case call c =>
  obtain⟨callee,args,ts⟩:=c;cases callee with
  | value f=>simp only[aZ]at h
  | invoke r m=>simp only[aZ]at h
  | builtin b =>
   cases b
   case len=>exact Cd hT hA h
   case max=>exact Cc hA h
   case min=>exact Cb hA h
   all_goals simp only[aZ]at h
 all_goals simp only[aZ]at h
end Go.V
/-! The own library V, part 6: operations that read, and operations that act. -/
namespace Go.V
/-! ### Reading -/
def Dm(m:Nat)(C:World->Prop)(w:World)(φ:World->Prop):Prop :=
 match m with
 | 0=>∀ w',C w'->φ w'
 | _=>φ w
theorem oJ{m:Nat}{C:World->Prop}{w:World}{φ ψ:World->Prop}(h:∀ w,φ w->ψ w)(hd:Dm m C w φ):Dm m C w ψ:=by
 cases m with
 | zero=>exact fun w' hC=>h _ (hd w' hC)
 | succ m=>exact h _ hd
theorem DJ{m:Nat}{C:World->Prop}{w:World}{φ ψ:World->Prop}(h:Dm m C w φ)(k:Dm m C w ψ):Dm m C w (fun w=>φ w/\ψ w):=by
 cases m with
 | zero=>exact fun w' hC=>⟨h w' hC,k w' hC⟩
 | succ m=>exact⟨h,k⟩
theorem Df{m:Nat}{C:World->Prop}{w:World}{φ:World->Prop}(h:∀ w,φ w):Dm m C w φ:=by
 cases m with
 | zero=>exact fun w' _=>h w'
 | succ m=>exact h w
def uJ(D:(World->Prop)->Prop)(a:Addr):Nat->List Sh->(List Value->Prop)->Prop
 | _,[],K=>K []
 | i,s ::r,K=>zZ s fun _ v=>D (fun w=>w.cell? (a.add i)=some v)/\uJ D a (i+1) r fun vs=>K (v ::vs)
def kH(P:Program)(T:qG)(o:Oper)(F:Fr)(D:(World->Prop)->Prop)(K:SV->Prop):Prop :=
 match o.op with
 | .load t x=>yA F x fun a=>(match tf T t with
  | some te=>bif te.ld.agg then(bif Nat.beq te.shs.length te.size then uJ D a 0 te.shs fun cs=>K (.v (.agg cs.toArray)) else False)
   else zZ (te.shs.headD .any) fun s v=>D (fun w=>w.cell? a=some v)/\K s
  | none=>False)
 | .lookup t x i ok=>vv F x fun m=>vv F i fun k=>xU T o.type fun s v=>D (fun w=>(Instr.lookup t m k ok).run P w=.ok v w)/\K s
 | .call { callee:=.builtin .len,args,argTypes }=>xT F args.toList fun vs=>xU T o.type fun s v=>D (fun w=>(Builtin.len_ argTypes o.type vs.toArray).run P w=.ok v w)/\K s
 | .convert src dst x=>vv F x fun m=>xU T o.type fun s v=>D (fun w=>(Go.convert src dst m).run P w=.ok v w)/\K s
 | _=>False
section
variable {P : Program} {T : qG} {F : Fr} {a : Act} {dst : Option Tmp} {ty : TypeId} {pos : String} {after : Array Edge} {guard : Option (Nat × Bool)} {m : Nat} {C : World → Prop} {w : World}
theorem eT{ad:Addr}{w:World}:∀(vs:List Value)(i:Nat)(acc:Array Value),(∀ j v,vs[j]?=some v->w.cell? (ad.add (i+j))=some v)->(loadCellsFrom ad i vs.length acc).run P w=.ok (acc++vs.toArray) w
 | [],i,acc,_=>by simp[loadCellsFrom]
 | v ::r,i,acc,h=>by
  have h0:=h 0 v (by simp);simp only[Nat.add_zero]at h0;simp only[List.length_cons,loadCellsFrom,Sem.run_bind];have:(load (ad.add i)).run P w=.ok v w:=by simp[load,Sem.run,h0]
  rw[this];simp only[Result.andThen_ok];rw[eT r (i+1) (acc.push v) (fun j u hu=>by
   have:=h (j+1) u (by simpa using hu);rw[show i+1+j=i+(j+1) by omega];exact this)]
  congr 1;apply Array.toList_inj.1;simp
theorem jT{D:(World->Prop)->Prop}(JX:∀ φ ψ:World->Prop,D φ->D ψ->D (fun w=>φ w/\ψ w))(JW:∀ φ ψ:World->Prop,(∀ w,φ w->ψ w)->D φ->D ψ)(JV:∀ φ:World->Prop,(∀ w,φ w)->D φ){ad:Addr}:
    ∀ {ss:List Sh} {i:Nat} {K:List Value->Prop},uJ D ad i ss K->∃ vs,vs.length=ss.length/\D (fun w=>∀ j v,vs[j]?=some v->w.cell? (ad.add (i+j))=some v)/\K vs
  | [],i,K,h=>⟨[],rfl,JV _ (by simp),h⟩
  | s ::r,i,K,h=>by
    obtain⟨_,v,_,h1,h2⟩:=iM h;obtain⟨vs,hl,h3,h4⟩:=jT JX JW JV h2;refine⟨v ::vs,by simp[hl],JW _ _ ?_ (JX _ _ h1 h3),h4⟩;rintro w ⟨h1,h3⟩ j u hu;cases j with
    | zero=>simp at hu;subst hu;exact h1
    | succ j=>rw[show i+(j+1)=i+1+j by omega];exact h3 j u (by simpa using hu)
theorem xY (hT:oI P T) (hA:Ag F a) {o:Oper} {K:SV->Prop} (h:kH P T o F (Dm m C w) K) :
    ∃ s v,eW s v/\Dm m C w (fun w=>(execOp a.eval o).run P w=.ok (.value v) w)/\K s:=by
  obtain⟨dst,op,ty,pos,after,guard⟩:=o
  have fin:∀ {S:Sem Value} {o:Oper},(∀ w,(execOp a.eval o).run P w=(S.run P w).andThen fun v w'=>.ok (.value v) w')->(∃ s v,eW s v/\Dm m C w (fun w=>S.run P w=.ok v w)/\K s) →
      ∃ s v,eW s v/\Dm m C w (fun w=>(execOp a.eval o).run P w=.ok (.value v) w)/\K s:=by
    rintro S o hS ⟨s,v,h1,h2,h3⟩;exact⟨s,v,h1,oJ (fun w h=>by rw[hS,h];rfl) h2,h3⟩
  cases op
  case load t x =>
    refine fin (S:=Instr.loadAt t (a.eval x)) (aS (by simp only[execOp])) ?_;simp only[kH]at h;obtain⟨ad,hx,h⟩:=hO hA h;split at h
    · rename_i te DT;cases hb:te.ld.agg with
      | true =>
        rw[hb]at h;simp only[cond_true]at h;cases hl:Nat.beq te.shs.length te.size with
        | false=>rw[hl]at h;exact h.elim
        | true =>
          rw[hl]at h;simp only[cond_true]at h;obtain⟨vs,DO,hD,hK⟩:=jT (fun _ _=>DJ) (fun _ _=>oJ) (fun _=>Df) h;refine⟨.v _,_,(rfl:_=_),oJ (fun w hw=>?_) hD,hK⟩;have hs:te.size=vs.length:=by rw[DO];exact(Nat.eq_of_beq_eq_true hl).symm
          simp only[Instr.loadAt,hx,Instr.sureAddr,pure_bind,loadVar,Sem.run_bind,(hT.get DT).isAgg w,Result.andThen_ok,hb,if_true,(hT.get DT).sizeOf w,loadCells,hs];rw[eT vs 0 #[] hw];simp
      | false =>
        rw[hb]at h;simp only[cond_false]at h;obtain⟨s,v,h1,h2,h3⟩:=iM h;refine⟨s,v,h1,oJ (fun w hw=>?_) h2,h3⟩;simp[Instr.loadAt,hx,Instr.sureAddr,loadVar,(hT.get DT).isAgg w,hb,load,Sem.run,hw]
    · exact h.elim
  case lookup t x i ok =>
    simp only[kH]at h;refine fin (S:=Instr.lookup t (a.eval x) (a.eval i) ok) (aS (by simp only[execOp])) ?_;exact dK (aL hA (aL hA h)) |>.elim fun s ⟨v,h1,h2,h3⟩=>⟨s,v,h1,h2,h3⟩
  case convert src d x =>
    simp only[kH]at h;refine fin (S:=Go.convert src d (a.eval x)) (aS (by simp only[execOp])) ?_;exact dK (aL hA h) |>.elim fun s ⟨v,h1,h2,h3⟩=>⟨s,v,h1,h2,h3⟩
  case call c =>
    obtain⟨callee,args,ts⟩:=c;cases callee with
    | value f=>simp only[kH]at h
    | invoke r m=>simp only[kH]at h
    | builtin b =>
      cases b
      case len =>
        simp only[kH]at h;refine fin (S:=Builtin.len_ ts ty (args.map a.eval)) (dC fun c=>rfl) ?_;have h:=cO hA h;rw[show(List.map a.eval args.toList).toArray=args.map a.eval from by apply Array.toList_inj.1;simp]at h;exact dK h |>.elim fun s ⟨v,h1,h2,h3⟩=>⟨s,v,h1,h2,h3⟩
      all_goals simp only[kH]at h
  all_goals simp only[kH]at h
end
/-! ### Acting -/
def oA(a:Addr):Nat->List Value->World->(World->Prop)->Prop
 | _,[],w,K=>K w
 | i,v ::r,w,K=>bif v.oneCell' then(∃ u,w.cell? (a.add i)=some u)/\w.frozen? (a.add i)=false/\oA a (i+1) r (w.setCell (a.add i) v) K else False
def iJ(P:Program)(T:qG)(t:Nat)(S:Sem Value)(w:World)(K:SV->World->Prop):Prop :=
 xU T t fun s v=>∃ w',S.run P w=.ok v w'/\K s w'
def Ca(P:Program)(S:Sem Unit)(w:World)(K:SV->World->Prop):Prop:=∃ w',S.run P w=.ok () w'/\K .un w'
def eO (P:Program) (T:qG) (fs:List Nat) (et:List Nat) (o:Oper) (F:Fr) (w:World) (K:SV->World->Prop):Prop :=
  match o.op with
  | .store t x y=>yA F x fun a=>vv F y fun v=>(match tf T t with
    | some te=>bif Nat.beq v.cells.size te.size then(bif te.ld.agg then oA a 0 v.cells.toList w (K .un) else
        bif v.oneCell' then(∃ u,w.cell? a=some u)/\w.frozen? a=false/\K .un (w.setCell a v) else False) else False
    | none=>False)
  | .box t x=>vv F x fun v=>K (.v (.pointer (some ⟨w.heap.size,0,none⟩))) (w.alloc (.cells v.cells t))
  | .alloc t=>(match tf T t with
    | some te=>K (.v (.pointer (some ⟨w.heap.size,0,none⟩))) (w.alloc (.cells te.zero.cells t))
    | none=>False)
  | .buildSlice t n parts=>(match tf T t with
    | some ⟨.slice e,_,_,_,_⟩=>(match tf T e with
      | some te=>bif Nat.ble (n*te.size) 16777216 then DK F parts.toList fun vs=>(match Instr.fill (fun i=>some (i*te.size,te.size)) ((Array.range (n*te.size)).map (te.zero.cells[· % te.zero.cells.size]!)) vs with
        | some cells=>K (.v (.slice (some ⟨w.heap.size,0,none⟩) n n)) (w.alloc (.cells cells e))
        | none=>False) else False
      | none=>False)
    | _=>False)
  | .makeMap _ none=>K (.v (.map (some w.heap.size))) (w.alloc (.map #[] 0))
  | .makeMap t (some x)=>vv F x fun v=>iJ P T o.type (Instr.makeMap t (some v)) w K
  | .makeSlice t l c=>vv F l fun l=>vv F c fun c=>iJ P T o.type (Instr.makeSlice t l c) w K
  | .convert src dst x=>vv F x fun v=>iJ P T o.type (Go.convert src dst v) w K
  | .typeAssert x t u ok=>vv F x fun v=>iJ P T o.type (Instr.typeAssert v t u ok) w K
  | .makeInterface t x=>vv F x fun v=>iJ P T o.type (Instr.makeInterface t v) w K
  | .mapEntry t m k=>vv F m fun m=>vv F k fun k=>iJ P T o.type (Instr.mapEntry t m k) w K
  | .mapUpdate t m k x | .insert t m k x=>vv F m fun m=>vv F k fun k=>vv F x fun x=>Ca P (Instr.mapUpdate t m k x) w K
  | .entryStore t m s x=>vv F m fun m=>vv F s fun s=>vv F x fun x=>Ca P (Instr.entryStore t m s x) w K
  | .range t x=>vv F x fun v=>∃(p:OA)(w':World),(Instr.range t v).run P w=.ok (.pointer p) w'/\K (.v (.pointer p)) w'
  | .next it true=>vv F it fun v=>∃ w':World,((Instr.next v true o.type).run P w=.ok (.tuple #[.bool false]) w'/\K (.v (.tuple #[.bool false])) w')∨∃(k x:Int),(Instr.next v true o.type).run P w=.ok (.tuple #[.bool true,.int .i64 k,.int .i32 x]) w'/\K (.v (.tuple #[.bool true,.int .i64 k,.int .i32 x])) w'
  | .next it false=>vv F it fun v=>∃ w':World,((Instr.next v false o.type).run P w=.ok (.tuple #[.bool false]) w'/\K (.v (.tuple #[.bool false])) w')∨∃(k x:Value),(Instr.next v false o.type).run P w=.ok (.tuple #[.bool true,k,x]) w'/\K (.v (.tuple #[.bool true,k,x])) w'
  | .entry it=>vv F it fun v=>wV T et fun vs=>∃ w':World,(Instr.entry v).run P w=.ok (.tuple vs.toArray) w'/\K (.v (.tuple vs.toArray)) w'
  | .binOp op t x y _=>vv F x fun a=>vv F y fun b=>iJ P T o.type (do eqGuard op t x y a b;Go.binOp op t a b) w K
  | .call { callee:=.builtin .append,args,argTypes }=>xT F args.toList fun vs=>iJ P T o.type (Builtin.append_ argTypes o.type vs.toArray) w K
  | .call { callee:=.builtin .copy,args,argTypes }=>xT F args.toList fun vs=>iJ P T o.type (Builtin.copy_ argTypes o.type vs.toArray) w K
  | .call { callee:=.builtin .delete,args,argTypes }=>xT F args.toList fun vs=>iJ P T o.type (Builtin.delete_ argTypes o.type vs.toArray) w K
  | .call { callee:=.builtin .clear,args,argTypes }=>xT F args.toList fun vs=>iJ P T o.type (Builtin.clear_ argTypes o.type vs.toArray) w K
  | .call { callee:=.builtin .cap,args,argTypes }=>xT F args.toList fun vs=>iJ P T o.type (Builtin.cap_ argTypes o.type vs.toArray) w K
  | .call { callee:=.value f,args,.. }=>(match ev F f with
    | .v (.func (.func g) first captured)=>bif fs.contains g then xT F args.toList fun vs =>
        Calls P g (first.toList++(vs++captured.toList)).toArray w fun e w'=>xU T o.type fun s v=>e=.returned v/\K s w'
      else xT F args.toList fun vs=>xU T o.type fun s v=>∃ w':World,(callFunc g (first.toList++(vs++captured.toList)).toArray).run P w=.ok (.value v) w'/\K s w'
    | _=>False)
  | .call { callee:=.invoke r m,args,.. }=>vv F r fun rv=>xT F args.toList fun vs=>∃(g:Nat)(as:List Value),(callMethod rv m vs.toArray).run P w=.ok (.enter g as.toArray) w ∧
      Calls P g as.toArray w fun e w'=>xU T o.type fun s v=>e=.returned v/\K s w'
  | _=>False
def Dd(P:Program)(fs:List Nat):Prop:=∀ g∈fs,∀ args w,(callFunc g args).run P w=.ok (.enter g args) w
section
variable {P : Program} {T : qG} {fs et : List Nat} {F : Fr} {a : Act} {w : World} {K : SV → World → Prop}
def xS(P:Program)(o:Oper)(a:Act)(w:World)(K:SV->World->Prop):Prop :=
 o.wp P a w (fun a' w'=>∃ s v,a'=a.put o.dst v/\eW s v/\K s w') yW
theorem bM{o:Oper}{S:Sem Value}(ho:(execOp a.eval o).run P w=(S.run P w).andThen fun v w'=>.ok (.value v) w')(h:∃ s v,eW s v/\∃ w',S.run P w=.ok v w'/\K s w'):xS P o a w K:=by
 obtain⟨s,v,h1,w',h2,h3⟩:=h;unfold xS Oper.wp;rw[ho,h2];exact⟨s,v,rfl,h1,h3⟩
theorem kF{o:Oper}{S:Sem Unit}(ho:(execOp a.eval o).run P w=(S.run P w).andThen fun _ w'=>.ok .skip w')(h:∃ w',S.run P w=.ok () w'/\K .un w'):xS P o a w K:=by
 obtain⟨w',h2,h3⟩:=h;unfold xS Oper.wp;rw[ho,h2];exact⟨.un,undef,rfl,trivial,h3⟩
theorem jZ{ρ:Operand->Value}{o:Oper}{S:Sem Unit}(h:execOp ρ o=(do S;pure Next.skip))(w:World):(execOp ρ o).run P w=(S.run P w).andThen fun _ w'=>.ok .skip w':=by
 rw[h];simp only[Sem.run_bind];rfl
theorem jL{ad:Addr}:∀ {vs:List Value} {i:Nat} {w:World} {K:World->Prop},oA ad i vs w K->∃ w',(storeCells ad vs i).run P w=.ok () w'/\K w'
 | [],i,w,K,h=>⟨w,by simp[storeCells],h⟩
 | v ::r,i,w,K,h=>by
  unfold oA at h;cases hb:v.oneCell' with
  | false=>rw[hb]at h;exact h.elim
  | true =>
   rw[hb]at h;obtain⟨⟨u,hu⟩,hf,h⟩:=h;obtain⟨w',h1,h2⟩:=jL h;refine⟨w',?_,h2⟩;have:(store (ad.add i) v).run P w=.ok () (w.setCell (ad.add i) v):=by
    cases v <;>simp_all [store,Sem.run,Value.oneCell']
   simp only[storeCells,Sem.run_bind,this,Result.andThen_ok,h1]
theorem cN{t:Nat}{S:Sem Value}(h:iJ P T t S w K):∃ s v,eW s v/\∃ w',S.run P w=.ok v w'/\K s w':=dK h
theorem iV(e:TypeId)(cs:Array Value)(w:World):(newRow e cs).run P w=.ok ⟨w.heap.size,0,none⟩ (w.alloc (.cells cs e)):=by
 rfl
theorem AW(hT:oI P T)(El:Dd P fs)(hA:Ag F a){o:Oper}(h:eO P T fs et o F w K):xS P o a w K:=by
 obtain⟨dst,op,ty,pos,after,guard⟩:=o;have arr:∀(args:Array Operand),(List.map a.eval args.toList).toArray=args.map a.eval:=fun args=>by apply Array.toList_inj.1;simp
 cases op
 case store t x y =>
  refine kF (S:=Instr.storeAt t (a.eval x) (a.eval y)) (jZ (by simp only[execOp]) w) ?_;simp only[eO]at h;obtain⟨ad,hx,h⟩:=hO hA h;have h:=aL hA h;split at h
  ·rename_i te DT;cases hb:Nat.beq (a.eval y).cells.size te.size with
   | false=>rw[hb]at h;exact h.elim
   | true =>
    rw[hb]at h;simp only[cond_true]at h;have hs:(a.eval y).cells.size=te.size:=Nat.eq_of_beq_eq_true hb;have base:∀ w',(storeCells ad (a.eval y).cells.toList).run P w=.ok () w'->(Instr.storeAt t (a.eval x) (a.eval y)).run P w=.ok () w':=by
     intro w' hw;simp[Instr.storeAt,hx,Instr.sureAddr,storeVar,(hT.get DT).sizeOf w,hs,hw]
    cases hg:te.ld.agg with
    | true =>
     rw[hg]at h;obtain⟨w',h1,h2⟩:=jL (P:=P) h;exact⟨w',base w' h1,h2⟩
    | false =>
     rw[hg]at h;simp only[cond_false]at h;cases ho:(a.eval y).oneCell' with
     | false=>rw[ho]at h;exact h.elim
     | true =>
      rw[ho]at h;simp only[cond_true]at h;obtain⟨⟨u,hu⟩,hf,h⟩:=h;refine⟨_,base _ ?_,h⟩;have hc:(a.eval y).cells.toList=[a.eval y]:=by
       generalize a.eval y=v at *;cases v <;>simp_all [Value.cells,Value.oneCell']
      have h0:ad.add 0=ad:=by simp[Addr.add]
      rw[hc];have:(store (ad.add 0) (a.eval y)).run P w=.ok () (w.setCell ad (a.eval y)):=by
       rw[h0];generalize a.eval y=v at *;cases v <;>simp_all [store,Sem.run,Value.oneCell']
      simp only[storeCells,Sem.run_bind,this,Result.andThen_ok];rfl
  ·exact h.elim
 case box t x =>
  refine bM (S:=Instr.box t (a.eval x)) (aS (by simp only[execOp]) w) ?_;simp only[eO]at h;have h:=aL hA h;exact⟨.v _,_,(rfl:_=_),_,by simp only[Instr.box,newVar,Sem.run_bind,iV,Result.andThen_ok];rfl,h⟩
 case alloc t =>
  refine bM (S:=Instr.alloc t true (.tuple #[])) (aS (by simp only[execOp]) w) ?_;simp only[eO]at h;split at h
  ·rename_i te DT;exact⟨.v _,_,(rfl:_=_),_,by simp only[Instr.alloc,newVar,Sem.run_bind,(hT.get DT).zeroValue w,iV,Result.andThen_ok];rfl,h⟩
  ·exact h.elim
 case buildSlice t n parts =>
  refine bM (S:=Instr.buildSlice t n (parts.map fun(i,x)=>(i,a.eval x))) (aS (by simp only[execOp]) w) ?_;simp only[eO]at h;split at h
  ·rename_i e _ _ _ _ ht;split at h
   ·rename_i te DT;cases hb:Nat.ble (n*te.size) 16777216 with
    | false=>rw[hb]at h;exact h.elim
    | true =>
     rw[hb]at h;simp only[cond_true]at h;have h:=lE hA h;split at h
     ·rename_i cells hc;refine⟨.v _,_,(rfl:_=_),_,?_,h⟩;have Ev:¬ (n*te.size>2^24):=by
       have:=Nat.le_of_ble_eq_true hb;omega
      have hl:(parts.map fun(i,x)=>(i,a.eval x)).toList=parts.toList.map (fun p=>(p.1,a.eval p.2)):=by simp
      simp only[Instr.buildSlice,Sem.run_bind,Ty.run_und w ((hT.get ht).slice rfl),Result.andThen_ok,(hT.get DT).sizeOf w,if_neg Ev];rw[hl];by_cases hz:n*te.size=0
      ·rw[if_pos hz];rw[pure_bind];have e0:(Array.range (n*te.size)).map ((#[]:Array Value)[· % (#[]:Array Value).size]!)=(Array.range (n*te.size)).map (te.zero.cells[· % te.zero.cells.size]!):=by
        rw[hz];simp
       rw[e0,hc];simp only[Sem.run_bind,iV,Result.andThen_ok];rfl
      ·rw[if_neg hz];simp only[Sem.run_bind,(hT.get DT).zeroValue w,Sem.run_pure,Result.andThen_ok];rw[hc];simp only[Sem.run_bind,iV,Result.andThen_ok];rfl
     ·exact h.elim
   ·exact h.elim
  ·exact h.elim
 case makeMap t r =>
  cases r with
  | none =>
   refine bM (S:=Instr.makeMap t none) (aS (by simp only[execOp,Option.map_none]) w) ?_;simp only[eO]at h;exact⟨.v _,_,(rfl:_=_),_,rfl,h⟩
  | some x =>
   refine bM (S:=Instr.makeMap t (some (a.eval x))) (aS (by simp only[execOp,Option.map_some]) w) ?_;simp only[eO]at h;exact cN (aL hA h)
 case makeSlice t l c =>
  refine bM (S:=Instr.makeSlice t (a.eval l) (a.eval c)) (aS (by simp only[execOp]) w) ?_;simp only[eO]at h;exact cN (aL hA (aL hA h))
 case convert src d x =>
  refine bM (S:=Go.convert src d (a.eval x)) (aS (by simp only[execOp]) w) ?_;simp only[eO]at h;exact cN (aL hA h)
 case typeAssert x t u ok =>
  refine bM (S:=Instr.typeAssert (a.eval x) t u ok) (aS (by simp only[execOp]) w) ?_;simp only[eO]at h;exact cN (aL hA h)
 case makeInterface t x =>
  refine bM (S:=Instr.makeInterface t (a.eval x)) (aS (by simp only[execOp]) w) ?_;simp only[eO]at h;exact cN (aL hA h)
 case mapEntry t m k =>
  refine bM (S:=Instr.mapEntry t (a.eval m) (a.eval k)) (aS (by simp only[execOp]) w) ?_;simp only[eO]at h;exact cN (aL hA (aL hA h))
 case mapUpdate t m k x =>
  refine kF (S:=Instr.mapUpdate t (a.eval m) (a.eval k) (a.eval x)) (jZ (by simp only[execOp]) w) ?_;simp only[eO]at h;exact aL hA (aL hA (aL hA h))
 case insert t m k x =>
  refine kF (S:=Instr.mapUpdate t (a.eval m) (a.eval k) (a.eval x)) (jZ (by simp only[execOp]) w) ?_;simp only[eO]at h;exact aL hA (aL hA (aL hA h))
 case entryStore t m s x =>
  refine kF (S:=Instr.entryStore t (a.eval m) (a.eval s) (a.eval x)) (jZ (by simp only[execOp]) w) ?_;simp only[eO]at h;exact aL hA (aL hA (aL hA h))
 case range t x =>
  refine bM (S:=Instr.range t (a.eval x)) (aS (by simp only[execOp]) w) ?_;simp only[eO]at h;obtain⟨p,w',h1,h2⟩:=aL hA h;exact⟨.v _,_,(rfl:_=_),w',h1,h2⟩
 case next it s =>
  refine bM (S:=Instr.next (a.eval it) s ty) (aS (by simp only[execOp]) w) ?_;cases s with
  | true =>
   simp only[eO]at h;obtain⟨w',⟨h1,h2⟩ | ⟨k,x,h1,h2⟩⟩:=aL hA h
   ·exact⟨.v _,_,(rfl:_=_),w',h1,h2⟩
   ·exact⟨.v _,_,(rfl:_=_),w',h1,h2⟩
  | false =>
   simp only[eO]at h;obtain⟨w',⟨h1,h2⟩ | ⟨k,x,h1,h2⟩⟩:=aL hA h
   ·exact⟨.v _,_,(rfl:_=_),w',h1,h2⟩
   ·exact⟨.v _,_,(rfl:_=_),w',h1,h2⟩
 case entry it =>
  refine bM (S:=Instr.entry (a.eval it)) (aS (by simp only[execOp]) w) ?_;simp only[eO]at h;obtain⟨vs,w',h1,h2⟩:=lA (aL hA h);exact⟨.v _,_,(rfl:_=_),w',h1,h2⟩
 case binOp op t x y yt =>
  refine bM (S:=do eqGuard op t x y (a.eval x) (a.eval y);Go.binOp op t (a.eval x) (a.eval y)) (aS (by simp only[execOp]) w) ?_;simp only[eO]at h;exact cN (aL hA (aL hA h))
 case call c =>
  obtain⟨callee,args,ts⟩:=c;cases callee with
  | invoke r m =>
   simp only[eO]at h;obtain⟨g,as,h1,h2⟩:=cO hA (aL hA h);rw[arr]at h1;unfold xS Oper.wp;have DV:(execOp a.eval ⟨dst,.call ⟨.invoke r m,args,ts⟩,ty,pos,after,guard⟩).run P w=.ok (.enter g as.toArray) w:=by
    have e0:(#[a.eval r]++args.map a.eval)[0]?=some (a.eval r):=by rw[Array.getElem?_append_left (by exact Nat.zero_lt_one)];rfl
    have e1:(#[a.eval r]++args.map a.eval).extract 1 (#[a.eval r]++args.map a.eval).size=args.map a.eval:=by
     apply Array.toList_inj.1;simp;exact List.take_of_length_le (by simp)
    simp only[execOp,resolve,pure_bind,invoke,e0,e1];exact h1
   rw[DV];refine h2.mono fun e w' hw=>?_;obtain⟨s,v,h1,rfl,h3⟩:=dK hw;exact⟨s,v,rfl,h1,h3⟩
  | builtin b =>
   cases b
   case append =>
    simp only[eO]at h;have h:=cO hA h;rw[arr]at h;exact bM (S:=Builtin.append_ ts ty (args.map a.eval)) (dC (fun c=>rfl) w) (cN h)
   case copy =>
    simp only[eO]at h;have h:=cO hA h;rw[arr]at h;exact bM (S:=Builtin.copy_ ts ty (args.map a.eval)) (dC (fun c=>rfl) w) (cN h)
   case delete =>
    simp only[eO]at h;have h:=cO hA h;rw[arr]at h;exact bM (S:=Builtin.delete_ ts ty (args.map a.eval)) (dC (fun c=>rfl) w) (cN h)
   case clear =>
    simp only[eO]at h;have h:=cO hA h;rw[arr]at h;exact bM (S:=Builtin.clear_ ts ty (args.map a.eval)) (dC (fun c=>rfl) w) (cN h)
   case cap =>
    simp only[eO]at h;have h:=cO hA h;rw[arr]at h;exact bM (S:=Builtin.cap_ ts ty (args.map a.eval)) (dC (fun c=>rfl) w) (cN h)
   all_goals simp only[eO]at h
  | value f =>
   simp only[eO]at h;have hf:=hA.ev f;split at h
   ·rename_i g first captured he
    rw[he]at hf;simp only[eW]at hf;cases hg:fs.contains g with
    | false =>
     rw[hg]at h;simp only[cond_false]at h;obtain⟨s,v,h1,w',h2,h3⟩:=dK (cO hA h);unfold xS Oper.wp;have DV:(execOp a.eval ⟨dst,.call ⟨.value f,args,ts⟩,ty,pos,after,guard⟩).run P w=.ok (.value v) w':=by
      simp only[execOp,resolve,hf,Deferred.ofValue,pure_bind,invoke];rw[← h2];congr 2;apply Array.toList_inj.1;simp
     rw[DV];exact⟨s,v,rfl,h1,h3⟩
    | true =>
     rw[hg]at h;simp only[cond_true]at h;have h:=cO hA h;have Ge:=El g (List.contains_iff_mem.1 hg);unfold xS Oper.wp;have DV:(execOp a.eval ⟨dst,.call ⟨.value f,args,ts⟩,ty,pos,after,guard⟩).run P w=.ok (.enter g (first.toList++(List.map a.eval args.toList++captured.toList)).toArray) w:=by
      simp only[execOp,resolve,hf,Deferred.ofValue,pure_bind,invoke];rw[Ge];congr 2;apply Array.toList_inj.1;simp
     rw[DV];refine h.mono fun e w' hw=>?_;obtain⟨s,v,h1,rfl,h3⟩:=dK hw;exact⟨s,v,rfl,h1,h3⟩
   ·exact h.elim
 all_goals simp only[eO]at h
end
end Go.V
/-! The own library V, part 7: a function's whole text: what must hold for a call of it to come to an end as told. -/
namespace Go.V
structure Cx where
 P:Program
 T:qG
 fs:List Nat
 n:Nat
structure Ra where
 wr:List Nat
 ql:List Nat
 waits:dM
 et:List Nat:=[]
inductive Sk where
 | reg (a:Ra)
 | regX (a:Ra) (t:XT)
 | seq (x y:Sk)
 | cond (x y:Sk)
 | join (J:List (Nat×Sh)) (W:List Nat) (x:Sk)
 | block (x:Sk)
 | loop (J:List (Nat×Sh)) (W:List Nat) (x:Sk)
 | leaf
def AL:Option TE->Bool
 | some ⟨.int _,_,_,_,_⟩=>true
 | _=>false
def tF:Option TE->Bool
 | some ⟨.str,_,_,_,_⟩=>true
 | _=>false
def Bc:Option TE->Bool
 | some ⟨.slice _,_,_,_,_⟩=>true
 | _=>false
def CQ:Option TE->Bool
 | some ⟨.map _ _,_,_,_,_⟩=>true
 | _=>false
def iZ(T:qG)(o:Oper):Nat :=
 match o.op with
 | .load .. | .lookup ..=>1
 | .move _ | .assign _ | .pick .. | .nilCheck _ | .binOp .. | .unOp .. | .fieldAddr .. | .field .. | .indexAddr .. | .index .. | .slice .. | .build .. | .makeFunc .. | .extract .. | .makeInterface ..=>0
 | .convert src dst _=>if AL (tf T src) && AL (tf T dst) || tF (tf T src) && tF (tf T dst) then 0 else if Bc (tf T src) && tF (tf T dst) then 1 else 2
 | .call { callee:=.builtin .len,argTypes,.. }=>(match argTypes[0]? with
  | some t=>if CQ (tf T t) then 1 else 0
  | none=>2)
 | .call { callee:=.builtin .max,.. } | .call { callee:=.builtin .min,.. }=>0
 | _=>2
def kinds(T:qG)(ql:List Nat)(ops:List Oper):dU:=fun i =>
 match ops[i]? with
 | some o=>let k:=iZ T o;bif ql.contains i && Nat.beq k 1 then 0 else k
 | none=>2
def vB(n:Nat)(F:Fr)(dst:Option Tmp)(s:SV)(K:Fr->Prop):Prop :=
 match dst with
 | none=>K F
 | some d=>bif Nat.blt d n then K (upd F d s) else False
def inC(C:Option (World->Prop))(w:World)(φ:Prop):Prop :=
 match C with
 | none=>φ
 | some C=>C w/\φ
def eZ(C:Option (World->Prop)):World->Prop :=
 match C with
 | none=>fun _=>True
 | some C=>C
def CB(cx:Cx)(et:List Nat)(wr:Bool)(m:Nat)(C:Option (World->Prop))(o:Oper)(F:Fr)(w:World)(K:Fr->World->Prop):Prop :=
 match iZ cx.T o with
 | 0=>aZ cx.P cx.T wr o F fun s=>vB cx.n F o.dst s fun F'=>K F' w
 | 1=>kH cx.P cx.T o F (Dm m (eZ C) w) fun s=>vB cx.n F o.dst s fun F'=>K F' w
 | _=>eO cx.P cx.T cx.fs et o F w fun s w'=>inC C w' (vB cx.n F o.dst s fun F'=>K F' w')
def nW(cx:Cx)(a:Ra)(C:Option (World->Prop))(ops:List Oper):List (Nat×Oper)->Fr->World->(Fr->World->Prop)->Prop
 | [],F,w,K=>K F w
 | (i,o) ::r,F,w,K =>
  let go (F:Fr):Prop:=CB cx a.et (a.wr.contains i) (bif a.ql.contains i then 0 else 1) C o F w fun F' w'=>nW cx a C ops r F' w' K;let skip (F:Fr):Prop:=vB cx.n F o.dst (.v undef) fun F'=>nW cx a C ops r F' w K
  match o.guard with
  | none=>go F
  | some (j,want)=>(match (ops[j]?).bind (·.dst)with
   | none=>False
   | some t=>bif Nat.blt t cx.n then(match F t with
    | .v (.bool true)=>bif want then go F else skip F
    | .v (.bool false)=>bif want then skip F else go F
    | .v (.tuple _)=>skip F
    | .b c=>(c=true->bif want then go (upd F t (.v (.bool true))) else skip (upd F t (.v (.bool true))))/\(c=false->bif want then skip (upd F t (.v (.bool false))) else go (upd F t (.v (.bool false))))
    | .p q _=>(q->bif want then go (upd F t (.v (.bool true))) else skip (upd F t (.v (.bool true))))/\(¬ q->bif want then skip (upd F t (.v (.bool false))) else go (upd F t (.v (.bool false))))
    | _=>False) else False)
def Dq(cx:Cx)(a:Ra)(ops:List Oper)(draw:Bool)(F:Fr)(w:World)(K:Fr->World->Prop):Prop :=
 bif draw then
  bif Bk ops (kinds cx.T a.ql ops) a.waits then
   (match a.ql with
   | []=>nW cx a none ops (eX 0 ops) F w.drew K
   | _=>∃ C:World->Prop,C w.drew/\nW cx a (some C) ops (eX 0 ops) F w.drew K)
  else False
 else nW cx a none ops (eX 0 ops) F w K
def vxt(cx:Cx)(a:Ra)(C:Option (World->Prop))(ops:List Oper)(F:Fr)(w:World)(K:Fr->World->Prop):XT->Prop
 | .leaf L=>nW cx a C ops (pick ops L) F w K
 | .split _ _ x y=>vxt cx a C ops F w K x/\vxt cx a C ops F w K y
 | .dead _=>True
def BH(cx:Cx)(a:Ra)(t:XT)(ops:List Oper)(draw:Bool)(F:Fr)(w:World)(K:Fr->World->Prop):Prop :=
 bif draw then
  bif CP ops (kinds cx.T a.ql ops) a.waits t then
   (match a.ql with
   | []=>vxt cx a none ops F w.drew K t
   | _=>∃ C:World->Prop,C w.drew/\vxt cx a (some C) ops F w.drew K t)
  else False
 else False
section
variable {cx : Cx} {F : Fr} {a : Act} {w : World}
structure St(cx:Cx)(F:Fr)(a:Act):Prop where
 ag:Ag F a
 size:a.tmps.size=cx.n
 defers:a.defers=[]
theorem BR(a:Act)(d:Option Tmp)(v:Value):(a.put d v).tmps.size=a.tmps.size:=by cases d <;>simp[Act.put]
theorem Ad(a:Act)(d:Option Tmp)(v:Value):(a.put d v).defers=a.defers:=by cases d <;>rfl
theorem hJ(hS:St cx F a){d:Option Tmp}{s:SV}{v:Value}(hs:eW s v){K:Fr->Prop}(h:vB cx.n F d s K):∃ F',St cx F' (a.put d v)/\K F':=by
 cases d with
 | none=>exact⟨F,hS,h⟩
 | some d =>
  simp only[vB]at h;cases hb:Nat.blt d cx.n with
  | false=>rw[hb]at h;exact h.elim
  | true =>
   rw[hb]at h;have hd:d<cx.n:=by simpa[Nat.blt_eq]using hb
   exact⟨_,⟨hS.ag.put hS.size hd hs,by rw[BR];exact hS.size,by rw[Ad];exact hS.defers⟩,h⟩
theorem St.known(hS:St cx F a){t:Nat}{c:Bool}(h:eW (.v (.bool c)) (a.tmps.getD t undef)):St cx (upd F t (.v (.bool c))) a:=by
 refine⟨fun u=>?_,hS.size,hS.defers⟩;unfold upd;cases hb:Nat.beq u t with
 | true =>
  have:u=t:=Nat.eq_of_beq_eq_true hb;subst this;exact h
 | false=>exact hS.ag u
theorem AV (hT:oI cx.P cx.T) (El:Dd cx.P cx.fs) (hS:St cx F a) {et:List Nat} {wr:Bool} {m k:Nat} {C:Option (World->Prop)} {ops:Array Oper} {o:Oper} {K:Fr->World->Prop} {K':Act->World->Prop}
    (hw:Region.wanted o (yielded ops a.tmps)=true) (hk:k=iZ cx.T o∨(k=0/\iZ cx.T o=1/\m=0)) (hm:m=0->iZ cx.T o=1->k=0)
    (hK:∀ F' a' w',St cx F' a'->K F' w'->K' a' w') (h:CB cx et wr m C o F w K):aU cx.P ops (eZ C) k o K' a w:=by
  unfold CB at h;unfold aU;rw[if_pos hw];split at h
  · rename_i Gd;obtain rfl:k=0:=by
      rcases hk with hk | hk
      · rw[hk,Gd]
      · exact hk.1
    obtain⟨s,v,h1,h2,h3⟩:=xZ hT hS.ag h;obtain⟨F',DZ,Fj⟩:=hJ hS h1 h3;exact⟨v,fun w' _=>.inl (h2 w'),hK _ _ _ DZ Fj⟩
  · rename_i FL;obtain⟨s,v,h1,h2,h3⟩:=xY hT hS.ag h;obtain⟨F',DZ,Fj⟩:=hJ hS h1 h3;rcases Nat.eq_zero_or_pos m with Ga | Ga
    · obtain rfl:=hm Ga FL;subst Ga;exact⟨v,fun w' hC=>.inl (h2 w' hC),hK _ _ _ DZ Fj⟩
    · obtain⟨m,rfl⟩:∃ m',m=m'+1:=⟨m-1,by omega⟩;obtain rfl:k=1:=by
        rcases hk with hk | hk
        · rw[hk,FL]
        · omega
      exact⟨v,.inl h2,hK _ _ _ DZ Fj⟩
  · rename_i Ky Fa;have Gc:k=iZ cx.T o:=by
      rcases hk with hk | hk
      · exact hk
      · exact absurd hk.2.1 Fa
    split
    · exact absurd Gc.symm Ky
    · exact absurd Gc.symm Fa
    · refine Oper.wp_mono ?_ (AW hT El hS.ag h);rintro a' w' ⟨s,v,rfl,h1,h2⟩;refine⟨⟨v,rfl⟩,?_⟩;cases C with
      | none =>
        simp only[inC]at h2;obtain⟨F',DZ,Fj⟩:=hJ hS h1 h2;exact⟨trivial,hK _ _ _ DZ Fj⟩
      | some C =>
        simp only[inC]at h2;obtain⟨F',DZ,Fj⟩:=hJ hS h1 h2.2;exact⟨h2.1,hK _ _ _ DZ Fj⟩
theorem Be(hS:St cx F a){k:Nat}{C:Option (World->Prop)}{ops:Array Oper}{o:Oper}{K:Fr->World->Prop}{K':Act->World->Prop}
    (hw:Region.wanted o (yielded ops a.tmps)=false) (hK:∀ F' a' w',St cx F' a'->K F' w'->K' a' w') (h:vB cx.n F o.dst (.v undef) fun F'=>K F' w):aU cx.P ops (eZ C) k o K' a w:=by
  unfold aU;rw[if_neg (by rw[hw];simp)];obtain⟨F',DZ,Fj⟩:=hJ (s:=.v undef) (v:=undef) hS rfl h;exact hK _ _ _ DZ Fj
theorem mM (hT:oI cx.P cx.T) (El:Dd cx.P cx.fs) {ra:Ra} {C:Option (World->Prop)} {ops:List Oper} {K:Fr->World->Prop} :
    ∀ (r:List (Nat×Oper)) (F:Fr) (a:Act) (w:World),(∀ x∈r,ops[x.1]?=some x.2)->St cx F a->nW cx ra C ops r F w K →
      dB cx.P ops.toArray (eZ C) (kinds cx.T ra.ql ops) (fun a' w'=>∃ F',St cx F' a'/\K F' w') r a w
  | [],F,a,w,_,hS,h=>⟨F,hS,h⟩
  | (i, o) :: r,F,a,w,hr,hS,h=>by
    have hi:ops[i]?=some o:=hr (i,o) (by simp);have ih:∀ F' a' w',St cx F' a'->nW cx ra C ops r F' w' K->dB cx.P ops.toArray (eZ C) (kinds cx.T ra.ql ops) (fun a' w'=>∃ F',St cx F' a'/\K F' w') r a' w' :=
      fun F' a' w' DZ h'=>mM hT El r F' a' w' (fun x hx=>hr x (by simp[hx])) DZ h'
    have Jy:kinds cx.T ra.ql ops i=(bif ra.ql.contains i && Nat.beq (iZ cx.T o) 1 then 0 else iZ cx.T o):=by
      unfold kinds;rw[hi]
    have go:∀(F:Fr),St cx F a->Region.wanted o (yielded ops.toArray a.tmps)=true →
        CB cx ra.et (ra.wr.contains i) (bif ra.ql.contains i then 0 else 1) C o F w (fun F' w'=>nW cx ra C ops r F' w' K) →
        aU cx.P ops.toArray (eZ C) (kinds cx.T ra.ql ops i) o (dB cx.P ops.toArray (eZ C) (kinds cx.T ra.ql ops) (fun a' w'=>∃ F',St cx F' a'/\K F' w') r) a w:=by
      intro F hS hw h;refine AV hT El hS hw ?_ ?_ ih h
      · rw[Jy];cases hq:ra.ql.contains i <;>cases hk:Nat.beq (iZ cx.T o) 1 <;>simp;have:=Nat.eq_of_beq_eq_true hk;omega
      · rw[Jy];intro hm FL;cases hq:ra.ql.contains i with
        | false=>rw[hq]at hm;simp at hm
        | true=>simp[FL]
    have skip:∀(F:Fr),St cx F a->Region.wanted o (yielded ops.toArray a.tmps)=false->vB cx.n F o.dst (.v undef) (fun F'=>nW cx ra C ops r F' w K) →
        aU cx.P ops.toArray (eZ C) (kinds cx.T ra.ql ops i) o (dB cx.P ops.toArray (eZ C) (kinds cx.T ra.ql ops) (fun a' w'=>∃ F',St cx F' a'/\K F' w') r) a w:=by
      intro F hS hw h;exact Be hS hw ih h
    simp only[nW]at h;simp only[dB];split at h
    · rename_i hg;exact go F hS (by simp[Region.wanted,hg]) h
    · rename_i j want hg;split at h
      · exact h.elim
      · rename_i t ht;have Gp:=ht;have yl:∀ c:Bool,a.tmps.getD t undef=.bool c->yielded ops.toArray a.tmps j=some c∨¬ t<cx.n:=by
          intro c hc;by_cases FD:t<cx.n
          · left;unfold yielded;have:(ops.toArray[j]?).bind (·.dst)=some t:=by simpa using ht
            rw[this];have DL:t<a.tmps.size:=by rw[hS.size];exact FD
            simp only[Option.bind_some,Array.getElem?_eq_getElem DL];simp[Array.getD,DL]at hc;rw[hc]
          · exact .inr FD
        cases hb:Nat.blt t cx.n with
        | false=>rw[hb]at h;exact h.elim
        | true =>
          rw[hb]at h;simp only[cond_true]at h;have FD:t<cx.n:=by simpa[Nat.blt_eq]using hb
          have Es:∀ c:Bool,a.tmps.getD t undef=.bool c->Region.wanted o (yielded ops.toArray a.tmps)=(c ==want):=by
            intro c hc;rcases yl c hc with h | h
            · simp[Region.wanted,hg,h]
            · exact absurd FD h
          have ht:=hS.ag t;split at h
          · rename_i he;rw[he]at ht;simp only[eW]at ht;have hw:=Es true ht;cases want with
            | true=>exact go F hS (by rw[hw];rfl) h
            | false=>exact skip F hS (by rw[hw];rfl) h
          · rename_i he;rw[he]at ht;simp only[eW]at ht;have hw:=Es false ht;cases want with
            | true=>exact skip F hS (by rw[hw];rfl) h
            | false=>exact go F hS (by rw[hw];rfl) h
          · rename_i vs he;rw[he]at ht;simp only[eW]at ht;refine skip F hS ?_ h;have:yielded ops.toArray a.tmps j=none:=by
              unfold yielded;have h2:(ops.toArray[j]?).bind (·.dst)=some t:=by simpa using Gp
              rw[h2];have DL:t<a.tmps.size:=by rw[hS.size];exact FD
              simp only[Option.bind_some,Array.getElem?_eq_getElem DL];simp[Array.getD,DL]at ht;rw[ht]
            simp[Region.wanted,hg,this]
          · rename_i c he;rw[he]at ht;simp only[eW]at ht;have hw:=Es c ht;have DZ:=hS.known (t:=t) (c:=c) (by simpa[eW]using ht);cases c with
            | true =>
              have h:=h.1 rfl;cases want with
              | true=>exact go _ DZ (by rw[hw];rfl) h
              | false=>exact skip _ DZ (by rw[hw];rfl) h
            | false =>
              have h:=h.2 rfl;cases want with
              | true=>exact skip _ DZ (by rw[hw];rfl) h
              | false=>exact go _ DZ (by rw[hw];rfl) h
          · rename_i q d he;rw[he]at ht;simp only[eW]at ht;by_cases hq:q
            · have Gr:a.tmps.getD t undef=.bool true:=by rw[ht];simp[hq]
              have hw:=Es true Gr;have DZ:=hS.known (t:=t) (c:=true) (by simpa[eW]using Gr);have h:=h.1 hq;cases want with
              | true=>exact go _ DZ (by rw[hw];rfl) h
              | false=>exact skip _ DZ (by rw[hw];rfl) h
            · have Gr:a.tmps.getD t undef=.bool false:=by rw[ht];simp[hq]
              have hw:=Es false Gr;have DZ:=hS.known (t:=t) (c:=false) (by simpa[eW]using Gr);have h:=h.2 hq;cases want with
              | true=>exact skip _ DZ (by rw[hw];rfl) h
              | false=>exact go _ DZ (by rw[hw];rfl) h
          · exact h.elim
theorem xB(l:List Oper):∀ x∈eX 0 l,l[x.1]?=some x.2:=by
 rintro⟨i,o⟩ hx;have:=(dJ.1 hx).2;simpa using this
end
end Go.V
/-! The own library V, part 8: code, loops, functions. -/
namespace Go.V
def TF:List (Nat×Sh)->Type->Type
 | [],X=>X
 | (_,.int _) ::r,X=>Int->TF r X
 | (_,.bool) ::r,X=>Bool->TF r X
 | (_,.str) ::r,X=>ByteArray->TF r X
 | (_,.slice) ::r,X=>OA->Nat->Nat->TF r X
 | (_,.ptr) ::r,X=>OA->TF r X
 | (_,.map) ::r,X=>Option Nat->TF r X
 | (_,.any) ::r,X=>Value->TF r X
 | (_,.addr) ::r,X=>Addr->TF r X
 | (_,.cst _) ::r,X=>TF r X
def nY{X:Type}:(J:List (Nat×Sh))->TF J X->Fr->(X->Prop)->Prop
 | [],I,_,K=>K I
 | (t,.int k) ::r,I,F,K=>(match F t with
  | .v (.int k' x)=>if k=k' then nY r (I x) F K else False
  | _=>False)
 | (t,.bool) ::r,I,F,K=>(match F t with
  | .v (.bool c)=>nY r (I c) F K
  | .b c=>nY r (I c) F K
  | .p q d=>nY r (I (@decide q d)) F K
  | _=>False)
 | (t,.str) ::r,I,F,K=>(match F t with
  | .v (.string x)=>nY r (I x) F K
  | _=>False)
 | (t,.slice) ::r,I,F,K=>(match F t with
  | .v (.slice A n c)=>nY r (I A n c) F K
  | _=>False)
 | (t,.ptr) ::r,I,F,K=>(match F t with
  | .v (.pointer p)=>nY r (I p) F K
  | _=>False)
 | (t,.map) ::r,I,F,K=>(match F t with
  | .v (.map p)=>nY r (I p) F K
  | _=>False)
 | (t,.any) ::r,I,F,K=>(match F t with
  | .v x=>nY r (I x) F K
  | _=>False)
 | (t,.addr) ::r,I,F,K=>(match F t with
  | .v (.pointer (some a))=>nY r (I a) F K
  | _=>False)
 | (_,.cst _) ::_,_,_,_=>False
def nG{X:Type}:(J:List (Nat×Sh))->TF J X->Fr->(X->Fr->Prop)->Prop
 | [],I,F,K=>K I F
 | (t,.int k) ::r,I,F,K=>∀ x:Int,nG r (I x) (upd F t (.v (.int k x))) K
 | (t,.bool) ::r,I,F,K=>∀ c:Bool,nG r (I c) (upd F t (.b c)) K
 | (t,.str) ::r,I,F,K=>∀ x:ByteArray,nG r (I x) (upd F t (.v (.string x))) K
 | (t,.slice) ::r,I,F,K=>∀(A:OA)(n c:Nat),nG r (I A n c) (upd F t (.v (.slice A n c))) K
 | (t,.ptr) ::r,I,F,K=>∀ p:OA,nG r (I p) (upd F t (.v (.pointer p))) K
 | (t,.map) ::r,I,F,K=>∀ p:Option Nat,nG r (I p) (upd F t (.v (.map p))) K
 | (t,.any) ::r,I,F,K=>∀ x:Value,nG r (I x) (upd F t (.v x)) K
 | (t,.addr) ::r,I,F,K=>∀ a:Addr,nG r (I a) (upd F t (.v (.pointer (some a)))) K
 | (_,.cst _) ::r,I,F,K=>nG r I F K
def hav(F:Fr)(W:List Nat):Fr:=fun t=>bif W.contains t then .un else F t
def bI:Code->List Nat->Bool
 | .region _ ops _,W=>ops.toList.all fun o=>match o.dst with
  | some d=>W.contains d
  | none=>true
 | .seq a b,W=>bI a W && bI b W
 | .cond _ a b,W=>bI a W && bI b W
 | .block _ a,W=>bI a W
 | .loop a,W=>bI a W
 | .skip,_ | .exit _,_ | .ret,_=>true
 | _,_=>false
def normalTo(e:Exit)(A B:Prop):Prop :=
 match e with
 | .normal=>A
 | _=>B
def XC (cx:Cx):Sk->Code->(Exit->Fr->World->Prop)->Fr->World->Prop
  | .reg ra,.region _ ops draw,Q,F,w=>Dq cx ra ops.toList draw F w fun F w=>Q .normal F w
  | .regX ra t,.region _ ops draw,Q,F,w=>BH cx ra t ops.toList draw F w fun F w=>Q .normal F w
  | .seq x y,.seq c d,Q,F,w=>XC cx x c (fun e F w=>match e with
    | .normal=>XC cx y d Q F w
    | e=>Q e F w) F w
  | .cond x y,.cond c t e,Q,F,w=>(match ev F c with
    | .v (.bool true)=>XC cx x t Q F w
    | .v (.bool false)=>XC cx y e Q F w
    | .b b=>(b=true->XC cx x t Q F w)/\(b=false->XC cx y e Q F w)
    | .p q _=>(q->XC cx x t Q F w)/\(¬ q->XC cx y e Q F w)
    | _=>False)
  | .join J W x,c,Q,F,w=>bif bI c W then
      ∃ I : TF J (World->Prop),
        XC cx x c (fun e F' w'=>match e with
            | .normal=>nY J I F' fun I=>I w'
            | e=>Q e F' w') F w ∧
        nG J I (hav F W) fun I F'=>∀ w',I w'->Q .normal F' w'
    else False
  | .block x,.block id c,Q,F,w=>XC cx x c (fun e F w=>match e with
    | .exit i=>bif Nat.beq i id then Q .normal F w else Q (.exit i) F w
    | e=>Q e F w) F w
  | .loop J W x,.loop c,Q,F,w=>bif bI c W then
      ∃ I :Nat->TF J (World->Prop),(∃ m,nY J (I m) F fun I=>I w) ∧
        ∀ m,nG J (I m) (hav F W) fun Im F'=>∀ w',Im w'->XC cx x c (fun e F w=>match e with
          | .normal=>∃ m',m'<m/\nY J (I m') F fun I=>I w
          | e=>Q e F w) F' w'
    else False
  | .leaf,.skip,Q,F,w=>Q .normal F w
  | .leaf,.exit i,Q,F,w=>Q (.exit i) F w
  | .leaf,.ret,Q,F,w=>Q .ret F w
  | _,_,_,_,_=>False
section
variable {cx : Cx} {F : Fr} {a : Act} {w : World}
def dV(c:Code)(a a':Act):Prop:=∀(W:List Nat)(t:Nat),bI c W=true->W.contains t=false->a'.tmps.getD t undef=a.tmps.getD t undef
theorem dV.refl(c:Code)(a:Act):dV c a a:=fun _ _ _ _=>rfl
theorem dV.trans{c:Code}{a a' a'':Act}(h:dV c a a')(k:dV c a' a''):dV c a a'':=fun W t h1 h2=>(k W t h1 h2).trans (h W t h1 h2)
theorem Bi{a:Act}{d:Option Tmp}{v:Value}{t:Nat}(h:d≠some t):(a.put d v).tmps.getD t undef=a.tmps.getD t undef:=by
 cases d with
 | none=>rfl
 | some d =>
  have DN:d≠t:=fun e=>h (by rw[e]);simp[Act.put,Array.getElem?_setIfInBounds_ne DN]
theorem B9{c:Code}{W:List Nat}{F':Fr}{a':Act}(hS:St cx F a)(DZ:St cx F' a')(hW:bI c W=true)(h:dV c a a'):St cx (hav F W) a':=by
 refine⟨fun t=>?_,DZ.size,DZ.defers⟩;unfold hav;cases hc:W.contains t with
 | true=>exact trivial
 | false =>
  simp only[cond_false];rw[h W t hW hc];exact hS.ag t
theorem St.upd(hS:St cx F a){t:Nat}{s:SV}(h:eW s (a.tmps.getD t undef)):St cx (upd F t s) a:=by
 refine⟨fun u=>?_,hS.size,hS.defers⟩;unfold V.upd;cases hb:Nat.beq u t with
 | true =>
  have:u=t:=Nat.eq_of_beq_eq_true hb;subst this;exact h
 | false=>exact hS.ag u
theorem fN{X:Type}:∀ {J:List (Nat×Sh)} {I:TF J X} {F F':Fr} {K:X->Prop} {K':X->Fr->Prop},St cx F a->St cx F' a->nY J I F K->nG J I F' K'->∃(i:X)(F'':Fr),St cx F'' a/\K i/\K' i F''
 | [],I,F,F',K,K',_,h2,h3,h4=>⟨I,F',h2,h3,h4⟩
 | (t,.int k) ::r,I,F,F',K,K',h1,h2,h3,h4=>by
  have ht:=h1.ag t;simp only[nY]at h3;split at h3
  ·rename_i k' x he;rw[he]at ht;split at h3
   ·rename_i hk;subst hk;exact fN h1 (h2.upd ht) h3 (h4 x)
   ·exact h3.elim
  ·exact h3.elim
 | (t,.bool) ::r,I,F,F',K,K',h1,h2,h3,h4=>by
  have ht:=h1.ag t;simp only[nY]at h3;split at h3
  ·rename_i c he;rw[he]at ht;exact fN h1 (h2.upd (s:=.b c) ht) h3 (h4 c)
  ·rename_i c he;rw[he]at ht;exact fN h1 (h2.upd (s:=.b c) ht) h3 (h4 c)
  ·rename_i q d he;rw[he]at ht;exact fN h1 (h2.upd (s:=.b (@decide q d)) ht) h3 (h4 _)
  ·exact h3.elim
 | (t,.str) ::r,I,F,F',K,K',h1,h2,h3,h4=>by
  have ht:=h1.ag t;simp only[nY]at h3;split at h3
  ·rename_i x he;rw[he]at ht;exact fN h1 (h2.upd ht) h3 (h4 x)
  ·exact h3.elim
 | (t,.slice) ::r,I,F,F',K,K',h1,h2,h3,h4=>by
  have ht:=h1.ag t;simp only[nY]at h3;split at h3
  ·rename_i A n c he;rw[he]at ht;exact fN h1 (h2.upd ht) h3 (h4 A n c)
  ·exact h3.elim
 | (t,.ptr) ::r,I,F,F',K,K',h1,h2,h3,h4=>by
  have ht:=h1.ag t;simp only[nY]at h3;split at h3
  ·rename_i x he;rw[he]at ht;exact fN h1 (h2.upd ht) h3 (h4 x)
  ·exact h3.elim
 | (t,.map) ::r,I,F,F',K,K',h1,h2,h3,h4=>by
  have ht:=h1.ag t;simp only[nY]at h3;split at h3
  ·rename_i x he;rw[he]at ht;exact fN h1 (h2.upd ht) h3 (h4 x)
  ·exact h3.elim
 | (t,.any) ::r,I,F,F',K,K',h1,h2,h3,h4=>by
  have ht:=h1.ag t;simp only[nY]at h3;split at h3
  ·rename_i x he;rw[he]at ht;exact fN h1 (h2.upd ht) h3 (h4 x)
  ·exact h3.elim
 | (t,.addr) ::r,I,F,F',K,K',h1,h2,h3,h4=>by
  have ht:=h1.ag t;simp only[nY]at h3;split at h3
  ·rename_i x he;rw[he]at ht;exact fN h1 (h2.upd ht) h3 (h4 x)
  ·exact h3.elim
 | (_,.cst _) ::r,I,F,F',K,K',h1,h2,h3,h4=>by
  simp only[nY]at h3
theorem jI {P:Program} {ops:Array Oper} {C:World->Prop} {kd:dU} {D:Nat->Prop} {Q:Act->World->Prop} :
    ∀ (l:List (Nat×Oper)) (a:Act) (w:World),(∀ x∈l,∀ d,x.2.dst=some d->D d)->dB P ops C kd Q l a w->dB P ops C kd (fun a' w'=>(∀ t,¬ D t->a'.tmps.getD t undef=a.tmps.getD t undef)/\Q a' w') l a w
  | [],a,w,_,h=>⟨fun _ _=>rfl,h⟩
  | (i, o) ::l,a,w,hl,h=>by
    have ho:=hl (i,o) (by simp);have ih:=fun a w (h:dB P ops C kd Q l a w)=>jI (D:=D) (Q:=Q) l a w (fun x hx=>hl x (by simp[hx])) h;simp only[dB]at h ⊢;have key:∀ v a' w',a'=a.put o.dst v->dB P ops C kd Q l a' w'->dB P ops C kd (fun a'' w''=>(∀ t,¬ D t->a''.tmps.getD t undef=a.tmps.getD t undef)/\Q a'' w'') l a' w':=by
      rintro v a' w' rfl h;refine iQ ?_ _ _ _ (ih _ _ h);rintro a'' w'' ⟨h1,h2⟩;exact⟨fun t ht=>(h1 t ht).trans (Bi fun e=>ht (ho t e)),h2⟩
    unfold aU at h ⊢;split
    · rename_i hw;rw[if_pos hw]at h;split at h
      · obtain⟨v,h1,h2⟩:=h;exact⟨v,h1,key v _ _ rfl h2⟩
      · obtain⟨v,h1,h2⟩:=h;exact⟨v,h1,key v _ _ rfl h2⟩
      · refine Oper.wp_mono ?_ h;rintro a' w' ⟨⟨u,rfl⟩,h1,h2⟩;exact⟨⟨u,rfl⟩,h1,key u _ _ rfl h2⟩
    · rename_i hw;rw[if_neg hw]at h;exact key _ _ _ rfl h
def xR(cx:Cx)(c:Code)(a:Act)(Q:Exit->Fr->World->Prop):Exit->Act->World->Prop:=fun e a' w'=>∃ F',St cx F' a'/\dV c a a'/\Q e F' w'
theorem xX (hT:oI cx.P cx.T) (El:Dd cx.P cx.fs) (Ek:cx.P.follows .mixedOrders=true) (hS:St cx F a) {ra:Ra} {id:Nat} {ops:List Oper} {draw:Bool} {Q:Exit->Fr->World->Prop}
    (h:Dq cx ra ops draw F w fun F w=>Q .normal F w):(Code.region id ops.toArray draw).wp cx.P (xR cx (Code.region id ops.toArray draw) a Q) a w:=by
  have mono:∀ {C:Option (World->Prop)} {w:World},nW cx ra C ops (eX 0 ops) F w (fun F w=>Q .normal F w) →
      dB cx.P ops.toArray (eZ C) (kinds cx.T ra.ql ops) (fun a' w'=>eZ C w'->xR cx (Code.region id ops.toArray draw) a Q .normal a' w') (eX 0 ops) a w:=by
    intro C w h;have h1:=mM hT El _ _ _ _ (xB ops) hS h;refine iQ ?_ _ _ _ (jI (D:=fun t=>∃ o∈ops,o.dst=some t) _ _ _ ?_ h1)
    · rintro a' w' ⟨hs,F',DZ,hK⟩ _;refine⟨F',DZ,fun W t hW ht=>hs t ?_,hK⟩;rintro⟨o,ho,hd⟩;simp only[bI,List.all_eq_true]at hW;have:=hW o (by simpa using ho);rw[hd]at this;simp only at this;rw[ht]at this;cases this
    · rintro⟨i,o⟩ hx d hd;exact⟨o,List.mem_of_getElem? (xB ops _ hx),hd⟩
  unfold Dq at h;cases draw with
  | false =>
    simp only[cond_false]at h;exact qJ (C:=eZ none) (kd:=kinds cx.T ra.ql ops) trivial (mono h)
  | true =>
    simp only[cond_true]at h;cases hB:Bk ops (kinds cx.T ra.ql ops) ra.waits with
    | false=>rw[hB]at h;exact h.elim
    | true =>
      rw[hB]at h;simp only[cond_true]at h;split at h
      · exact kG (C:=eZ none) (kd:=kinds cx.T ra.ql ops) Ek hB trivial (mono h)
      · obtain⟨C,hC,h⟩:=h;exact kG (C:=eZ (some C)) (kd:=kinds cx.T ra.ql ops) Ek hB hC (mono h)
theorem vA (hT:oI cx.P cx.T) (El:Dd cx.P cx.fs) (Ek:cx.P.follows .mixedOrders=true) (hS:St cx F a) {ra:Ra} {t:XT} {id:Nat} {ops:List Oper} {draw:Bool} {Q:Exit->Fr->World->Prop}
    (h:BH cx ra t ops draw F w fun F w=>Q .normal F w):(Code.region id ops.toArray draw).wp cx.P (xR cx (Code.region id ops.toArray draw) a Q) a w:=by
  have mono:∀ {C:Option (World->Prop)} {w:World} (t:XT),vxt cx ra C ops F w (fun F w=>Q .normal F w) t →
      wpX cx.P ops (eZ C) (kinds cx.T ra.ql ops) (fun a' w'=>eZ C w'->xR cx (Code.region id ops.toArray draw) a Q .normal a' w') a w t:=by
    intro C w t
    induction t with
    | leaf L =>
      intro h;have h1:=mM hT El _ _ _ _ (fun x hx=>(lR.1 (show(x.1,x.2)∈pick ops L from hx)).2) hS h;refine iQ ?_ _ _ _ (jI (D:=fun t=>∃ o∈ops,o.dst=some t) _ _ _ ?_ h1)
      · rintro a' w' ⟨hs,F',DZ,hK⟩ _;refine⟨F',DZ,fun W t hW ht=>hs t ?_,hK⟩;rintro⟨o,ho,hd⟩;simp only[bI,List.all_eq_true]at hW;have:=hW o (by simpa using ho);rw[hd]at this;simp only at this;rw[ht]at this;cases this
      · rintro⟨i,o⟩ hx d hd;exact⟨o,List.mem_of_getElem? (lR.1 hx).2,hd⟩
    | split p q x y ihx ihy=>exact fun h=>⟨ihx h.1,ihy h.2⟩
    | dead L=>exact fun _=>trivial
  unfold BH at h;cases draw with
  | false=>exact h.elim
  | true =>
    simp only[cond_true]at h;cases hB:CP ops (kinds cx.T ra.ql ops) ra.waits t with
    | false=>rw[hB]at h;exact h.elim
    | true =>
      rw[hB]at h;simp only[cond_true]at h;split at h
      · exact nH (C:=eZ none) (kd:=kinds cx.T ra.ql ops) Ek hB trivial (mono t h)
      · obtain⟨C,hC,h⟩:=h;exact nH (C:=eZ (some C)) (kd:=kinds cx.T ra.ql ops) Ek hB hC (mono t h)
theorem zA {P:Program} {c:Code} {Q:Exit->Act->World->Prop} (I:Nat->Act->World->Prop) {m:Nat} {a:Act} {w:World} (h₀:I m a w)
    (round:∀ m a w,I m a w->c.wp P (Exit.then (fun a' w'=>∃ m',m'<m/\I m' a' w') Q) a w):(Code.loop c).wp P Q a w:=by
  intro b k cs;have key:∀ n a w,I n a w->∃ e a' w',Q e a' w'/\Arrives P (lone (b.at a (.code c ::.inLoop c ::k)) cs w) b k cs e a' w':=by
    intro n
    induction n using Nat.strongRecOn with
    | _ n ih =>
      intro a w hI;obtain⟨e,a₁,w₁,hq,Ex⟩:=round n a w hI b (.inLoop c ::k) cs;cases e with
      | normal =>
        obtain⟨m',DL,Lk⟩:=hq;obtain⟨e₂,a₂,w₂,Kn,G4⟩:=ih m' DL a₁ w₁ Lk;exact⟨e₂,a₂,w₂,Kn,.of_steps (Steps.trans Ex (.one step_inLoop)) G4⟩
      | exit id=>exact⟨_,a₁,w₁,hq,.pass (x:=.inLoop c) rfl (fun _ _=>.inl (by simp)) Ex⟩
      | goto l=>exact⟨_,a₁,w₁,hq,.pass (x:=.inLoop c) rfl (fun _ _=>.inl (by simp)) Ex⟩
      | ret=>exact⟨_,a₁,w₁,hq,.pass (x:=.inLoop c) rfl (fun _ _=>.inl (by simp)) Ex⟩
      | panic ch=>exact⟨_,a₁,w₁,hq,.pass (x:=.inLoop c) rfl (fun _ _=>.inl (by simp)) Ex⟩
      | outgrown=>exact⟨_,a₁,w₁,hq,.pass (x:=.inLoop c) rfl (fun _ _=>.inl (by simp)) Ex⟩
  obtain⟨e,a',w',hq,Ex⟩:=key _ a w h₀;exact⟨e,a',w',hq,.of_steps (.one step_loop) Ex⟩
theorem vI{c d:Code}{a a':Act}(h:dV c a a'):dV (.seq c d) a a':=fun W t hW ht=>h W t (by simp only[bI,Bool.and_eq_true]at hW;exact hW.1) ht
theorem Bf{c d:Code}{a a':Act}(h:dV d a a'):dV (.seq c d) a a':=fun W t hW ht=>h W t (by simp only[bI,Bool.and_eq_true]at hW;exact hW.2) ht
theorem Bx{x:Operand}{c d:Code}{a a':Act}(h:dV c a a'):dV (.cond x c d) a a':=fun W t hW ht=>h W t (by simp only[bI,Bool.and_eq_true]at hW;exact hW.1) ht
theorem Ae{x:Operand}{c d:Code}{a a':Act}(h:dV d a a'):dV (.cond x c d) a a':=fun W t hW ht=>h W t (by simp only[bI,Bool.and_eq_true]at hW;exact hW.2) ht
theorem Bl{c:Code}{J:List (Nat×Sh)}{W:List Nat}{I:TF J (World->Prop)}{Q:Exit->Fr->World->Prop}{F':Fr}{a':Act}{w':World}(hS:St cx F a)(hW:bI c W=true)
    (DQ:nG J I (hav F W) fun I F'=>∀ w',I w'->Q .normal F' w') (DZ:St cx F' a') (hk:dV c a a') (h:nY J I F' fun I=>I w'):xR cx c a Q .normal a' w':=by
  obtain⟨i,F'',h1,h2,h3⟩:=fN DZ (B9 hS DZ hW hk) h DQ;exact⟨F'',h1,hk,h3 w' h2⟩
theorem C8 (hT:oI cx.P cx.T) (El:Dd cx.P cx.fs) (Ek:cx.P.follows .mixedOrders=true):∀(sk:Sk)(c:Code)(Q:Exit->Fr->World->Prop)(F:Fr)(a:Act)(w:World),
    St cx F a->XC cx sk c Q F w->c.wp cx.P (xR cx c a Q) a w:=by
  intro sk
  induction sk with
  | reg ra =>
    intro c Q F a w hS h;cases c with
    | region id ops draw =>
      simp only[XC]at h;have e:ops=ops.toList.toArray:=by simp
      rw[e];exact xX hT El Ek hS h
    | _=>simp only[XC]at h
  | regX ra t =>
    intro c Q F a w hS h;cases c with
    | region id ops draw =>
      simp only[XC]at h;have e:ops=ops.toList.toArray:=by simp
      rw[e];exact vA hT El Ek hS h
    | _=>simp only[XC]at h
  | seq x y ihx ihy =>
    intro c Q F a w hS h;cases c with
    | seq c d =>
      simp only[XC]at h;refine wp_seq (wp_mono (ihx c _ F a w hS h) ?_);intro e a' w' hp;obtain⟨F',h1,h2,h3⟩:=hp;cases e with
      | normal =>
        refine wp_mono (ihy d Q F' a' w' h1 h3) ?_;rintro e a'' w'' ⟨F'',h4,h5,h6⟩;exact⟨F'',h4,(vI h2).trans (Bf h5),h6⟩
      | _=>exact⟨F',h1,vI h2,h3⟩
    | _=>simp only[XC]at h
  | cond x y ihx ihy =>
    intro c Q F a w hS h;cases c with
    | cond c t e =>
      have left:XC cx x t Q F w->t.wp cx.P (xR cx (.cond c t e) a Q) a w:=fun h=>wp_mono (ihx t Q F a w hS h) fun e a' w' ⟨F',h1,h2,h3⟩=>⟨F',h1,Bx h2,h3⟩;have right:XC cx y e Q F w->e.wp cx.P (xR cx (.cond c t e) a Q) a w:=fun h=>wp_mono (ihy e Q F a w hS h) fun e a' w' ⟨F',h1,h2,h3⟩=>⟨F',h1,Ae h2,h3⟩;simp only[XC]at h;have hc:=hS.ag.ev c;split at h
      · rename_i hv;rw[hv]at hc;exact wp_cond_true hc (left h)
      · rename_i hv;rw[hv]at hc;exact wp_cond_false hc (right h)
      · rename_i b hv;rw[hv]at hc;cases b with
        | true=>exact wp_cond_true hc (left (h.1 rfl))
        | false=>exact wp_cond_false hc (right (h.2 rfl))
      · rename_i q d hv;rw[hv]at hc;by_cases hq:q
        · exact wp_cond_true (by rw[hc];simp[hq]) (left (h.1 hq))
        · exact wp_cond_false (by rw[hc];simp[hq]) (right (h.2 hq))
      · exact h.elim
    | _=>simp only[XC]at h
  | join J W x ih =>
    intro c Q F a w hS h;have h:XC cx (.join J W x) c Q F w:=h;simp only[XC]at h;cases hb:bI c W with
    | false=>rw[hb]at h;exact h.elim
    | true =>
      rw[hb]at h;obtain⟨I,h,DQ⟩:=h;refine wp_mono (ih c _ F a w hS h) ?_;rintro ex a' w' ⟨F',h1,h2,h3⟩;cases ex with
      | normal=>exact Bl hS hb DQ h1 h2 h3
      | _=>exact⟨F',h1,h2,h3⟩
  | block x ih =>
    intro c Q F a w hS h;cases c with
    | block id c =>
      simp only[XC]at h;refine wp_block (wp_mono (ih c _ F a w hS h) ?_);rintro e a' w' ⟨F',h1,h2,h3⟩;cases e with
      | exit i =>
        simp only at h3;cases hb:Nat.beq i id with
        | true =>
          rw[hb]at h3;have:=Nat.eq_of_beq_eq_true hb;simp only[Exit.inBlock,this,if_true];exact⟨F',h1,h2,h3⟩
        | false =>
          rw[hb]at h3;have:i≠id:=fun e=>by subst e;simp at hb
          simp only[Exit.inBlock,this,if_false];exact⟨F',h1,h2,h3⟩
      | _=>exact⟨F',h1,h2,h3⟩
    | _=>simp only[XC]at h
  | loop J W x ih =>
    intro c Q F a w hS h;cases c with
    | loop c =>
      simp only[XC]at h;cases hb:bI c W with
      | false=>rw[hb]at h;exact h.elim
      | true =>
        rw[hb]at h;obtain⟨I,⟨m,h0⟩,DQ⟩:=h;refine zA (fun m a' w'=>∃ F',St cx F' a'/\dV c a a'/\nY J (I m) F' fun I=>I w') (m:=m) ⟨F,hS,dV.refl _ _,h0⟩ ?_;rintro m a' w' ⟨F',h1,h2,h3⟩;obtain⟨i,F'',h4,h5,h6⟩:=fN h1 (B9 hS h1 hb h2) h3 (DQ m);refine wp_mono (ih c _ F'' a' w' h4 (h6 w' h5)) ?_;rintro e a'' w'' ⟨G,h7,h8,h9⟩;cases e with
        | normal =>
          obtain⟨m',DL,h9⟩:=h9;exact⟨m',DL,G,h7,h2.trans h8,h9⟩
        | _=>exact⟨G,h7,h2.trans h8,h9⟩
    | _=>simp only[XC]at h
  | leaf =>
    intro c Q F a w hS h;cases c with
    | skip=>exact wp_skip ⟨F,hS,dV.refl _ _,h⟩
    | exit i=>exact wp_exit ⟨F,hS,dV.refl _ _,h⟩
    | ret=>exact wp_ret ⟨F,hS,dV.refl _ _,h⟩
    | _=>simp only[XC]at h
end
/-! ### Functions -/
def uZ(T:qG)(F:Fr)(w:World):List ResultVar->(List Value->Prop)->Prop
 | [],K=>K []
 | .tmp t ::r,K=>vv F (.tmp t) fun v=>uZ T F w r fun vs=>K (v ::vs)
 | .cell t ty ::r,K=>yA F (.tmp t) fun a=>(match tf T ty with
  | some te=>bif te.ld.agg then(bif Nat.beq te.shs.length te.size then uJ (fun φ=>φ w) a 0 te.shs fun cs=>uZ T F w r fun vs=>K (.agg cs.toArray ::vs) else False)
   else zZ (te.shs.headD .any) fun _ v=>w.cell? a=some v/\uZ T F w r fun vs=>K (v ::vs)
  | none=>False)
def AA(vs:List Value):Value :=
 match vs with
 | [v]=>v
 | vs=>.tuple vs.toArray
def F0(args:List Value):Fr:=fun t=>match args[t]? with
 | some v=>mk v
 | none=>.un
def XF(cx:Cx)(fn:Func)(sk:Sk)(args:List Value)(w:World)(R:Ending->World->Prop):Prop :=
 match fn.body with
 | some c=>bif Nat.beq fn.ntmps cx.n && Nat.ble args.length cx.n then XC cx sk c (fun e F w=>match e with
  | .normal | .ret=>uZ cx.T F w fn.results.toList fun vs=>R (.returned (AA vs)) w
  | _=>False) (F0 args) w else False
 | none=>False
def pF(tmps:Array Value):ResultVar->Sem Value
 | .tmp t=>pure (tmps.getD t undef)
 | .cell a t=>do loadVar t (← asAddr (tmps.getD a undef))
theorem yQ(fn:Func)(tmps:Array Value):results fn tmps=(do let vs ← fn.results.mapM (pF tmps);pure (if h:vs.size=1 then vs[0] else .tuple vs)):=by
 unfold results;congr 2
theorem mL {cx:Cx} (hT:oI cx.P cx.T) {F:Fr} {a:Act} {w:World} (hS:St cx F a):∀ {rs:List ResultVar} {K:List Value->Prop},uZ cx.T F w rs K →
    ∃ vs,(rs.mapM (pF a.tmps)).run cx.P w=.ok vs w/\K vs
  | [],K,h=>⟨[],by simp,h⟩
  | .tmp t ::r,K,h=>by
    have h:=aL hS.ag (x:=.tmp t) h;obtain⟨vs,h1,h2⟩:=mL hT hS h;refine⟨_,?_,h2⟩;simp only[List.mapM_cons,pF,Sem.run_bind,Sem.run_pure,Result.andThen_ok,h1];rfl
  | .cell t ty ::r,K,h=>by
    simp only[uZ]at h;obtain⟨ad,hx,h⟩:=hO hS.ag h;have hx:a.tmps.getD t undef=.pointer (some ad):=hx;split at h
    · rename_i te DT;have hl:∃ v,(loadVar ty ad).run cx.P w=.ok v w/\uZ cx.T F w r fun vs=>K (v ::vs):=by
        cases hb:te.ld.agg with
        | true =>
          rw[hb]at h;simp only[cond_true]at h;cases hl:Nat.beq te.shs.length te.size with
          | false=>rw[hl]at h;exact h.elim
          | true =>
            rw[hl]at h;simp only[cond_true]at h;obtain⟨vs,DO,hD,hK⟩:=jT (D:=fun φ=>φ w) (fun _ _ h k=>⟨h,k⟩) (fun _ _ h k=>h w k) (fun _ h=>h w) h;refine⟨_,?_,hK⟩;have hs:te.size=vs.length:=by rw[DO];exact(Nat.eq_of_beq_eq_true hl).symm
            simp only[loadVar,Sem.run_bind,(hT.get DT).isAgg w,Result.andThen_ok,hb,if_true,(hT.get DT).sizeOf w,loadCells,hs];rw[eT vs 0 #[] hD];simp
        | false =>
          rw[hb]at h;simp only[cond_false]at h;obtain⟨s,v,h1,h2,h3⟩:=iM h;refine⟨v,?_,h3⟩;simp[loadVar,(hT.get DT).isAgg w,hb,load,Sem.run,h2]
      obtain⟨v,hv,h⟩:=hl;obtain⟨vs,h1,h2⟩:=mL hT hS h;refine⟨_,?_,h2⟩;simp only[List.mapM_cons,pF,Sem.run_bind,hx,asAddr,Sem.run_pure,Result.andThen_ok,hv,h1]
    · exact h.elim
theorem mE {cx:Cx} {f:FuncId} {fn:Func} {sk:Sk} {args:List Value} {w:World} {R:Ending->World->Prop} (hT:oI cx.P cx.T) (El:Dd cx.P cx.fs) (Ek:cx.P.follows .mixedOrders=true)
    (hf:cx.P.funcs[f]?=some fn) (h:XF cx fn sk args w R):Calls cx.P f args.toArray w R:=by
  unfold XF at h;split at h
  · rename_i c hc;cases hb:Nat.beq fn.ntmps cx.n && Nat.ble args.length cx.n with
    | false=>rw[hb]at h;exact h.elim
    | true =>
      rw[hb]at h;simp only[cond_true]at h;simp only[Bool.and_eq_true]at hb;have hn:fn.ntmps=cx.n:=Nat.eq_of_beq_eq_true hb.1;have hl:args.length<=cx.n:=Nat.le_of_ble_eq_true hb.2;refine calls_of_wp hf hc ?_;have hS:St cx (F0 args) { tmps:=args.toArray++Array.replicate (fn.ntmps-args.toArray.size) undef,defers:=[] }:=by
        refine⟨fun t=>?_,by simp;omega,rfl⟩;unfold F0;split
        · rename_i v hv;have DL:=(List.getElem?_eq_some_iff.1 hv).1;have:(args.toArray++Array.replicate (fn.ntmps-args.toArray.size) undef).getD t undef=v:=by
            rw[Array.getD_eq_getD_getElem?,Array.getElem?_append_left (by simpa using DL)];simp[hv]
          rw[this];exact eW.mk v
        · exact trivial
      refine wp_mono (C8 hT El Ek sk c _ _ _ w hS h) ?_;rintro e a' w' ⟨F',h1,_,h2⟩;have fin:(uZ cx.T F' w' fn.results.toList fun vs=>R (.returned (AA vs)) w')->a'.defers=[]/\∃ v,(results fn a'.tmps).run cx.P w'=.ok v w'/\R (.returned v) w':=by
        intro h2;obtain⟨vs,h3,h4⟩:=mL hT h1 h2;refine⟨h1.defers,AA vs,?_,h4⟩;rw[yQ,Sem.run_bind];have:(fn.results.mapM (pF a'.tmps)).run cx.P w'=.ok vs.toArray w':=by
          rw[Array.mapM_eq_mapM_toList,Sem.run_map,h3];rfl
        rw[this];simp only[Result.andThen_ok,Sem.run_pure]
        match vs with
        | []=>rfl
        | [v]=>rfl
        | _ ::_ ::_=>simp[AA]
      cases e with
      | normal=>exact fin h2
      | ret=>exact fin h2
      | _=>exact h2.elim
  · exact h.elim
theorem fOkM {P : Program} {fs : List Nat} (h : (fs.all fun g => match P.funcs[g]? with | some fn => !(fn.name == "runtime.NumGoroutine") && !fn.body.isNone | none => false) = true) : Dd P fs := by
 intro g hg args w;have h1:=List.all_eq_true.1 h g hg;cases hf:P.funcs[g]? with
 | none=>simp[hf]at h1
 | some fn =>
  simp only[hf,Bool.and_eq_true,Bool.not_eq_true']at h1;have e1 : ¬ fn.name = "runtime.NumGoroutine" := by simpa using h1.1
  have e2:¬ fn.body=none:=by intro e;rw[e]at h1;simp at h1
  simp[callFunc,program,Sem.run,hf,e1,e2]
theorem tOkM{P:Program}{T:qG}(h:T.map (fun e=>((P.info? e.1).map (fun i=>(i.size,i.bytes,i.zero)),(P.underlying e.1).map pT))=T.map (fun e=>(some (e.2.size,e.2.bytes,some e.2.zero),some e.2.ld))):oI P T:=fun e he=>by
 have:=List.map_inj_left.1 h e he;exact⟨congrArg Prod.fst this,congrArg Prod.snd this⟩
end Go.V
