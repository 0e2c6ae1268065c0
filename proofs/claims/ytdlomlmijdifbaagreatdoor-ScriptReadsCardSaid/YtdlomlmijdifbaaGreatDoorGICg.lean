/- Own texts, packed: I11, I12, I13, I14, I15. -/
import Derived.Test.YtdlomlmijdifbaaGreatDoorTg
import Derived.Shelf.Strings.Builder1
import Derived.Shelf.Strconv.Itoa1
import Derived.Shelf.Strconv.Itoa2
import Derived.Test.YtdlomlmijdifbaaGreatDoorGIBg
import Derived.Test.YtdlomlmijdifbaaGreatDoorGIXg
import Derived.Sort.Grow
import Derived.Lib.ItoaMem
import Derived.Lib.Builder
import Derived.Laws.Slices
import Derived.Shelf.Strings.BuilderK
set_option linter.unusedVariables false
set_option maxRecDepth 100000
set_option linter.unusedSimpArgs false
set_option maxHeartbeats 4000000
namespace Go.Proofs.YtdlomlmijdifbaaGreatDoor
open Go Go.V Go.RowKit
def zD:Go.Shelf.Ren:=⟨fun | 166=>45 | 167=>48 | 169=>49 | 240=>68 | 276=>93 | 283=>94 | 284=>95 | 285=>96 | 317=>123 | 318=>125 | 129=>124 | n=>n,fun | 0=>0 | 3=>3 | 4=>4 | 5=>5 | 9=>9 | 20=>20 | 37=>22 | 46=>49 | 51=>66 | 53=>28 | 70=>95 | 72=>97 | 75=>99 | 80=>107 | 127=>143 | 164=>164 | 212=>211 | n=>n,fun | 17=>0 | n=>n⟩
theorem layWS:Go.Proofs.Lays.n166 Tryz.prog zD:={
 mixed:=by kernel_rfl
 f166:=Tryz.func45.trans (congrArg some (by kernel_rfl))
 f240:=Tryz.func68.trans (congrArg some (by kernel_rfl))
 f276:=Tryz.func93.trans (congrArg some (by kernel_rfl))
 t0:=Tryz.underlying0
 a0:=Tryz.isAgg0
 z0:=Tryz.sizeOf0
 v0:=Tryz.zeroValue0
 t3:=Tryz.underlying3
 a3:=Tryz.isAgg3
 z3:=Tryz.sizeOf3
 v3:=Tryz.zeroValue3
 t4:=Tryz.underlying4
 a4:=Tryz.isAgg4
 z4:=Tryz.sizeOf4
 v4:=Tryz.zeroValue4
 t9:=Tryz.underlying9
 a9:=Tryz.isAgg9
 z9:=Tryz.sizeOf9
 v9:=Tryz.zeroValue9
 t20:=Tryz.underlying20
 a20:=Tryz.isAgg20
 z20:=Tryz.sizeOf20
 v20:=Tryz.zeroValue20
 t37:=Tryz.underlying22
 a37:=Tryz.isAgg22
 z37:=Tryz.sizeOf22
 v37:=Tryz.zeroValue22
 t70:=Tryz.underlying95
 a70:=Tryz.isAgg95
 z70:=Tryz.sizeOf95
 v70:=Tryz.zeroValue95
 t72:=Tryz.underlying97
 a72:=Tryz.isAgg97
 z72:=Tryz.sizeOf97
 v72:=Tryz.zeroValue97
 t75:=Tryz.underlying99
 a75:=Tryz.isAgg99
 z75:=Tryz.sizeOf99
 v75:=Tryz.zeroValue99
 t164:=Tryz.underlying164
 a164:=Tryz.isAgg164
 z164:=Tryz.sizeOf164
 v164:=Tryz.zeroValue164 }
theorem layWB:Go.Proofs.Lays.n167 Tryz.prog zD:={
 mixed:=by kernel_rfl
 f167:=Tryz.func48.trans (congrArg some (by kernel_rfl))
 f240:=Tryz.func68.trans (congrArg some (by kernel_rfl))
 f276:=Tryz.func93.trans (congrArg some (by kernel_rfl))
 t0:=Tryz.underlying0
 a0:=Tryz.isAgg0
 z0:=Tryz.sizeOf0
 v0:=Tryz.zeroValue0
 t4:=Tryz.underlying4
 a4:=Tryz.isAgg4
 z4:=Tryz.sizeOf4
 v4:=Tryz.zeroValue4
 t5:=Tryz.underlying5
 a5:=Tryz.isAgg5
 z5:=Tryz.sizeOf5
 v5:=Tryz.zeroValue5
 t9:=Tryz.underlying9
 a9:=Tryz.isAgg9
 z9:=Tryz.sizeOf9
 v9:=Tryz.zeroValue9
 t20:=Tryz.underlying20
 a20:=Tryz.isAgg20
 z20:=Tryz.sizeOf20
 v20:=Tryz.zeroValue20
 t37:=Tryz.underlying22
 a37:=Tryz.isAgg22
 z37:=Tryz.sizeOf22
 v37:=Tryz.zeroValue22
 t70:=Tryz.underlying95
 a70:=Tryz.isAgg95
 z70:=Tryz.sizeOf95
 v70:=Tryz.zeroValue95
 t72:=Tryz.underlying97
 a72:=Tryz.isAgg97
 z72:=Tryz.sizeOf97
 v72:=Tryz.zeroValue97
 t75:=Tryz.underlying99
 a75:=Tryz.isAgg99
 z75:=Tryz.sizeOf99
 v75:=Tryz.zeroValue99
 t164:=Tryz.underlying164
 a164:=Tryz.isAgg164
 z164:=Tryz.sizeOf164
 v164:=Tryz.zeroValue164 }
theorem layST:Go.Proofs.Lays.n169 Tryz.prog zD:={
 mixed:=by kernel_rfl
 f169:=Tryz.func49.trans (congrArg some (by kernel_rfl))
 t0:=Tryz.underlying0
 a0:=Tryz.isAgg0
 z0:=Tryz.sizeOf0
 v0:=Tryz.zeroValue0
 t3:=Tryz.underlying3
 a3:=Tryz.isAgg3
 z3:=Tryz.sizeOf3
 v3:=Tryz.zeroValue3
 t9:=Tryz.underlying9
 a9:=Tryz.isAgg9
 z9:=Tryz.sizeOf9
 v9:=Tryz.zeroValue9
 t37:=Tryz.underlying22
 a37:=Tryz.isAgg22
 z37:=Tryz.sizeOf22
 v37:=Tryz.zeroValue22
 t70:=Tryz.underlying95
 a70:=Tryz.isAgg95
 z70:=Tryz.sizeOf95
 v70:=Tryz.zeroValue95
 t72:=Tryz.underlying97
 a72:=Tryz.isAgg97
 z72:=Tryz.sizeOf97
 v72:=Tryz.zeroValue97
 t127:=Tryz.underlying143
 a127:=Tryz.isAgg143
 z127:=Tryz.sizeOf143
 v127:=Tryz.zeroValue143 }
theorem laySm:Go.Proofs.Lays.n283 Tryz.prog zD:={
 mixed:=by kernel_rfl
 f283:=Tryz.func94.trans (congrArg some (by kernel_rfl))
 t3:=Tryz.underlying3
 a3:=Tryz.isAgg3
 z3:=Tryz.sizeOf3
 v3:=Tryz.zeroValue3
 t4:=Tryz.underlying4
 a4:=Tryz.isAgg4
 z4:=Tryz.sizeOf4
 v4:=Tryz.zeroValue4
 t9:=Tryz.underlying9
 a9:=Tryz.isAgg9
 z9:=Tryz.sizeOf9
 v9:=Tryz.zeroValue9 }
theorem layND:Go.Proofs.LaysM.n284 Tryz.prog zD:={
 mixed:=by kernel_rfl
 f129:=Tryz.func124.trans (congrArg some (by kernel_rfl))
 f284:=Tryz.func95.trans (congrArg some (by kernel_rfl))
 f317:=Tryz.func123.trans (congrArg some (by kernel_rfl))
 f318:=Tryz.func125.trans (congrArg some (by kernel_rfl))
 t0:=Tryz.underlying0
 a0:=Tryz.isAgg0
 z0:=Tryz.sizeOf0
 v0:=Tryz.zeroValue0
 t3:=Tryz.underlying3
 a3:=Tryz.isAgg3
 z3:=Tryz.sizeOf3
 v3:=Tryz.zeroValue3
 t4:=Tryz.underlying4
 a4:=Tryz.isAgg4
 z4:=Tryz.sizeOf4
 v4:=Tryz.zeroValue4
 t5:=Tryz.underlying5
 a5:=Tryz.isAgg5
 z5:=Tryz.sizeOf5
 v5:=Tryz.zeroValue5
 t9:=Tryz.underlying9
 a9:=Tryz.isAgg9
 z9:=Tryz.sizeOf9
 v9:=Tryz.zeroValue9
 t46:=Tryz.underlying49
 a46:=Tryz.isAgg49
 z46:=Tryz.sizeOf49
 v46:=Tryz.zeroValue49
 t53:=Tryz.underlying28
 a53:=Tryz.isAgg28
 z53:=Tryz.sizeOf28
 v53:=Tryz.zeroValue28
 t212:=Tryz.underlying211
 a212:=Tryz.isAgg211
 z212:=Tryz.sizeOf211
 v212:=Tryz.zeroValue211
 g17:=by kernel_rfl
 i0:=by kernel_rfl
 i3:=by kernel_rfl
 i4:=by kernel_rfl
 i5:=by kernel_rfl
 i9:=by kernel_rfl
 i46:=by kernel_rfl
 i53:=by kernel_rfl
 i212:=by kernel_rfl
 m17:=by kernel_rfl }
theorem layFB:Go.Proofs.Lays.n285 Tryz.prog zD:={
 mixed:=by kernel_rfl
 f285:=Tryz.func96.trans (congrArg some (by kernel_rfl))
 t0:=Tryz.underlying0
 a0:=Tryz.isAgg0
 z0:=Tryz.sizeOf0
 v0:=Tryz.zeroValue0
 t3:=Tryz.underlying3
 a3:=Tryz.isAgg3
 z3:=Tryz.sizeOf3
 v3:=Tryz.zeroValue3
 t4:=Tryz.underlying4
 a4:=Tryz.isAgg4
 z4:=Tryz.sizeOf4
 v4:=Tryz.zeroValue4
 t5:=Tryz.underlying5
 a5:=Tryz.isAgg5
 z5:=Tryz.sizeOf5
 v5:=Tryz.zeroValue5
 t9:=Tryz.underlying9
 a9:=Tryz.isAgg9
 z9:=Tryz.sizeOf9
 v9:=Tryz.zeroValue9
 t37:=Tryz.underlying22
 a37:=Tryz.isAgg22
 z37:=Tryz.sizeOf22
 v37:=Tryz.zeroValue22
 t51:=Tryz.underlying66
 a51:=Tryz.isAgg66
 z51:=Tryz.sizeOf66
 v51:=Tryz.zeroValue66
 t53:=Tryz.underlying28
 a53:=Tryz.isAgg28
 z53:=Tryz.sizeOf28
 v53:=Tryz.zeroValue28 }
theorem Dx:Go.Proofs.Builder.Extra Tryz.prog zD where
 sizeBuilder:=by kernel_rfl
 liesBuilder:=by kernel_rfl
 t5:=Tryz.underlying5
 a5:=Tryz.isAgg5
 z5:=Tryz.sizeOf5
 v5:=Tryz.zeroValue5
 infoByte:=by kernel_rfl
 cellsByte:=by kernel_rfl
 sizeByte:=by kernel_rfl
 neB5:=by decide
def rE (w : World) : Prop := Lib.TabIs P w "internal/strconv.uint64pow10" .u64 Lib.pow10Tab
theorem Dr : P.globalNamed "internal/strconv.uint64pow10" = some 0 := by kernel_rfl
theorem rE.blk{w:World}(h:rE w):0<w.heap.size:=by
 unfold rE Lib.TabIs World.var? at h;rw[Dr]at h;simp only[Option.bind_some]at h;cases hq:w.heap[0]? with
 | none=>rw[hq]at h;cases h
 | some o=>exact(Array.getElem?_eq_some_iff.1 hq).1
theorem rE.same{w w':World}(h:rE w)(e:w'.heap[0]?=w.heap[0]?):rE w':=by
 unfold rE Lib.TabIs World.var? at h ⊢;rw[Dr]at h ⊢;simp only[Option.bind_some]at h ⊢;rw[e];exact h
theorem rE.kp{w w':World}{S:Nat->Prop}(h:rE w)(hk:Kp w w' S)(hS:¬ S 0):rE w':=h.same (hk.block 0 h.blk hS)
theorem rE.kept{w w':World}(h:rE w)(hg:w.grownBy w' none):rE w':=h.kp (S:=fun _=>False) (Kp.of_none hg) (fun h=>h)
theorem zK(w:World)(k:Nat)(os:Array Obj):w.grownBy (Sort.grow (w.drewN k) os) none:=⟨rfl,rfl,rfl,by simp[Sort.grow,World.drewN],fun i hi _=>Sort.heap_grow_old (w.drewN k) os hi⟩
theorem zX{w:World}(ht:rE w){n:Int}(hn:0<=n/\n<=18446744073709551615):Calls P 46 #[.int .u64 n,.int .i64 10] w fun ev w'=>ev=.returned (cF (eQ n.toNat))/\w.grownBy w' none:=by
 obtain⟨u,rfl⟩:∃ u:Nat,n=u:=⟨n.toNat,by omega⟩;have tu:((u:Nat):Int).toNat=u:=by omega
 rw[tu];apply vc46;dsimp only[VC46,iq];apply vc69;dsimp only[VC69,Br,Cv,cI,cU,nb,iq]
 try simp only[aI]
 refine⟨fun _=>⟨fun h=>⟨⟨by omega,by omega⟩,?_⟩,fun h=>?_⟩,fun h=>absurd trivial h⟩
 ·refine(Any.internal_strconv_small laySm u (by omega) w).mono fun ev w1 hh=>?_;obtain⟨rfl,rfl⟩:=hh;exact⟨_,rfl,_,rfl,by rw[← rQ],aF _ _⟩
 ·have g0:=World.grownBy_alloc w (.cells Lib.zeros24 167) none;have nd:=Lib.numDigits_eq u (by omega) (by omega);have nd20:Lib.nDigits u<=20:=by split at nd <;>omega
  refine(Any.internal_strconv_numDigits layND u (by omega) (by omega) _ (ht.kept g0)).mono fun ev w1 hh=>?_;obtain⟨rfl,rfl⟩:=hh;have JN:P.arrayLen 167=24:=by kernel_rfl
  have HU:∀ W,(Instr.sliceAt 167 (.pointer (some ⟨w.heap.size,0,none⟩)) none (some (.int .i64 (Lib.nDigits u:Int))) none).run P W=.ok (.slice (some ⟨w.heap.size,0,none⟩) (Lib.nDigits u) 24) W:=fun W=>by
   rw[run_sliceAt_array_h W 167 ⟨w.heap.size,0,none⟩ Tryz.underlying167 .i64 (Lib.nDigits u:Int) (by omega) (by rw[JN];omega)];have e1:P.elem 167=5:=by kernel_rfl
   rw[e1,Tryz.sizeOf5,JN];simp[slicedAt,qF]
  have hH:Sort.Holds (fun(b:UInt8)=>Value.int .u8 (b.toNat:Int)) (w.alloc (.cells Lib.zeros24 167)) w.heap.size 0 (Array.replicate (Lib.nDigits u) (0:UInt8)):=fun j hj=>by
   have EL:j<Lib.nDigits u:=by simpa using hj
   have b0:=heap_alloc_new w (.cells Lib.zeros24 167);refine⟨?_,aC b0 _⟩;rw[aA b0,Lib.zeros24_at _ (by omega),getElem!_pos _ j hj];simp
  have GQ:=Any.internal_strconv_formatBase10 layFB w.heap.size 0 24 u (Array.replicate (Lib.nDigits u) 0) (w.alloc (.cells Lib.zeros24 167)) hH (by rw[Array.size_replicate];exact Lib.lt_pow_nDigits u) (by omega) (by rw[Array.size_replicate];omega);rw[Array.size_replicate]at GQ;refine⟨_,rfl,_,_,_,HU,GQ.mono fun ev w2 hh=>?_⟩;obtain⟨rfl,k,v',dk,rfl,hF⟩:=hh;have JD:=run_convert_bytes_back (P:=P) ((Sort.putRow (fun(b:UInt8)=>Value.int .u8 (b.toNat:Int)) (w.alloc (.cells Lib.zeros24 167)) w.heap.size 0 dk).drewN k) 22 9 5 ⟨w.heap.size,0,none⟩ 24 (Lib.decDigits u) Tryz.underlying22 Tryz.underlying5 Tryz.underlying9 (fun j hj=>by
   rw[Lib.row_is_numeral hF j hj,Lib.add_plain,World.cell?_drewN];exact Sort.cell?_putRow (fun(b:UInt8)=>Value.int .u8 (b.toNat:Int)) _ w.heap.size 0 _ dk hH (by rw[hF.size,Array.size_replicate]) j (by rw[hF.size];rw[Lib.decDigits_length]at hj;exact hj))
  rw[Lib.decDigits_length]at JD;refine⟨rfl,_,_,_,HU,_,JD,_,rfl,by rw[← rQ],?_⟩;rw[Sort.alloc_eq_grow];obtain⟨os',_,e⟩:=Sort.putRow_grow_new (fun(b:UInt8)=>Value.int .u8 (b.toNat:Int)) w #[.cells Lib.zeros24 167] w.heap.size 0 dk (Nat.le_refl _);rw[e];exact zK w k os'
theorem lB{w:World}{A:OA}{l:List Cm}(h:bC w A (dY l)){j:Nat}(hj:j<l.length):∃ a,A=some a/\w.cell? (a.add (j*4))=some (.int .i64 l[j].k)/\w.cell? ((a.add (j*4)).add 1)=some (.int .i64 l[j].t)/\w.cell? ((a.add (j*4)).add 2)=some (.int .u64 l[j].u)/\w.cell? ((a.add (j*4)).add 3)=some (.int .u64 l[j].v):=by
 obtain⟨h0,h1,h2,h3⟩:=xJ hj;obtain⟨a,rfl,e0⟩:=h _ _ h0;refine⟨a,rfl,e0,?_,?_,?_⟩
 ·obtain⟨b,q,e⟩:=h _ _ h1;cases q;rw[eV];exact e
 ·obtain⟨b,q,e⟩:=h _ _ h2;cases q;rw[eV];exact e
 ·obtain⟨b,q,e⟩:=h _ _ h3;cases q;rw[eV];exact e
def Bd(w:World)(B b:Nat)(l:List Int):Prop:=Lib.IsBuilderF 97 5 B b (Lib.strCells (aO l)) w
def Fr(B b:Nat)(w w':World):Prop:=Below B w w'/\Lib.OthersKept 5 (some b) w w'
theorem Fr.trans{B b:Nat}{w w' w'':World}(h:Fr B b w w')(k:Fr B b w' w''):Fr B b w w'':=⟨h.1.trans k.1,h.2.trans k.2⟩
theorem Fr.of{B b:Nat}{w w':World}(hB:B<=w.heap.size)(h:w.grownBy w' none):Fr B b w w' :=
 ⟨⟨h.os,h.tape,h.output,h.size,fun k hk=>h.block k (by omega) (by simp)⟩,fun k o hk _ _=>by rw[h.block k (Array.getElem?_eq_some_iff.1 hk).1 (by simp)];exact hk⟩
theorem Fr.grown{w w':World}{b:Nat}(h:Fr w.heap.size b w w'):w.grownBy w' none:=⟨h.1.os,h.1.tape,h.1.output,h.1.size,fun k hk _=>h.1.block k hk⟩
theorem Bd.kept{w w':World}{B b:Nat}{l:List Int}(h:Bd w B b l)(hg:w.grownBy w' none):Bd w' B b l:=by
 have one:∀ p,Lib.BuilderAtF 97 5 B b p (Lib.strCells (aO l)) w->Lib.BuilderAtF 97 5 B b p (Lib.strCells (aO l)) w':=fun p h=>by
  obtain⟨h1,v,h2,h3,h4⟩:=h;exact⟨h1,v,aE h2 hg,h3.kept hg (by cases h:v.ownBlock <;>simp),h4⟩
 exact h.elim (fun h=>.inl (one _ h)) (fun h=>.inr (one _ h))
theorem sU(a b:List Int):Lib.strCells (aO a)++Lib.strCells (aO b)=Lib.strCells (aO (a++b)):=by
 unfold Lib.strCells;simp only[bJ,List.map_append]
theorem sS(a:List Int):(Lib.strCells (aO a)).length=a.length:=by rw[Lib.strCells_length,aK]
theorem sV{w:World}{B b:Nat}{l s:List Int}(h:Bd w B b l)(hB:B<=w.heap.size)(hl:l.length+s.length<=2^40):Calls P 45 #[mF b,cF s] w fun ev w'=>ev=.returned (.tuple #[.int .i64 (s.length:Nat),.nilIface])/\Bd w' B b (l++s)/\Fr B b w w':=by
 refine(Any.Builder_WriteString_k layWS Dx B b _ (aO s) w h (by rw[sS,aK];omega) hB).mono fun ev w' hh=>?_;obtain⟨rfl,h1,h2,h3⟩:=hh;rw[sU]at h1;exact⟨by rw[aK],.inr h1,h2,h3⟩
theorem Co{x:Int}(hx:0<=x/\x<=255):[Value.int .u8 x]=Lib.strCells (aO [x]):=by
 unfold Lib.strCells;rw[bJ];simp only[List.map_cons,List.map_nil];rw[nD hx]
theorem BA{w:World}{B b:Nat}{l:List Int}{x:Int}(h:Bd w B b l)(hB:B<=w.heap.size)(hl:l.length+1<=2^40)(hx:0<=x/\x<=255):Calls P 48 #[mF b,.int .u8 x] w fun ev w'=>ev=.returned .nilIface/\Bd w' B b (l++[x])/\Fr B b w w':=by
 refine(Any.Builder_WriteByte_k layWB Dx B b _ x w h (by rw[sS];omega) hB).mono fun ev w' hh=>?_;obtain⟨rfl,h1,h2,h3⟩:=hh;rw[Co hx,sU]at h1;exact⟨rfl,.inr h1,h2,h3⟩
theorem BB{w:World}{B b:Nat}{l:List Int}(h:Bd w B b l)(hB:B<=w.heap.size):Calls P 49 #[mF b] w fun ev w'=>ev=.returned (cF l)/\Fr B b w w':=by
 refine(Any.Builder_String_any_k layST Dx B b (aO l).data.toList w h hB).mono fun ev w' hh=>?_;obtain⟨rfl,h1,h2,h3⟩:=hh;exact⟨rfl,h2,h3⟩
theorem yU{w:World}{B b:Nat}{l:List Int}{n:Int}(h:Bd w B b l)(hB:B<=w.heap.size)(hl:l.length<=2^39)(ht:rE w)(hn:0<=n/\n<=18446744073709551615):Calls P 44 #[.int .u64 n,mF b] w fun ev w'=>ev=.returned (.tuple #[])/\Bd w' B b (l++32 ::eQ n.toNat)/\Fr B b w w':=by
 apply vc44;dsimp only[VC44,rt,iq];refine(zX ht hn).mono fun ev w1 hh=>?_;obtain⟨rfl,g1⟩:=hh;have hd:=dG (n:=n.toNat) (by omega);have z1:=g1.size;refine⟨_,rfl,_,fun w=>cJ (a:=[32]) (by simp;omega) w,(sV (s:=[32]++eQ n.toNat) (h.kept g1) (by omega) (by simp;omega)).mono fun ev w2 hh=>?_⟩;obtain⟨rfl,h2,f2⟩:=hh;exact⟨_,_,rfl,rfl,h2,(Fr.of hB g1).trans f2⟩
theorem zE(k:Int):(eJ k).length<=9:=by
 unfold eJ
 repeat' split
 all_goals decide
theorem uU{c:Cm}(hc:cY c):(gG c).length<=42:=by
 have h1:=(dG (n:=c.t.toNat) (by unfold cY at hc;omega)).2;have h2:=(dG (n:=c.u.toNat) (by unfold cY at hc;omega)).2;have h3:=(dG (n:=c.v.toNat) (by unfold cY at hc;omega)).2;unfold gG
 repeat' split
 all_goals simp
 all_goals omega
theorem CS{c:Cm}(hc:cY c):(uB c).length<=64:=by
 have h1:=zE c.k;have h2:=uU hc;unfold uB;simp only[List.length_append,List.length_cons,List.length_nil];omega
theorem vV(l:List Cm)(c:Cm):gC (l++[c])=gC l++(if cM c=true then uB c else []):=by
 unfold gC;rw[List.filter_append,List.flatMap_append];cases h:cM c <;>simp[h]
theorem oE:∀ {l:List Cm},(∀ c∈l,cY c)->(gC l).length<=64*l.length
 | [],_=>by simp[gC]
 | c ::l,h=>by
  have ih:=oE (l:=l) fun c hc=>h c (by simp[hc]);have h1:=CS (h c (by simp));unfold gC at ih ⊢;rw[List.filter_cons];split
  ·rw[List.flatMap_cons,List.length_append,List.length_cons];omega
  ·rw[List.length_cons];omega
theorem oZ {w:World} {A:OA} {n c:Nat} {l:List Cm} (hr:bC w A (dY l)) (hn:n=l.length) (hl:l.length<=2^20) (hb:∀ c∈l,cY c) (ht:rE w) :
    Calls P 16 #[.slice A n c] w fun ev w'=>ev=.returned (cF (gC l))/\w.grownBy w' none:=by
  apply vc16;dsimp only[VC16,Wt,Br,Bb,Rd,Rc,Ix,Ws,cB,cU,nb,ad,al,iq]
  try simp only[aI]
  subst hn;obtain⟨W0,En,g0,b0⟩:=bZ w #[.pointer none,.slice none 0 0] 97;rw[← En];have z0:=g0.size;have bd0:Bd W0 w.heap.size w.heap.size []:=.inl (Lib.BuilderAtF.of (by rw[En];exact Lib.fresh_isBuilder 97 5 w |>.elim id (fun h=>by obtain⟨_,v,hv,_⟩:=h;rw[heap_alloc_new]at hv;cases hv)));refine⟨fun m x w'=>∃ i:Nat,x=(i:Int)/\i<=l.length/\m=l.length-i/\Bd w' w.heap.size w.heap.size (gC (l.take i))/\w.grownBy w' none,⟨_,0,rfl,by omega,rfl,bd0,g0⟩,?_⟩;rintro m x w1 ⟨i,rfl,hi,rfl,Gf,g1⟩;have ti:(i:Int).toNat=i:=by omega
  rw[ti];have z1:=g1.size;have JJ:w.heap.size<w1.heap.size:=Gf.elim (fun h=>h.lt) (fun h=>h.lt);refine⟨fun DL=>?_,fun DR=>?_⟩
  · have Fi:i<l.length:=by omega
    obtain⟨a,rfl,e0,e1,e2,e3⟩:=lB (hr.kept_none g1) Fi;have Hk:l.take (i+1)=l.take i++[l[i]]:=List.take_succ_eq_append_getElem Fi;have FP:=hb _ (List.getElem_mem Fi);have EK:=oE (l:=l.take i) fun c hc=>hb c (List.mem_of_mem_take hc);rw[List.length_take]at EK;have Ez:=vV (l.take i) l[i];rw[← Hk]at Ez;generalize l[i]=c at e0 e1 e2 e3 FP Ez;obtain⟨W2,Fe,g2,b2⟩:=bZ w1 #[.int .i64 0,.int .i64 0,.int .u64 0,.int .u64 0] 47;obtain⟨V,hV,v1,v2,f⟩:=gT b2 (.int .i64 c.k) (.int .i64 c.t) (.int .u64 c.u) (.int .u64 c.v);refine⟨_,rfl,by omega,by omega,_,e0,_,e1,_,e2,_,e3,?_⟩;rw[← Fe];refine⟨f.1,f.2.1,f.2.2.1,f.2.2.2.1,f.2.2.2.2.1,f.2.2.2.2.2.1,f.2.2.2.2.2.2.1,f.2.2.2.2.2.2.2,?_⟩;rw[← hV];have z2:=g2.size;have zV:=v2.size;have lt2:=(Array.getElem?_eq_some_iff.1 b2).1;have gV:w1.grownBy V none:=((Kp.of_none g2).then v2 (fun k hk e=>e)).grown (fun k hk e=>by omega);have rb:cY c:=FP;unfold cY at FP;refine⟨_,aA v1 0,_,aA v1 1,_,aA v1 2,_,aA v1 3,(dQ (c:=c) (by unfold Bj;omega) (w:=V)).mono fun ev w3 hh=>?_⟩;obtain⟨rfl,g3⟩:=hh;have D9:=aB gV g3;have Ec:=aB g1 D9;refine⟨_,rfl,fun hf=>?_,fun hf=>?_⟩
    · rw[hf]at Ez;simp only[Bool.false_eq_true,if_false,List.append_nil]at Ez;exact⟨⟨by omega,by omega⟩,l.length-(i+1),by omega,i+1,by omega,by omega,rfl,by rw[Ez];exact Gf.kept D9,Ec⟩
    · have hf:cM c=true:=by simpa using hf
      rw[hf,if_pos rfl]at Ez;have hk:=pD hf;unfold iI at hk;have Jx:=zE c.k;have cd:∀ {u:World},u.heap[w1.heap.size]?=some (.cells #[.int .i64 c.k,.int .i64 c.t,.int .u64 c.u,.int .u64 c.v] 47 (0,0))->u.cell? ⟨w1.heap.size,0,none⟩=some (.int .i64 c.k)/\u.cell? ⟨w1.heap.size,1,none⟩=some (.int .i64 c.t)/\u.cell? ⟨w1.heap.size,2,none⟩=some (.int .u64 c.u)/\u.cell? ⟨w1.heap.size,3,none⟩=some (.int .u64 c.v):=fun h=>⟨aA h 0,aA h 1,aA h 2,aA h 3⟩;have b3:=aE v1 g3;have z3:=g3.size;have IF:=Gf.kept D9
      -- what a write keeps
      let Z:List Int->World->Prop:=fun s u=>Bd u w.heap.size w.heap.size (gC (l.take i)++s)/\u.heap[w1.heap.size]?=some (.cells #[.int .i64 c.k,.int .i64 c.t,.int .u64 c.u,.int .u64 c.v] 47 (0,0))/\w.grownBy u none;have zF:∀ {s:List Int} {u u':World},Z s u->∀ {s':List Int},Bd u' w.heap.size w.heap.size (gC (l.take i)++s')->Fr w.heap.size w.heap.size u u'->Z s' u':=fun {s u u'} hz {s'} hb hF=>by
        obtain⟨q1,q2,q3⟩:=hz;have hs:=q3.size;exact⟨hb,hF.2 _ _ q2 (by simp;omega) (by intro c fz e;cases e),((Fr.of (Nat.le_refl _) q3).trans hF).grown⟩
      have zN:∀ {s:List Int} {u:World} {n:Int},Z s u->s.length<=60->(0<=n/\n<=18446744073709551615)->Calls P 44 #[.int .u64 n,mF w.heap.size] u fun ev u'=>ev=.returned (.tuple #[])/\Z (s++32 ::eQ n.toNat) u':=fun {s u n} hz hs hn=>by
        obtain⟨q1,q2,q3⟩:=id hz;have:=q3.size;refine(yU q1 (by omega) (by simp only[List.length_append];omega) (ht.kept q3) hn).mono fun ev u' hh=>?_;obtain⟨rfl,h1,h2⟩:=hh;rw[List.append_assoc]at h1;exact⟨rfl,zF hz h1 h2⟩
      refine⟨fun u=>u.heap[w1.heap.size]?=some (.cells #[.int .i64 c.k,.int .i64 c.t,.int .u64 c.u,.int .u64 c.v] 47 (0,0)),b3,jJ.mono fun ev w4 hh=>?_⟩;obtain⟨rfl,hm,g4⟩:=hh;have b4:=aE (w:=w3.drew) b3 g4;have EI:=aB (aG Ec) g4;have z4:=g4.size;have z4:w3.heap.size<=w4.heap.size:=z4;refine⟨_,rfl,b4,c.k,fun u hu=>(cd hu).1,_,rF hm (by unfold Bj;omega),?_⟩;have IE:Bd w4 w.heap.size w.heap.size (gC (l.take i)):=Bd.kept (w:=w3.drew) IF g4;refine(sV IE (by omega) (by omega)).mono fun ev w5 hh=>?_;obtain⟨rfl,h5,f5⟩:=hh;have z5:Z (eJ c.k) w5:=by
        have:=f5.2 _ _ b4 (by simp;omega) (by intro c fz e;cases e);exact⟨h5,this,((Fr.of (Nat.le_refl _) EI).trans f5).grown⟩
      refine⟨_,_,rfl,z5.2.1,_,(cd z5.2.1).1,fun u=>Z (eJ c.k++gG c) u,⟨fun h1=>?_,fun h1=>?_⟩,?_⟩
      · have Ji:0<=c.t:=by
          unfold cM at hf;rw[if_pos h1]at hf;exact(of_decide_eq_true hf).1
        refine⟨_,(cd z5.2.1).2.1,⟨by omega,by omega⟩,(zN z5 (by omega) (by omega)).mono fun ev u hh=>?_⟩;obtain⟨rfl,hz⟩:=hh;refine⟨rfl,?_⟩;unfold gG;rw[if_pos h1];exact hz
      · refine⟨fun x w'=>w'=w5/\x=decide (c.k=2∨c.k=5),⟨fun h=>⟨rfl,by rw[decide_eq_decide];omega⟩,fun h=>⟨rfl,by rw[decide_eq_decide];omega⟩⟩,?_⟩;rintro x w6 ⟨hw,rfl⟩;obtain rfl:w5=w6:=hw.symm;refine⟨fun h2=>?_,fun h2=>?_⟩
        · refine⟨_,(cd z5.2.1).2.2.1,(zN z5 (by omega) (by omega)).mono fun ev u hh=>?_⟩;obtain⟨rfl,hz⟩:=hh;have hd:=(dG (n:=c.u.toNat) (by omega)).2;refine⟨rfl,_,(cd hz.2.1).2.2.2,(zN hz (by simp only[List.length_append,List.length_cons];omega) (by omega)).mono fun ev u hh=>?_⟩;obtain⟨rfl,hz⟩:=hh;refine⟨rfl,?_⟩;unfold gG;rw[if_neg h1,if_pos (of_decide_eq_true h2)];rw[List.append_assoc]at hz;exact hz
        have h2:=of_decide_eq_false h2;refine⟨fun x w'=>w'=w5/\x=decide (c.k=3∨c.k=6),⟨fun h=>⟨rfl,by rw[decide_eq_decide];omega⟩,fun h=>⟨rfl,by rw[decide_eq_decide];omega⟩⟩,?_⟩;rintro x w6 ⟨hw,rfl⟩;obtain rfl:w5=w6:=hw.symm;refine⟨fun h3=>?_,fun h3=>?_⟩
        · refine⟨_,(cd z5.2.1).2.2.1,(zN z5 (by omega) (by omega)).mono fun ev u hh=>?_⟩;obtain⟨rfl,hz⟩:=hh;refine⟨rfl,?_⟩;unfold gG;rw[if_neg h1,if_neg h2,if_pos (of_decide_eq_true h3)];exact hz
        · unfold gG;rw[if_neg h1,if_neg h2,if_neg (of_decide_eq_false h3),List.append_nil];exact z5
      · rintro w6 hz;have h6:=hz.2.2.size;have ha:=uU rb;refine(BA (x:=10) hz.1 (by omega) (by simp only[List.length_append];omega) (by omega)).mono fun ev w7 hh=>?_;obtain⟨rfl,h7,f7⟩:=hh;rw[List.append_assoc]at h7;have z7:=zF hz h7 f7;exact⟨_,rfl,⟨by omega,by omega⟩,l.length-(i+1),by omega,i+1,by omega,by omega,rfl,by rw[Ez];exact z7.1,z7.2.2⟩
  · refine(BB Gf (by omega)).mono fun ev w2 hh=>?_;obtain⟨rfl,f2⟩:=hh;obtain rfl:i=l.length:=by omega
    rw[List.take_length];exact⟨_,rfl,rfl,(Fr.of (Nat.le_refl _) g1).trans f2 |>.grown⟩
theorem AR{n:Nat}(h:n<10):(⟨#[48,49,50,51,52,53,54,55,56,57]⟩:ByteArray).extract n (n+1)=aO [48+(n:Int)]:=by
 match n,h with
 | 0,_=>rfl
 | 1,_=>rfl
 | 2,_=>rfl
 | 3,_=>rfl
 | 4,_=>rfl
 | 5,_=>rfl
 | 6,_=>rfl
 | 7,_=>rfl
 | 8,_=>rfl
 | 9,_=>rfl
theorem yS:∀ (n:Nat) {w:World},n<18446744073709551616->Calls P 23 #[.int .u64 (n:Int)] w fun ev w'=>ev=.returned (cF (eQ n))/\w.grownBy w' none:=by
 intro n
 induction n using Nat.strongRecOn with
 | _ n ih =>
  intro w hn;have EZ:(ByteArray.size ⟨#[48,49,50,51,52,53,54,55,56,57]⟩:Int)=10:=rfl;apply vc23;dsimp only[VC23,Br]
  try simp only[aI,EZ]
  refine⟨fun h=>⟨⟨by omega,by omega⟩,⟨by omega,by omega,by omega,by omega⟩,?_,aF _ _⟩,fun h=>⟨⟨by omega,by omega,by omega,by omega⟩,?_⟩⟩
  ·rw[show((n:Nat):Int).toNat=n by omega,show((n:Int)+1).toNat=n+1 by omega,AR (by omega),fY (by omega)]
  ·rw[show((n:Int) / 10)=((n / 10:Nat):Int) by omega];refine(ih (n / 10) (by omega) (w:=w.drew) (by omega)).mono fun ev w1 hh=>?_;obtain⟨rfl,g1⟩:=hh;have hl:=(dG (n:=n / 10) (by omega)).2;have e:(n:Int) % 10=((n % 10:Nat):Int):=by omega
   refine⟨_,rfl,⟨by omega,by omega⟩,⟨by omega,by omega⟩,⟨by omega,by omega⟩,⟨by omega,by omega,by omega,by omega⟩,?_⟩;rw[e,show(((n % 10:Nat):Int)).toNat=n % 10 by omega,show(((n % 10:Nat):Int)+1).toNat=n % 10+1 by omega,AR (by omega)];refine⟨_,fun w=>cJ (by simp;omega) w,?_,aB (aG (aF w none)) g1⟩;rw[← jV (by omega)]
theorem vT{w:World}{n:Int}(hn:0<=n/\n<=18446744073709551615):Calls P 23 #[.int .u64 n] w fun ev w'=>ev=.returned (cF (eQ n.toNat))/\w.grownBy w' none:=by
 obtain⟨u,rfl⟩:∃ u:Nat,n=u:=⟨n.toNat,by omega⟩;exact yS u (by omega)
theorem yL {w:World} {A:OA} {n c:Nat} {l:List Cm} (hr:bC w A (dY l)) (hn:n=l.length) (hl:l.length<=2^20) (hb:∀ c∈l,cY c) :
    Calls P 8 #[.slice A n c] w fun ev w'=>ev=.returned (cF (gC l))/\w.grownBy w' none:=by
  apply vc8;dsimp only[VC8,Wt,Br,Bb,Rd,Rc,Ix,Ws,cB,cS,nb,ad,al,iq]
  try simp only[aI]
  subst hn;refine⟨fun m s x w'=>∃ i:Nat,x=(i:Int)/\i<=l.length/\m=l.length-i/\s=aO (gC (l.take i))/\w.grownBy w' none,⟨_,0,rfl,by omega,rfl,rfl,aF _ _⟩,?_⟩;rintro m s x w1 ⟨i,rfl,hi,rfl,rfl,g1⟩;have ti:(i:Int).toNat=i:=by omega
  rw[ti];refine⟨fun DL=>?_,fun DR=>?_⟩
  · have Fi:i<l.length:=by omega
    obtain⟨a,rfl,e0,e1,e2,e3⟩:=lB (hr.kept_none g1) Fi;have Hk:l.take (i+1)=l.take i++[l[i]]:=List.take_succ_eq_append_getElem Fi;have FP:=hb _ (List.getElem_mem Fi);have EK:=oE (l:=l.take i) fun c hc=>hb c (List.mem_of_mem_take hc);rw[List.length_take]at EK;have Ez:=vV (l.take i) l[i];rw[← Hk]at Ez;generalize l[i]=c at e0 e1 e2 e3 FP Ez;generalize gC (l.take i)=s0 at EK Ez ⊢;obtain⟨W2,Fe,g2,b2⟩:=bZ w1 #[.int .i64 0,.int .i64 0,.int .u64 0,.int .u64 0] 47;obtain⟨V,hV,v1,v2,f⟩:=gT b2 (.int .i64 c.k) (.int .i64 c.t) (.int .u64 c.u) (.int .u64 c.v);refine⟨_,rfl,by omega,by omega,_,e0,_,e1,_,e2,_,e3,?_⟩;rw[← Fe];refine⟨f.1,f.2.1,f.2.2.1,f.2.2.2.1,f.2.2.2.2.1,f.2.2.2.2.2.1,f.2.2.2.2.2.2.1,f.2.2.2.2.2.2.2,?_⟩;rw[← hV];have z2:=g2.size;have zV:=v2.size;have lt2:=(Array.getElem?_eq_some_iff.1 b2).1;have gV:w1.grownBy V none:=((Kp.of_none g2).then v2 (fun k hk e=>e)).grown (fun k hk e=>by omega);have rb:cY c:=FP;unfold cY at FP;refine⟨_,aA v1 0,_,aA v1 1,_,aA v1 2,_,aA v1 3,(tJ c (w:=V)).mono fun ev w3 hh=>?_⟩;obtain⟨rfl,g3⟩:=hh;have D9:=aB gV g3;have Ec:=aB g1 D9;refine⟨_,rfl,fun hf=>?_,fun hf=>?_⟩
    · rw[hf]at Ez;simp only[Bool.false_eq_true,if_false,List.append_nil]at Ez;exact⟨⟨by omega,by omega⟩,l.length-(i+1),by omega,i+1,by omega,by omega,rfl,by rw[Ez],Ec⟩
    · have hf:cM c=true:=by simpa using hf
      rw[hf,if_pos rfl]at Ez;have hk:=pD hf;unfold iI at hk;have Jx:=zE c.k;have cd:∀ {u:World},u.heap[w1.heap.size]?=some (.cells #[.int .i64 c.k,.int .i64 c.t,.int .u64 c.u,.int .u64 c.v] 47 (0,0))->u.cell? ⟨w1.heap.size,0,none⟩=some (.int .i64 c.k)/\u.cell? ⟨w1.heap.size,1,none⟩=some (.int .i64 c.t)/\u.cell? ⟨w1.heap.size,2,none⟩=some (.int .u64 c.u)/\u.cell? ⟨w1.heap.size,3,none⟩=some (.int .u64 c.v):=fun h=>⟨aA h 0,aA h 1,aA h 2,aA h 3⟩;have b3:=aE v1 g3;refine⟨fun u=>u.heap[w1.heap.size]?=some (.cells #[.int .i64 c.k,.int .i64 c.t,.int .u64 c.u,.int .u64 c.v] 47 (0,0)),b3,iU.mono fun ev w4 hh=>?_⟩;obtain⟨rfl,hm,g4⟩:=hh;have b4:=aE (w:=w3.drew) b3 g4;have EI:=aB (aG Ec) g4;let Z:World->Prop:=fun u=>u.heap[w1.heap.size]?=some (.cells #[.int .i64 c.k,.int .i64 c.t,.int .u64 c.u,.int .u64 c.v] 47 (0,0))/\w.grownBy u none;have z4:Z w4:=⟨b4,EI⟩;have zN:∀ {u:World} {n:Int},Z u->(0<=n/\n<=18446744073709551615)->Calls P 23 #[.int .u64 n] u fun ev u'=>ev=.returned (cF (eQ n.toNat))/\Z u':=fun {u n} hz hn=>(vT hn).mono fun ev u' hh=>⟨hh.1,aE hz.1 hh.2,aB hz.2 hh.2⟩;have hu:=(dG (n:=c.u.toNat) (by omega)).2;have hv:=(dG (n:=c.v.toNat) (by omega)).2;refine⟨_,_,_,rfl,b4,c.k,fun u hu=>(cd hu).1,⟨by omega,by omega⟩,_,rfl,by omega,by omega,_,by
        rw[bB,aA hm,mJ (by omega),show((c.k-1).toNat:Int)+1=c.k by omega],_,fun w=>cJ (by omega) w,_,(cd b4).1,fun s' u=>s'=aO (s0++eJ c.k++gG c)/\w.grownBy u none,⟨fun h1=>?_,fun h1=>?_⟩,?_⟩
      · have Ji:0<=c.t:=by
          unfold cM at hf;rw[if_pos h1]at hf;exact(of_decide_eq_true hf).1
        have FY:=(dG (n:=c.t.toNat) (by omega)).2;refine⟨_,fun w=>cJ (b:=[32]) (by simp only[List.length_append,List.length_cons,List.length_nil];omega) w,_,(cd b4).2.1,⟨by omega,by omega⟩,(zN z4 (by omega)).mono fun ev u hh=>?_⟩;obtain⟨rfl,hz⟩:=hh;refine⟨_,rfl,_,fun w=>cJ (by simp only[List.length_append,List.length_cons,List.length_nil];omega) w,?_,hz.2⟩;unfold gG;rw[if_pos h1];simp
      · refine⟨fun x w'=>w'=w4/\x=decide (c.k=3∨c.k=6),⟨fun h=>⟨rfl,by rw[decide_eq_decide];omega⟩,fun h=>⟨rfl,by rw[decide_eq_decide];omega⟩⟩,?_⟩;rintro x w6 ⟨hw,rfl⟩;obtain rfl:w4=w6:=hw.symm;refine⟨fun h3=>?_,fun h3=>?_⟩
        · have h3:=of_decide_eq_true h3;refine⟨_,fun w=>cJ (b:=[32]) (by simp only[List.length_append,List.length_cons,List.length_nil];omega) w,_,(cd b4).2.2.1,(zN z4 (by omega)).mono fun ev u hh=>?_⟩;obtain⟨rfl,hz⟩:=hh;refine⟨_,rfl,_,fun w=>cJ (by simp only[List.length_append,List.length_cons,List.length_nil];omega) w,?_,hz.2⟩;unfold gG;rw[if_neg h1,if_neg (by omega),if_pos h3];simp
        have h3:=of_decide_eq_false h3;refine⟨fun x w'=>w'=w4/\x=decide (c.k=2∨c.k=5),⟨fun h=>⟨rfl,by rw[decide_eq_decide];omega⟩,fun h=>⟨rfl,by rw[decide_eq_decide];omega⟩⟩,?_⟩;rintro x w6 ⟨hw,rfl⟩;obtain rfl:w4=w6:=hw.symm;refine⟨fun h2=>?_,fun h2=>?_⟩
        · have h2:=of_decide_eq_true h2;have z4:Z w4.drew:=⟨b4,aG EI⟩;refine⟨Z,z4,_,fun w=>cJ (b:=[32]) (by simp only[List.length_append,List.length_cons,List.length_nil];omega) w,_,(cd z4.1).2.2.1,(zN z4 (by omega)).mono fun ev u hh=>?_⟩;obtain⟨rfl,hz⟩:=hh;refine⟨_,rfl,hz,_,fun w=>cJ (by simp only[List.length_append,List.length_cons,List.length_nil];omega) w,_,fun w=>cJ (b:=[32]) (by simp only[List.length_append,List.length_cons,List.length_nil];omega) w,_,fun u hu=>(cd hu.1).2.2.2,(zN hz (by omega)).mono fun ev u hh=>?_⟩;obtain⟨rfl,hz⟩:=hh;refine⟨_,rfl,hz,_,fun w=>cJ (by simp only[List.length_append,List.length_cons,List.length_nil];omega) w,?_,hz.2⟩;unfold gG;rw[if_neg h1,if_pos h2];simp
        · have h2:=of_decide_eq_false h2;refine⟨?_,EI⟩;unfold gG;rw[if_neg h1,if_neg h2,if_neg h3,List.append_nil]
      · rintro s' w6 ⟨rfl,g6⟩;have ha:=uU rb;refine⟨_,fun w=>cJ (b:=[10]) (by simp only[List.length_append,List.length_cons,List.length_nil];omega) w,⟨by omega,by omega⟩,l.length-(i+1),by omega,i+1,by omega,by omega,rfl,?_,g6⟩;rw[Ez];unfold uB;simp
  · obtain rfl:i=l.length:=by omega
    rw[List.take_length];exact⟨rfl,g1⟩
theorem yH{w:World}{A B:OA}{n c m d:Nat}{l q:List Cm}(hl:bC w A (dY l))(hq:bC w B (dY q))(hn:n=l.length)(hm:m=q.length)(hb:l.length<=2^40):
    Calls P 15 #[.slice A n c,.slice B m d] w fun ev w'=>ev=.returned (.bool (decide (l=q)))/\w.grownBy w' none:=by
  apply vc15;dsimp only[VC15,rb,Br,Bb,Rd,Ix,Eg,ad,al,iq]
  try simp only[aI]
  subst hn;subst hm;refine⟨fun h=>⟨?_,aF _ _⟩,fun h=>?_⟩
  · congr 2;symm;rw[decide_eq_false_iff_not];rintro rfl;exact h rfl
  have DO:l.length=q.length:=by omega
  refine⟨fun m x w'=>∃ i:Nat,x=(i:Int)/\i<=l.length/\m=l.length-i/\w.grownBy w' none/\l.take i=q.take i,⟨_,0,rfl,by omega,rfl,aF _ _,rfl⟩,?_⟩;rintro m x w1 ⟨i,rfl,hi,rfl,g1,Ej⟩;have ti:(i:Int).toNat=i:=by omega
  rw[ti];refine⟨fun DL=>?_,fun DR=>?_⟩
  · have g1:=aG g1;have h1:i<l.length:=by omega
    have h2:i<q.length:=by omega
    obtain⟨a,rfl,a0,a1,a2,a3⟩:=lB (hl.kept_none g1) h1;obtain⟨b,rfl,b0,b1,b2,b3⟩:=lB (hq.kept_none g1) h2;refine⟨_,rfl,by omega,by omega,_,a0,_,a1,_,a2,_,a3,_,rfl,by omega,by omega,_,b0,_,b1,_,b2,_,b3,_,fun w=>CH _ _ l[i] q[i] w,fun h=>⟨?_,g1⟩,fun h=>⟨⟨by omega,by omega⟩,l.length-(i+1),by omega,i+1,by omega,by omega,rfl,g1,?_⟩⟩
    · congr 2;symm;rw[decide_eq_false_iff_not];rintro rfl;simp at h
    · have h:l[i]=q[i]:=by simpa using h
      rw[List.take_succ_eq_append_getElem h1,List.take_succ_eq_append_getElem h2,Ej,h]
  · obtain rfl:i=l.length:=by omega
    rw[List.take_length,DO,List.take_length]at Ej;refine⟨?_,g1⟩;congr 2;symm;rw[decide_eq_true_iff];exact Ej
end Go.Proofs.YtdlomlmijdifbaaGreatDoor
