/-
  Part 31 of a proof: what it proves stands in the last text.
-/
import Derived.Test.YtnnaadmegeeinaaGreatDoorZu
import Derived.Test.YtnnaadmegeeinaaGreatDoorZq
import Derived.Shelf.SlSortCmp.WholeK
import Derived.Test.YtnnaadmegeeinaaGreatDoorZm
import Derived.DeepKeys4
import Derived.Test.YtnnaadmegeeinaaGreatDoorZr
import Derived.Test.YtnnaadmegeeinaaGreatDoorZs
set_option linter.unusedVariables false
set_option maxHeartbeats 8000000
set_option maxRecDepth 100000
namespace Go.Proofs.YtnnaadmegeeinaaGreatDoor
open Go.RowKit Go.Shelf
def gsortRen:Ren:=⟨fun x=>match x with|6=>247|15=>282|14=>281|28=>310|29=>296|20=>302|21=>303|22=>304|23=>305|24=>306|25=>307|26=>308|27=>309|46=>332|47=>333|48=>334|49=>335|50=>336|57=>343|n=>n,fun x=>match x with|22=>136|24=>179|25=>228|3=>3|39=>126|0=>0|53=>160|55=>188|4=>4|46=>278|45=>277|50=>77|5=>5|9=>9|66=>295|70=>299|76=>307|77=>198|n=>n,fun n=>n⟩
theorem gsort:SlLaysF0.n6 Tryz.prog gsortRen where
 mixed:=by kernel_rfl
 f6:=⟨(Tryz.f247).name,by kernel_rfl,Tryz.func247.trans (congrArg some (by kernel_rfl))⟩
 f14:=⟨(Tryz.f281).name,by kernel_rfl,Tryz.func281.trans (congrArg some (by kernel_rfl))⟩
 f15:=Tryz.func282.trans (congrArg some (by kernel_rfl))
 f20:=⟨(Tryz.f302).name,by kernel_rfl,Tryz.func302.trans (congrArg some (by kernel_rfl))⟩
 f21:=⟨(Tryz.f303).name,by kernel_rfl,Tryz.func303.trans (congrArg some (by kernel_rfl))⟩
 f22:=⟨(Tryz.f304).name,by kernel_rfl,Tryz.func304.trans (congrArg some (by kernel_rfl))⟩
 f23:=⟨(Tryz.f305).name,by kernel_rfl,Tryz.func305.trans (congrArg some (by kernel_rfl))⟩
 f24:=⟨(Tryz.f306).name,by kernel_rfl,Tryz.func306.trans (congrArg some (by kernel_rfl))⟩
 f25:=⟨(Tryz.f307).name,by kernel_rfl,Tryz.func307.trans (congrArg some (by kernel_rfl))⟩
 f26:=⟨(Tryz.f308).name,by kernel_rfl,Tryz.func308.trans (congrArg some (by kernel_rfl))⟩
 f27:=⟨(Tryz.f309).name,by kernel_rfl,Tryz.func309.trans (congrArg some (by kernel_rfl))⟩
 f28:=Tryz.func310.trans (congrArg some (by kernel_rfl))
 f29:=Tryz.func296.trans (congrArg some (by kernel_rfl))
 f46:=⟨(Tryz.f332).name,by kernel_rfl,Tryz.func332.trans (congrArg some (by kernel_rfl))⟩
 f47:=Tryz.func333.trans (congrArg some (by kernel_rfl))
 f48:=Tryz.func334.trans (congrArg some (by kernel_rfl))
 f49:=⟨(Tryz.f335).name,by kernel_rfl,Tryz.func335.trans (congrArg some (by kernel_rfl))⟩
 f50:=⟨(Tryz.f336).name,by kernel_rfl,Tryz.func336.trans (congrArg some (by kernel_rfl))⟩
 f57:=⟨(Tryz.f343).name,by kernel_rfl,Tryz.func343.trans (congrArg some (by kernel_rfl))⟩
 t0:=Tryz.underlying0
 a0:=Tryz.isAgg0
 z0:=Tryz.sizeOf0
 v0:=Tryz.zeroValue0
 t3:=Tryz.underlying3
 a3:=Tryz.isAgg3
 z3:=Tryz.sizeOf3
 v3:=Tryz.zeroValue3
 t4:=Tryz.underlying4
 a4:=Tryz.isAgg4
 z4:=Tryz.sizeOf4
 v4:=Tryz.zeroValue4
 t5:=Tryz.underlying5
 a5:=Tryz.isAgg5
 z5:=Tryz.sizeOf5
 v5:=Tryz.zeroValue5
 t9:=Tryz.underlying9
 a9:=Tryz.isAgg9
 z9:=Tryz.sizeOf9
 v9:=Tryz.zeroValue9
 t22:=Tryz.underlying136
 a22:=Tryz.isAgg136
 z22:=Tryz.sizeOf136
 v22:=Tryz.zeroValue136
 t25:=Tryz.underlying228
 a25:=Tryz.isAgg228
 z25:=Tryz.sizeOf228
 v25:=Tryz.zeroValue228
 t39:=Tryz.underlying126
 a39:=Tryz.isAgg126
 z39:=Tryz.sizeOf126
 v39:=Tryz.zeroValue126
 t45:=Tryz.underlying277
 a45:=Tryz.isAgg277
 z45:=Tryz.sizeOf277
 v45:=Tryz.zeroValue277
 t46:=Tryz.underlying278
 a46:=Tryz.isAgg278
 z46:=Tryz.sizeOf278
 v46:=Tryz.zeroValue278
 t50:=Tryz.underlying77
 a50:=Tryz.isAgg77
 z50:=Tryz.sizeOf77
 v50:=Tryz.zeroValue77
 t53:=Tryz.underlying160
 a53:=Tryz.isAgg160
 z53:=Tryz.sizeOf160
 v53:=Tryz.zeroValue160
 t55:=Tryz.underlying188
 a55:=Tryz.isAgg188
 z55:=Tryz.sizeOf188
 v55:=Tryz.zeroValue188
 t66:=Tryz.underlying295
 a66:=Tryz.isAgg295
 z66:=Tryz.sizeOf295
 v66:=Tryz.zeroValue295
 t70:=Tryz.underlying299
 a70:=Tryz.isAgg299
 z70:=Tryz.sizeOf299
 v70:=Tryz.zeroValue299
 t76:=Tryz.underlying307
 a76:=Tryz.isAgg307
 z76:=Tryz.sizeOf307
 v76:=Tryz.zeroValue307
 t77:=Tryz.underlying198
 a77:=Tryz.isAgg198
 z77:=Tryz.sizeOf198
 v77:=Tryz.zeroValue198
open Go.Sort Go.Lib
theorem flatK_fl (l:List (Nat→Nat)):flatK mvC 7 l.toArray=(flM l).toArray:=by
 refine Array.ext (by simp[flM_len]) fun t h1 h2=> ?_
 have ht:t<l.length*7:=by simpa using h1
 have e:=flM_at l (t/7) (t%7) (by omega) (Nat.mod_lt _ (by omega))
 rw[show t/7*7+t%7=t by omega]at e
 have hi:t/7<l.length:=by omega
 have h3:=get_flatK mvC 7 l.toArray t (by simpa using ht)
 rw[getElem!_pos _ t h1]at h3
 rw[h3]
 have e2:l.getD (t/7) id=l.toArray[t/7]! :=by
  rw[getElem!_pos _ _ (by simpa using hi)]
  simp[hi]
 rw[e2]at e
 have h4:t%7<(mvC (l.toArray[t/7]!)).length:=by rw[mvC_len];exact Nat.mod_lt _ (by omega)
 rw[getElem!_pos (mvC (l.toArray[t/7]!)) (t%7) h4]
 rw[List.getElem?_eq_getElem h4,List.getElem?_eq_getElem (by rw[flM_len];exact ht)]at e
 simpa using(Option.some.inj e).symm
theorem holds_block {w:World} {g:Nat} {cur:Array Value} {e:TypeId} {xs:List Value} (hb:w.heap[g]? =some (.cells cur e (0,0))) (ht:cur.toList.take xs.length=xs):Holds id w g 0 xs.toArray:=by
 intro j hj
 have hj':j<xs.length:=by simpa using hj
 refine⟨?_,by simp[World.frozen?,hb]⟩
 have h1:(cur.toList.take xs.length)[j]? =xs[j]? :=by rw[ht]
 rw[List.getElem?_take_of_lt hj']at h1
 simp only[World.cell?,hb,Nat.zero_add]
 simp only[Option.isSome_none,Bool.false_eq_true,if_false]
 rw[←Array.getElem?_toList,h1]
 simp[hj']
theorem heap_sortedV {w:World} {g n:Nat} {os:Array Obj} {cur:Array Value} {e:TypeId} {fr:Nat×Nat} (d:Array Value) (hb:w.heap[g]? =some (.cells cur e fr)):
 (grow (putRow id (Sort.ahead w n) g 0 d) os).heap[g]? =some (.cells (putCells id 0 d cur) e fr):=by
 have hg:g<w.heap.size:=(Array.getElem?_eq_some_iff.1 hb).1
 rw[heap_grow_old _ _ (by simpa using hg)]
 simp[putRow,mapBlock,Sort.ahead,Array.getElem?_modify,hb,onCells]
theorem grownBy_sortedV {w:World} {g n:Nat} {os:Array Obj} (d:Array Value):w.grownBy (grow (putRow id (Sort.ahead w n) g 0 d) os) (some g):=by
 refine⟨rfl,rfl,rfl,by simp,fun k hk hne=> ?_⟩
 rw[heap_grow_old _ _ (by simpa using hk)]
 have:g≠k:=fun e=>hne (by rw[e])
 simp[putRow,mapBlock,Sort.ahead,Array.getElem?_modify,this]
theorem take_putCellsV (cur:Array Value) (ts:List Value) (h:ts.length≤cur.size):(putCells id 0 ts.toArray cur).toList.take ts.length=ts:=by
 apply List.ext_getElem?
 intro j
 by_cases hj:j<ts.length
 ·rw[List.getElem?_take_of_lt hj,Array.getElem?_toList]
  simp[putCells,hj,show j<cur.size by omega]
 ·rw[List.getElem?_take_eq_none (by omega),List.getElem?_eq_none (by omega)]
theorem cf_swo:SWO (ltOf cfF) where
 irrefl x:=decide_eq_false (by rw[cf_lt];exact lex_irrefl 7 x)
 trans x y z h1 h2:=decide_eq_true ((cf_lt x z).2 (lex_trans ((cf_lt x y).1 (of_decide_eq_true h1)) ((cf_lt y z).1 (of_decide_eq_true h2))))
 ntrans x y z h1 h2:=decide_eq_false (fun h=>lex_ntrans (fun h3=>of_decide_eq_false h1 ((cf_lt x y).2 h3)) (fun h3=>of_decide_eq_false h2 ((cf_lt y z).2 h3)) ((cf_lt x z).1 h))
theorem gsort_ok (l:List (Nat→Nat)) (B og lc:Nat) (w:World) (h:OM B w (.slice (some ⟨og,0,none⟩) l.length lc) l) (hlen:l.length≤1000000000):
 Calls Tryz.prog 247 #[.slice (some ⟨og,0,none⟩) l.length lc,.func (.func 248) #[] #[]] w fun e w'=>
  e= .returned (.tuple #[])∧∃l',l'.Perm l∧l'.Pairwise (fun a b=>¬cfF b a<0)∧OM B w' (.slice (some ⟨og,0,none⟩) l.length lc) l'∧w.grownBy w' (some og):=by
 obtain⟨h0,hf⟩:=h
 rcases hf with⟨h1,_⟩|⟨g,cap,cur,hv,hbase,hb,hn,hcap,hcs,ht⟩
 ·cases h1
 obtain⟨rfl,rfl⟩:og=g∧lc=cap:=by simpa using hv
 have eg:∀args w,(callFunc 248 args).run Tryz.prog w= .ok (.enter 248 args) w:=enters_of Tryz.func248 (by kernel_rfl) rfl
 have hH:HoldsK mvC 7 w og 0 l.toArray:=by
  unfold HoldsK
  rw[flatK_fl]
  exact holds_block hb (by rw[flM_len];exact ht)
 have key:=AnyQ.slices_SortFunc gsort 7 Tryz.isAgg179 Tryz.sizeOf179 mvC mvC_len (fun x v hv=>by
  simp only[mvC,List.mem_map]at hv
  obtain⟨i,_,rfl⟩:=hv
  rfl) cfF cf_swo 248 #[] og 0 lc l.toArray w eg (fun m os dk _ x y=>mcmp_ok x y _) hH (Array.getElem?_eq_some_iff.1 hb).1 (by simp;omega)
 have key2:Calls Tryz.prog 247 #[.slice (some ⟨og,0,none⟩) l.length lc,.func (.func 248) #[] #[]] w _:=key
 refine key2.mono ?_
 rintro e w' ⟨rfl,d',n,os,⟨hps,_,hpp⟩,hs,rfl⟩
 have hd:d'.size=l.length:=by rw[hps];simp
 refine⟨rfl,d'.toList,?_,?_,?_,?_⟩
 ·have:=hpp
  rw[show l.toArray.size=l.length by simp]at this
  rw[Array.extract_eq_self_of_le (by omega),Array.extract_eq_self_of_le (by simp)]at this
  simpa using this
 ·rw[List.pairwise_iff_getElem]
  intro i j hi hj hij
  have h3:=hs i j (Nat.zero_le _) hij (by simp;simp at hj;omega)
  have hi':i<d'.size:=by simpa using hi
  have hj':j<d'.size:=by simpa using hj
  rw[getElem!_pos _ i hi',getElem!_pos _ j hj']at h3
  have:=of_decide_eq_false h3
  simpa using this
 ·have hfl:flatK mvC 7 d'=(flM d'.toList).toArray:=by
   have:=flatK_fl d'.toList
   simpa using this
  unfold sortWorldK putRowK
  rw[hfl]
  have hfll:(flM d'.toList).length=l.length*7:=by rw[flM_len];simp[hd]
  unfold OM
  rw[show d'.toList.length=l.length by simp[hd]]
  exact⟨hfll,.inr ⟨og,lc,_,rfl,hbase,heap_sortedV _ hb,hn,hcap,by simp[putCells,hcs],by rw[←hfll];exact take_putCellsV cur _ (by rw[hfll,hcs];exact Nat.mul_le_mul_right 7 hn)⟩⟩
 ·exact grownBy_sortedV _
end Go.Proofs.YtnnaadmegeeinaaGreatDoor
namespace Go.Proofs.YtnnaadmegeeinaaGreatDoor
open Go.RowKit Go.Maps
theorem laidOutG:laidOutB Tryz.prog=true:=by kernel_rfl
theorem moveLaw:Keyed Tryz.prog 179:=Keyed.of_law (deep_law_laid laidOutG (m:=2) (by omega) (of_decide_eq_true (by kernel_rfl)) (by kernel_rfl) (by rw[Tryz.underlying179]))
def kF (l:List Int):Value:= .agg (l.map (Value.int .i64)).toArray
theorem kF_inj (x y:List Int) (h:kF x=kF y):x=y:=by
 simp only[kF,Value.agg.injEq]at h
 have h2:=congrArg Array.toList h
 exact(List.map_inj_right (fun a b h=>by cases h;rfl)).1 h2
def mvI (x:Nat→Nat):List Int:=(List.range 7).map fun i=>((x i:Nat):Int)
theorem mvV_kF (x:Nat→Nat):mvV x=kF (mvI x):=by
 unfold mvV kF mvI mvC
 rw[List.map_map]
 rfl
theorem mvI_inj {n:Nat} (hn:n≤7) {x y:Nat→Nat} (P:Mv n x) (Q:Mv n y) (h:mvI x=mvI y):x=y:=by
 funext i
 by_cases hi:i<7
 ·have h1:=congrArg (fun l=>l[i]?) h
  simp only[mvI,List.getElem?_map,List.getElem?_range hi,Option.map_some,Option.some.injEq]at h1
  omega
 ·rw[P.st i (by omega),Q.st i (by omega)]
theorem move_kt:Tryz.prog.keyType 179=true:=by kernel_rfl
theorem move_cells:Tryz.prog.cellsOf 179=7:=by kernel_rfl
theorem int_cellsG:Tryz.prog.cellsOf 3=1:=by kernel_rfl
theorem types_succG:∃m,Tryz.prog.types.size=m+1:=⟨Tryz.prog.types.size-1,by
 have:0<Tryz.prog.types.size:=of_decide_eq_true (by kernel_rfl)
 omega⟩
theorem moveKey {x:Nat→Nat} (h:∀i,i<7→x i<7):∃kl,keyOf Tryz.prog 179 (mvV x)=some kl:=by
 have wf:∀i,i<7→(Lit.int .i64 ((x i:Nat):Int)).wf=true:=fun i hi=>WalkArith.wf_i64 (by have:=h i hi;omega)
 have w0:=wf 0 (by omega)
 have w1:=wf 1 (by omega)
 have w2:=wf 2 (by omega)
 have w3:=wf 3 (by omega)
 have w4:=wf 4 (by omega)
 have w5:=wf 5 (by omega)
 have w6:=wf 6 (by omega)
 obtain⟨m,hm⟩:=types_succG
 have e:mvV x= .agg #[.int .i64 (x 0:Nat),.int .i64 (x 1:Nat),.int .i64 (x 2:Nat),.int .i64 (x 3:Nat),.int .i64 (x 4:Nat),.int .i64 (x 5:Nat),.int .i64 (x 6:Nat)]:=rfl
 rw[e]
 suffices h:keyOf Tryz.prog 179 (.agg #[.int .i64 (x 0:Nat),.int .i64 (x 1:Nat),.int .i64 (x 2:Nat),.int .i64 (x 3:Nat),.int .i64 (x 4:Nat),.int .i64 (x 5:Nat),.int .i64 (x 6:Nat)])=some (.string (keyBytes [.int .i64 (x 0:Nat),.int .i64 (x 1:Nat),.int .i64 (x 2:Nat),.int .i64 (x 3:Nat),.int .i64 (x 4:Nat),.int .i64 (x 5:Nat),.int .i64 (x 6:Nat)]))from⟨_,h⟩
 unfold keyOf
 simp only[Tryz.underlying179]
 rw[if_pos (by simp[move_kt,Value.formed,Tryz.underlying179,move_cells]),hm]
 unfold Program.keyLits
 simp only[Tryz.underlying179,Value.cells]
 rw[if_pos (by rw[move_cells];rfl)]
 simp[int_cellsG,Program.keyLits,Tryz.underlying3,w0,w1,w2,w3,w4,w5,w6,show List.range 7=[0,1,2,3,4,5,6]from rfl]
theorem wpList_kmok {κ:Type} {f:κ→Value} {w:World} {b n:Nat} {S:List κ} {ops:Array Oper} {rest:List Oper} {o:Oper} {a:Act} {Q:Exit→Act→World→Prop}
 (hg:o.guard=none) (m x:Operand) (t:TypeId) (hop:o.op=Op.lookup t m x true) (K:TypeId) (L:Keyed Tryz.prog K) (ht:Tryz.prog.underlying t=some (.map K 3))
 (hm:a.eval m= .map (some b)) (hown:KM K f w b n S) (y:κ) (hx:a.eval x=f y) (hkey:∃kl,keyOf Tryz.prog K (f y)=some kl)
 (hK:∀(c:Int) (z:Bool),(z=true↔y∈S)→wpList Tryz.prog ops Q rest (a.put o.dst (.tuple #[.int .i64 c,.bool z])) w):wpList Tryz.prog ops Q (o::rest) a w:=by
 obtain⟨D,h1,h2,h3,h4⟩:=hown
 obtain⟨kl,hkl⟩:=hkey
 exact wpList_lookup_own_ok_int w hg m x t hop K 3 .i64 L ht Tryz.underlying3 (Tryz.zeroValue3 w) b n D hm h1 _ kl hx hkl (fun c _ _=>hK c _ (h4 y kl hkl))
theorem wpList_kmins {κ:Type} [DecidableEq κ] {f:κ→Value} {w:World} {b n:Nat} {S:List κ} {ops:Array Oper} {rest:List Oper} {o:Oper} {a:Act} {Q:Exit→Act→World→Prop}
 (hg:o.guard=none) (m x v:Operand) (t:TypeId) (hop:o.op=Op.insert t m x v) (K:TypeId) (L:Keyed Tryz.prog K) (hf:∀x y,f x=f y→x=y) (ht:Tryz.prog.underlying t=some (.map K 3))
 (hm:a.eval m= .map (some b)) (hown:KM K f w b n S) (hn:n<maxLen) (y:κ) (c:Int) (hx:a.eval x=f y) (hv:a.eval v= .int .i64 c) (hkey:∃kl,keyOf Tryz.prog K (f y)=some kl) (hc:(Lit.int .i64 c).wf=true)
 (hK:∀w',KM K f w' b (n+1) (ins y S)→w.grownBy w' (some b)→wpList Tryz.prog ops Q rest (a.put o.dst undef) w'):wpList Tryz.prog ops Q (o::rest) a w:=by
 obtain⟨D,h1,h2,h3,h4⟩:=hown
 obtain⟨kl,hkl⟩:=hkey
 refine wpList_plain hg fun K' hK'=> ?_
 obtain⟨w',hrun,r1,r2⟩:=h1.update L ht hn hkl (plainElem_int Tryz.underlying3 hc)
 unfold Oper.wp
 simp[execOp,hop,hm,hx,hv,hrun,Result.andThen]
 exact hK' _ _ (hK w' (KM.put L hf h1 h2 h3 h4 hkl r1) r2)
end Go.Proofs.YtnnaadmegeeinaaGreatDoor
namespace Go.Proofs.YtnnaadmegeeinaaGreatDoor
open Go.RowKit
theorem divisor_any (a b:Nat) (w:World) (ha:a≤1000000000) (hb:b≤1000000000):
 Calls Tryz.prog 259 #[.int .i64 a,.int .i64 b] w fun e w'=>e= .returned (.int .i64 (Nat.gcd a b))∧∃q,w'=w.drewN q:=by
 obtain⟨G,hG⟩:∃G,Nat.gcd a b=G:=⟨_,rfl⟩
 rw[hG]
 have HG:=hid hG
 clear hG
 go_enter Tryz.func259,Tryz.ntmps259
 go_wp2
 go_loopw [0,1] (fun x y wr=>∃p q:Nat,x= .int .i64 p∧y= .int .i64 q∧Hid (Nat.gcd p q=G)∧p≤1000000000∧q≤1000000000∧∃k,Hid (wr=w.drewN k)) (fun _ y _=>(intOf y).toNat)
 case atStart=>exact⟨a,b,rfl,rfl,hid HG.out,ha,hb,0,hid rfl⟩
 case round=>
  obtain⟨p,q,rfl,rfl,HPQ,hp,hq,k,HK⟩:=hrel
  by_cases h0:q=0
  ·subst h0
   have hGp:G=p:=by rw[←HPQ.out,Nat.gcd_zero_right]
   subst hGp
   have hz:(((0:Nat):Int)==0)=true:=rfl
   go_wp2
   go_ret
   exact⟨rfl,k,HK.out⟩
  ·have hz:((q:Int)==0)=false:=by rw[beq_eq_false_iff_ne];omega
   have hz2:¬(q:Int)=0:=by omega
   have hm:(p:Int).tmod (q:Int)=((p%q:Nat):Int):=(Int.ofNat_tmod p q).symm
   have hlt:p%q<q:=Nat.mod_lt _ (by omega)
   have HN:Hid (Nat.gcd q (p%q)=G):=hid (by rw[←HPQ.out,Nat.gcd_comm p q,Nat.gcd_rec q p,Nat.gcd_comm])
   have HK2:Hid (wr.drew=w.drewN (k+1)):=hid (by rw[HK.out];rfl)
   generalize p%q=r at*
   go_wp2
   go_region
   go_wp2
   go_roundw
   case rel=>exact⟨q,r,rfl,rfl,HN,hq,by omega,k+1,HK2⟩
   case measure=>simp[intOf]<;>omega
theorem eq_of_getD {l m:List Int} (hl:l.length=m.length) (h:∀i,i<l.length→l.getD i 0=m.getD i 0):l=m:=by
 refine List.ext_getElem hl fun i h1 h2=> ?_
 have:=h i h1
 rw[List.getD_eq_getElem?_getD,List.getD_eq_getElem?_getD,List.getElem?_eq_getElem h1,List.getElem?_eq_getElem h2]at this
 exact this
theorem equal_any (v u:Value) (l m:List Int) (w:World) (hv:Sl w v l) (hu:Sl w u m) (hlm:l.length=m.length):
 Calls Tryz.prog 261 #[v,u] w fun e w'=>e= .returned (.bool (decide (l=m)))∧∃q,w'=w.drewN q:=by
 obtain⟨a1,c1,N,rfl,hN,hl1,hl2⟩:=hv.open
 obtain⟨a2,c2,N2,rfl,hN2,hm1,hm2⟩:=hu.open
 obtain rfl:N=N2:=by rw[←hN.out,←hN2.out,hlm]
 have HY:Hid ((∀i,i<N→l.getD i 0=m.getD i 0)→decide (l=m)=true):=hid (fun h=>decide_eq_true (eq_of_getD hlm (by rw[hN.out];exact h)))
 have HN:Hid (∀i,i<N→l.getD i 0≠m.getD i 0→decide (l=m)=false):=hid (fun i _ h=>decide_eq_false (fun e=>h (by rw[e])))
 have HC:Hid (N=0∨∃b1 o1 b2 o2,a1=some ⟨b1,o1,none⟩∧a2=some ⟨b2,o2,none⟩∧∀i,i<N→w.cell? ⟨b1,o1+i,none⟩=some (.int .i64 (l.getD i 0))∧w.cell? ⟨b2,o2+i,none⟩=some (.int .i64 (m.getD i 0))):=hid (by
  rcases Nat.eq_zero_or_pos N with h0|h0
  ·exact .inl h0
  ·obtain⟨b1,o1,e1,_,e3⟩:=hl2 h0
   obtain⟨b2,o2,f1,_,f3⟩:=hm2 h0
   exact .inr ⟨b1,o1,b2,o2,e1,f1,fun i hi=>⟨by rw[e3 i hi,List.getD_eq_getElem?_getD],by rw[f3 i hi,List.getD_eq_getElem?_getD]⟩⟩)
 clear hl2 hm2 hv hu hlm hN hN2
 generalize decide (l=m)=Z at*
 have hNN:((N:Int)==(N:Int))=true:=by simp
 go_enter Tryz.func261,Tryz.ntmps261
 go_wp2
 go_loopw [13] (fun iv wr=>∃i:Nat,i≤N∧iv= .int .i64 i∧Hid (∀j,j<i→l.getD j 0=m.getD j 0)∧∃q,Hid (wr=w.drewN q)) (fun iv _=>N-(intOf iv).toNat)
 case atStart=>exact⟨0,Nat.zero_le _,rfl,hid (fun j h=>by omega),0,hid rfl⟩
 case round=>
  obtain⟨i,hi,rfl,hall,q,HQ⟩:=hrel
  by_cases hiN:i<N
  ·have hii:(i:Int)<(N:Int):=by omega
   obtain⟨b1,o1,b2,o2,rfl,rfl,hcell⟩:∃b1 o1 b2 o2,a1=some ⟨b1,o1,none⟩∧a2=some ⟨b2,o2,none⟩∧∀i,i<N→w.cell? ⟨b1,o1+i,none⟩=some (.int .i64 (l.getD i 0))∧w.cell? ⟨b2,o2+i,none⟩=some (.int .i64 (m.getD i 0)):=by
    rcases HC.out with h|h
    ·omega
    ·exact h
   obtain⟨k1,k2⟩:=hcell i hiN
   have k1':wr.cell? ⟨b1,o1+i,none⟩=some (.int .i64 (l.getD i 0)):=by rw[HQ.out];exact k1
   have k2':wr.cell? ⟨b2,o2+i,none⟩=some (.int .i64 (m.getD i 0)):=by rw[HQ.out];exact k2
   have k1d:wr.drew.cell? ⟨b1,o1+i,none⟩=_:=k1'
   have k2d:wr.drew.cell? ⟨b2,o2+i,none⟩=_:=k2'
   have HQ2:Hid (wr.drew=w.drewN (q+1)):=hid (by rw[HQ.out];rfl)
   clear hcell k1 k2
   by_cases he:l.getD i 0=m.getD i 0
   ·have hbe:(l.getD i 0==m.getD i 0)=true:=by rw[beq_iff_eq];exact he
    have HA:Hid (∀j,j<i+1→l.getD j 0=m.getD j 0):=hid (fun j h=>by
     by_cases e:j=i
     ·rw[e];exact he
     ·exact hall.out j (by omega))
    clear he
    generalize l.getD i 0=x at*
    generalize m.getD i 0=y at*
    go_wp2
    go_region
    go_wp2
    go_roundw
    case rel=>exact⟨i+1,by omega,by go_num,HA,q+1,HQ2⟩
    case measure=>simp[intOf]<;>omega
   ·have hbe:(l.getD i 0==m.getD i 0)=false:=by rw[beq_eq_false_iff_ne];exact he
    obtain rfl:=HN.out i hiN he
    clear he
    generalize l.getD i 0=x at*
    generalize m.getD i 0=y at*
    go_wp2
    go_region
    go_wp2
    go_ret
    exact⟨rfl,_,HQ2.out⟩
  ·obtain rfl:i=N:=by omega
   have hii:¬(i:Int)<(i:Int):=by omega
   obtain rfl:=HY.out hall.out
   go_wp2
   go_ret
   exact⟨rfl,_,HQ.out⟩
def chP (v:Nat) (l:List Nat) (t m i:Nat):List Int:=(l.take i).map fun n=>(((n*t+m)%v:Nat):Int)
theorem chP_snoc (v:Nat) (l:List Nat) (t m:Nat) {i:Nat} (h:i<l.length):chP v l t m i++[(((l.getD i 0*t+m)%v:Nat):Int)]=chP v l t m (i+1):=by
 unfold chP
 rw[List.take_add_one,List.getElem?_eq_getElem h,List.map_append,List.getD_eq_getElem?_getD,List.getElem?_eq_getElem h]
 rfl
theorem chP_all (v:Nat) (l:List Nat) (t m:Nat):chP v l t m l.length=chM v l t m:=by unfold chP chM;rw[List.take_length]
theorem chP_len (v:Nat) (l:List Nat) (t m:Nat) {i:Nat} (h:i≤l.length):(chP v l t m i).length=i:=by unfold chP;rw[List.length_map,List.length_take];omega
theorem chG_len (v:Nat) (l:List Nat) (t m:Nat):(chG v l t m).length=l.length:=by unfold chG chM;rw[List.length_mergeSort,List.length_map]
theorem changed_any (v t m:Nat) (u:Value) (l:List Nat) (w:World) (hv:1≤v∧v≤60) (ht:t≤60) (hm:m≤60) (hu:Sl w u (ofN l)) (hl:l.length≤60) (hb:∀x∈l,x<v):
 Calls Tryz.prog 260 #[.int .i64 v,u,.int .i64 t,.int .i64 m] w fun e w'=>(∃r,e= .returned r∧OI w.heap.size w' r (chG v l t m))∧Below w.heap.size w w':=by
 obtain⟨a,c,N,rfl,hN,hl1,hl2⟩:=hu.open
 rw[show(ofN l).length=l.length from ofN_len l]at hN
 have hN60:N≤60:=by have:=hN.out;omega
 have HLT:Hid (∀i,i<N→l.getD i 0<v):=hid (fun i hi=>by
  have hi2:i<l.length:=by rw[hN.out];exact hi
  rw[List.getD_eq_getElem?_getD,List.getElem?_eq_getElem hi2,Option.getD_some]
  exact hb _ (List.getElem_mem hi2))
 have HCELL:Hid (N=0∨∃b off,a=some ⟨b,off,none⟩∧b<w.heap.size∧∀i,i<N→w.cell? ⟨b,off+i,none⟩=some (.int .i64 ((l.getD i 0:Nat):Int))):=hid (by
  rcases Nat.eq_zero_or_pos N with h0|h0
  ·exact .inl h0
  ·obtain⟨b,off,e1,e2,e3⟩:=hl2 h0
   exact .inr ⟨b,off,e1,e2,fun i hi=>by rw[e3 i hi,←ofN_get,List.getD_eq_getElem?_getD]⟩)
 have HPS:=hid (fun i (hi:i<N)=>chP_snoc v l t m (i:=i) (by rw[hN.out];exact hi))
 have HPL:=hid (fun i (hi:i≤N)=>chP_len v l t m (i:=i) (by rw[hN.out];exact hi))
 have HPA:Hid ((chP v l t m N).mergeSort (fun x y=>decide (x≤y))=chG v l t m):=hid (by rw[←hN.out,chP_all];rfl)
 have HP0:Hid (chP v l t m 0=[]):=hid rfl
 have HGL:Hid ((chG v l t m).length=N):=hid (by rw[chG_len,hN.out])
 generalize chG v l t m=G at*
 generalize chP v l t m=PP at*
 clear hl2 hu hb hl hN
 go_enter Tryz.func260,Tryz.ntmps260
 go_wp2
 go_loopw [9,14] (fun ov iv wr=>∃i:Nat,i≤N∧iv= .int .i64 i∧OI w.heap.size wr ov (PP i)∧Below w.heap.size w wr) (fun _ iv _=>N-(intOf iv).toNat)
 case atStart=>exact⟨0,Nat.zero_le _,rfl,by rw[HP0.out];exact OI.nil _ _,Below.refl _ _⟩
 case round=>
  obtain⟨i,hi,rfl,ho,hbl⟩:=hrel
  by_cases hiN:i<N
  ·have hii:(i:Int)<(N:Int):=by omega
   obtain⟨b,off,rfl,hbb,hcell⟩:∃b off,a=some ⟨b,off,none⟩∧b<w.heap.size∧∀i,i<N→w.cell? ⟨b,off+i,none⟩=some (.int .i64 ((l.getD i 0:Nat):Int)):=by
    rcases HCELL.out with h|h
    ·omega
    ·exact h
   have c1:=(hbl.cell (p:=⟨b,off+i,none⟩) hbb).trans (hcell i hiN)
   have hx:=HLT.out i hiN
   have HPSI:=hid (HPS.out i hiN)
   have hlen:(PP i).length≤1000000000000:=by rw[HPL.out i hi];omega
   have hsz:=hbl.size
   clear hcell
   generalize l.getD i 0=x at*
   have hmul:(x:Int)*(t:Int)=((x*t:Nat):Int):=(Int.natCast_mul _ _).symm
   have hmb:x*t≤60*60:=Nat.mul_le_mul (by omega) ht
   have hmod:(((x*t:Nat):Int)+(m:Int)).tmod (v:Int)=(((x*t+m)%v:Nat):Int):=by
    rw[show((x*t:Nat):Int)+(m:Int)=((x*t+m:Nat):Int)by omega]
    exact(Int.ofNat_tmod _ _).symm
   have hvz:¬(v:Int)=0:=by omega
   generalize (x*t+m)%v=r at*
   generalize x*t=xt at*
   go_wp2_with (at_builtin;refine wpList_appi wr _ _ 45 rfl rfl Tryz.underlying45 Tryz.info3 w.heap.size _ _ rfl ho rfl hlen hsz ?_;intro g7 c7 w4 hown1 hg1 hg2 hg3)
   have HX:=hid (And.intro (hown1.cast HPSI.out) (ho.grown hbl hg1 hsz))
   clear hown1 hg1 hg2 hg3 ho hbl
   go_roundw
   case rel=>exact⟨i+1,by omega,by go_num,HX.out.1,HX.out.2⟩
   case measure=>simp[intOf]<;>omega
  ·obtain rfl:i=N:=by omega
   have hii:¬(i:Int)<(i:Int):=by omega
   have HB:=hid hbl
   have hpl:=HPL.out i (Nat.le_refl _)
   rcases ho.2 with⟨rfl,h0⟩|⟨g,cap,cur,rfl,hg1,hrest⟩
   ·have HS:=hid (sort_nil wr)
    have hG0:G=[]:=List.eq_nil_of_length_eq_zero (by
     have h1:((PP i).map (Value.int IntKind.i64)).length=(PP i).length:=by simp
     have h2:=HGL.out
     omega)
    subst hG0
    clear ho hbl h0 HPA HGL hpl
    go_wp2_with fail
    refine HS.out.mono ?_
    rintro e w2 ⟨rfl,rfl⟩
    go_wp2
    go_ret
    exact⟨⟨_,rfl,OI.nil _ _⟩,HB.out⟩
   ·have hlm:((PP i).map (Value.int IntKind.i64)).length=i:=by rw[List.length_map,hpl]
    rw[hlm]at ho⊢
    have HS:=hid (sortI_ok (PP i) w.heap.size g cap wr (by rw[hpl];exact ho) (by omega))
    rw[hpl,HPA.out]at HS
    clear ho hbl hrest hlm
    go_wp2_with fail
    refine HS.out.mono ?_
    rintro e w2 ⟨rfl,ho2,hgr⟩
    have HX:=hid (And.intro ho2 (HB.out.grown hgr HB.out.size (fun k e=>by cases e;exact hg1)))
    clear ho2 hgr HS
    go_wp2
    go_ret
    exact⟨⟨_,rfl,HX.out.1⟩,HX.out.2⟩
end Go.Proofs.YtnnaadmegeeinaaGreatDoor
