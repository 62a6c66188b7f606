/-
  Part 35 of a proof: what it proves stands in the last text.
-/
import Derived.Test.YtnnaadmegeeinaaGreatDoorZah
import Derived.Test.YtnnaadmegeeinaaGreatDoorZag
import Derived.Test.YtnnaadmegeeinaaGreatDoorZj
import Derived.Test.YtnnaadmegeeinaaGreatDoorZc
import Derived.Test.YtnnaadmegeeinaaGreatDoorZk
import Derived.Test.YtnnaadmegeeinaaGreatDoorZi
import Derived.Test.YtnnaadmegeeinaaGreatDoorZu
import Derived.Shelf.SlSortCmp.Whole1
import Derived.Test.YtnnaadmegeeinaaGreatDoorZaa
import Derived.RangeFuncWrites
import Derived.RangeFuncBound
import Derived.RangeFuncCalls
import Derived.RangeFuncLeaves
import Derived.Shelf.Abstract
import Derived.WalkKit
import Derived.OwnWalkIn
import Derived.TacticsInMore
import Derived.LoopNIn
import Derived.LoopIn
set_option linter.unusedVariables false
set_option maxHeartbeats 8000000
set_option maxRecDepth 100000
namespace Go.Proofs.YtnnaadmegeeinaaGreatDoor
open Go.RowKit
def elL (n:Nat) (x:Nat→Nat):List Int:=(List.range n).map fun i=>((x i:Nat):Int)
theorem elL_len (n:Nat) (x:Nat→Nat):(elL n x).length=n:=by simp[elL]
theorem elL_get {n:Nat} {x:Nat→Nat} {i:Nat} (h:i<n):(elL n x)[i]?.getD 0=((x i:Nat):Int):=by simp[elL,h]
theorem Sl.elFix {n:Nat} {w:World} {v:Value} {f:Nat→Nat} (h:Sl w v (elL n f)) (hn:0<n):∃b o c,v= .slice (some ⟨b,o,none⟩) n c∧∀w1,Below w.heap.size w w1→∀q,q<n→w1.cell? ⟨b,o+q,none⟩=some (.int .i64 ((f q:Nat):Int)):=by
 obtain⟨a,c,rfl,_,h5⟩:=h.out
 rw[elL_len]at h5⊢
 obtain⟨b,o,rfl,hb,h6⟩:=h5 hn
 refine⟨b,o,c,rfl,fun w1 hb1 q hq=> ?_⟩
 rw[hb1.cell (p:=⟨b,o+q,none⟩) hb,h6 q hq,List.getD_eq_getElem?_getD,elL_get hq]
theorem order_bad (n:Int) (v:Value) (ll:List (List Int)) (w:World) (hl:RL w v ll) (hE:grpE n ll≠0):
 Calls Tryz.prog 43 #[.int .i64 n,v] w fun e w'=>e= .returned (.tuple #[.int .i64 0,.int .i64 (grpE n ll)])∧Below w.heap.size w w':=by
 have HO:=hid (gopen_bad n v ll w hl hE)
 obtain⟨a,c,N,rfl,hN,hc1,hc2⟩:=hl.open
 clear hE hl hc2
 generalize grpE n ll=E at*
 go_enter Tryz.func43,Tryz.ntmps43
 go_wp2_with fail
 refine HO.out.mono ?_
 rintro e w1 ⟨rfl,hb1⟩
 have HB:=hid hb1
 clear hb1
 go_wp2
 go_ret2
 exact⟨rfl,HB.out⟩
theorem order_ok (n:Nat) (v:Value) (ll:List (List Int)) (w:World) (hl:RL w v ll) (hE:grpE (n:Int) ll=0):
 Calls Tryz.prog 43 #[.int .i64 n,v] w fun e w'=>e= .returned (.tuple #[.int .i64 ((GL n (msL n ll)).length:Nat),.int .i64 0])∧Below w.heap.size w w':=by
 have HO:=hid (gopen_ok n v ll w hl hE)
 obtain⟨a,c,N,rfl,hN,hc1,hc2⟩:=hl.open
 clear hE hl hc2
 generalize GL n (msL n ll)=L at*
 go_enter Tryz.func43,Tryz.ntmps43
 go_wp2_with fail
 refine HO.out.mono ?_
 rintro e w1 ⟨⟨s,r,rfl,hs,hr⟩,hb1⟩
 obtain⟨a2,c2,e2⟩:=hr.len
 subst e2
 obtain⟨a3,c3,e3⟩:=hs.len
 subst e3
 have HB:=hid hb1
 clear hb1 hs hr
 go_wp2
 go_ret2
 exact⟨rfl,HB.out⟩
end Go.Proofs.YtnnaadmegeeinaaGreatDoor
namespace Go.Proofs.YtnnaadmegeeinaaGreatDoor
open Go.RowKit Go.Shelf
def ksortRen:Ren:=⟨fun x=>match x with|6=>256|15=>282|14=>285|28=>310|29=>296|20=>312|21=>313|22=>314|23=>315|24=>316|25=>317|26=>318|27=>319|46=>337|47=>333|48=>334|49=>338|50=>339|57=>344|n=>n,fun x=>match x with|22=>46|24=>45|25=>227|3=>3|39=>126|0=>0|53=>160|55=>188|4=>4|46=>278|45=>277|50=>77|5=>5|9=>9|66=>295|70=>299|76=>307|77=>198|n=>n,fun n=>n⟩
theorem ksort:SlLaysF.n6 Tryz.prog ksortRen where
 mixed:=by kernel_rfl
 f6:=⟨(Tryz.f256).name,by kernel_rfl,Tryz.func256.trans (congrArg some (by kernel_rfl))⟩
 f14:=⟨(Tryz.f285).name,by kernel_rfl,Tryz.func285.trans (congrArg some (by kernel_rfl))⟩
 f15:=Tryz.func282.trans (congrArg some (by kernel_rfl))
 f20:=⟨(Tryz.f312).name,by kernel_rfl,Tryz.func312.trans (congrArg some (by kernel_rfl))⟩
 f21:=⟨(Tryz.f313).name,by kernel_rfl,Tryz.func313.trans (congrArg some (by kernel_rfl))⟩
 f22:=⟨(Tryz.f314).name,by kernel_rfl,Tryz.func314.trans (congrArg some (by kernel_rfl))⟩
 f23:=⟨(Tryz.f315).name,by kernel_rfl,Tryz.func315.trans (congrArg some (by kernel_rfl))⟩
 f24:=⟨(Tryz.f316).name,by kernel_rfl,Tryz.func316.trans (congrArg some (by kernel_rfl))⟩
 f25:=⟨(Tryz.f317).name,by kernel_rfl,Tryz.func317.trans (congrArg some (by kernel_rfl))⟩
 f26:=⟨(Tryz.f318).name,by kernel_rfl,Tryz.func318.trans (congrArg some (by kernel_rfl))⟩
 f27:=⟨(Tryz.f319).name,by kernel_rfl,Tryz.func319.trans (congrArg some (by kernel_rfl))⟩
 f28:=Tryz.func310.trans (congrArg some (by kernel_rfl))
 f29:=Tryz.func296.trans (congrArg some (by kernel_rfl))
 f46:=⟨(Tryz.f337).name,by kernel_rfl,Tryz.func337.trans (congrArg some (by kernel_rfl))⟩
 f47:=Tryz.func333.trans (congrArg some (by kernel_rfl))
 f48:=Tryz.func334.trans (congrArg some (by kernel_rfl))
 f49:=⟨(Tryz.f338).name,by kernel_rfl,Tryz.func338.trans (congrArg some (by kernel_rfl))⟩
 f50:=⟨(Tryz.f339).name,by kernel_rfl,Tryz.func339.trans (congrArg some (by kernel_rfl))⟩
 f57:=⟨(Tryz.f344).name,by kernel_rfl,Tryz.func344.trans (congrArg some (by kernel_rfl))⟩
 t0:=Tryz.underlying0
 a0:=Tryz.isAgg0
 z0:=Tryz.sizeOf0
 v0:=Tryz.zeroValue0
 t3:=Tryz.underlying3
 a3:=Tryz.isAgg3
 z3:=Tryz.sizeOf3
 v3:=Tryz.zeroValue3
 t4:=Tryz.underlying4
 a4:=Tryz.isAgg4
 z4:=Tryz.sizeOf4
 v4:=Tryz.zeroValue4
 t5:=Tryz.underlying5
 a5:=Tryz.isAgg5
 z5:=Tryz.sizeOf5
 v5:=Tryz.zeroValue5
 t9:=Tryz.underlying9
 a9:=Tryz.isAgg9
 z9:=Tryz.sizeOf9
 v9:=Tryz.zeroValue9
 t22:=Tryz.underlying46
 a22:=Tryz.isAgg46
 z22:=Tryz.sizeOf46
 v22:=Tryz.zeroValue46
 a24:=Tryz.isAgg45
 z24:=Tryz.sizeOf45
 t25:=Tryz.underlying227
 a25:=Tryz.isAgg227
 z25:=Tryz.sizeOf227
 v25:=Tryz.zeroValue227
 t39:=Tryz.underlying126
 a39:=Tryz.isAgg126
 z39:=Tryz.sizeOf126
 v39:=Tryz.zeroValue126
 t45:=Tryz.underlying277
 a45:=Tryz.isAgg277
 z45:=Tryz.sizeOf277
 v45:=Tryz.zeroValue277
 t46:=Tryz.underlying278
 a46:=Tryz.isAgg278
 z46:=Tryz.sizeOf278
 v46:=Tryz.zeroValue278
 t50:=Tryz.underlying77
 a50:=Tryz.isAgg77
 z50:=Tryz.sizeOf77
 v50:=Tryz.zeroValue77
 t53:=Tryz.underlying160
 a53:=Tryz.isAgg160
 z53:=Tryz.sizeOf160
 v53:=Tryz.zeroValue160
 t55:=Tryz.underlying188
 a55:=Tryz.isAgg188
 z55:=Tryz.sizeOf188
 v55:=Tryz.zeroValue188
 t66:=Tryz.underlying295
 a66:=Tryz.isAgg295
 z66:=Tryz.sizeOf295
 v66:=Tryz.zeroValue295
 t70:=Tryz.underlying299
 a70:=Tryz.isAgg299
 z70:=Tryz.sizeOf299
 v70:=Tryz.zeroValue299
 t76:=Tryz.underlying307
 a76:=Tryz.isAgg307
 z76:=Tryz.sizeOf307
 v76:=Tryz.zeroValue307
 t77:=Tryz.underlying198
 a77:=Tryz.isAgg198
 z77:=Tryz.sizeOf198
 v77:=Tryz.zeroValue198
open Go.Sort Go.Lib
def cfN (n:Nat) (x y:Nat→Nat):Int:=match(List.range n).find? (fun i=> !(x i==y i))with
 |none=>0
 |some i=>if x i<y i then-1 else 1
theorem cfn_none {n:Nat} {x y:Nat→Nat} (h:∀i,i<n→x i=y i):cfN n x y=0:=by
 unfold cfN
 rw[List.find?_eq_none.2 (fun i hi=>by simp[h i (List.mem_range.1 hi)])]
theorem cfn_some {n:Nat} {x y:Nat→Nat} {k:Nat} (hk:k<n) (h:∀i,i<k→x i=y i) (hne:x k≠y k):cfN n x y=if x k<y k then-1 else 1:=by
 unfold cfN
 rw[List.find?_range_eq_some.2 ⟨by simp[hne],List.mem_range.2 hk,fun j hj=>by simp[h j hj]⟩]
theorem cfn_lt (n:Nat) (x y:Nat→Nat):cfN n x y<0↔LexF n x y:=by
 rcases first_diff (f:=x) (g:=y) n with h|⟨k,h1,h2,h3⟩
 ·rw[cfn_none h]
  refine⟨fun h=>by omega,fun⟨i,hi,_,hl⟩=> ?_⟩
  have:=h i hi
  omega
 ·rw[cfn_some h1 h2 h3]
  constructor
  ·intro h
   by_cases hl:x k<y k
   ·exact⟨k,h1,h2,hl⟩
   ·rw[if_neg hl]at h;omega
  ·rintro⟨i,hi,he,hl⟩
   have hik:i=k:=by
    rcases Nat.lt_trichotomy i k with e|e|e
    ·have:=h2 i e;omega
    ·exact e
    ·exact absurd (he k e) h3
   subst hik
   rw[if_pos hl]
   omega
theorem scmpn_ok (n:Nat) (x y:Nat→Nat) (b1 o1 c1 b2 o2 c2:Nat) (w:World) (hn:n≤7) (hx:∀i,i<n→w.cell? ⟨b1,o1+i,none⟩=some (.int .i64 ((x i:Nat):Int))) (hy:∀i,i<n→w.cell? ⟨b2,o2+i,none⟩=some (.int .i64 ((y i:Nat):Int))):
 Calls Tryz.prog 249 #[.slice (some ⟨b1,o1,none⟩) n c1,.slice (some ⟨b2,o2,none⟩) n c2] w fun e w'=>e= .returned (.int .i64 (cfN n x y))∧∃q,w'=w.drewN q:=by
 have HX:=hid hx
 have HY:=hid hy
 have HC:=hid (fun(a b:Int) (w1:World)=>cmpint_ok a b w1)
 have HN:=hid (cfn_none (n:=n) (x:=x) (y:=y))
 have HS:=hid (fun k (hk:k<n) h hne=>cfn_some (x:=x) (y:=y) (k:=k) hk h hne)
 clear hx hy
 generalize cfN n x y=z at*
 go_enter Tryz.func249,Tryz.ntmps249
 go_wp2_with fail
 go_loopw [4,5,6,7,8,11] (fun _ _ _ _ _ i wq=>∃k q:Nat,k≤n∧i= .int .i64 k∧Hid (∀j,j<k→x j=y j)∧wq=w.drewN q) (fun _ _ _ _ _ i _=>n-(intOf i).toNat)
 case atStart=>exact⟨0,0,by omega,rfl,hid (fun j hj=>by omega),rfl⟩
 case round=>
  obtain⟨k,q,hk,rfl,HE,rfl⟩:=hrel
  by_cases hlt:k<n
  ·have hki:(k:Int)<(n:Int):=by omega
   have hki2:¬(n:Int)≤(k:Int):=by omega
   have c1:=HX.out k hlt
   have c2:=HY.out k hlt
   by_cases he:x k=y k
   ·have HE2:Hid (∀j,j<k+1→x j=y j):=hid (fun j hj=>by
     by_cases e:j=k
     ·rw[e];exact he
     ·exact HE.out j (by omega))
    have HCC:=hid (fun w1=>HC.out ((x k:Nat):Int) ((y k:Nat):Int) w1)
    rw[show cmp3 ((x k:Nat):Int) ((y k:Nat):Int)=0 by rw[he];exact cmp3_eq _]at HCC
    clear he
    generalize x k=xk at*
    generalize y k=yk at*
    go_wp2_with fail
    refine(HCC.out _).mono ?_
    rintro e w1 ⟨rfl,rfl⟩
    go_wp2
    go_roundw
    case rel=>exact⟨k+1,q,by omega,by go_num,HE2.out,rfl⟩
    case measure=>simp[intOf]<;>omega
   ·have HCC:=hid (fun w1=>HC.out ((x k:Nat):Int) ((y k:Nat):Int) w1)
    have hz:=HS.out k hlt HE.out he
    rw[cmp3_ne he,←hz]at HCC
    have hz0:(z !=0)=true:=by rw[bne_iff_ne,hz];split<;>decide
    clear he hz
    generalize x k=xk at*
    generalize y k=yk at*
    go_wp2_with fail
    refine(HCC.out _).mono ?_
    rintro e w1 ⟨rfl,rfl⟩
    go_wp2
    go_ret
    exact⟨rfl,q,rfl⟩
  ·have hki:¬(k:Int)<(n:Int):=by omega
   have hz:=HN.out (fun i hi=>HE.out i (by omega))
   have HZ:=hid hz
   clear hz
   go_wp2
   go_ret
   exact⟨by rw[HZ.out];rfl,q,rfl⟩
end Go.Proofs.YtnnaadmegeeinaaGreatDoor
namespace Go.Proofs.YtnnaadmegeeinaaGreatDoor
open Go.RowKit Go.Shelf Go.Sort Go.Lib
section
variable {vs:List Value} {fs:List (Nat→Nat)} {n:Nat}
def kEnc (vs:List Value) (i:Nat):Value:=vs.getD (min i (vs.length-1)) undef
def kFun (fs:List (Nat→Nat)) (i:Nat):Nat→Nat:=fs.getD (min i (fs.length-1)) id
end
theorem heap_sortedE {α:Type} [Inhabited α] (enc:α→Value) {w:World} {g n:Nat} {os:Array Obj} {cur:Array Value} {e:TypeId} {fr:Nat×Nat} (d:Array α) (hb:w.heap[g]? =some (.cells cur e fr)):
 (sortWorld enc w g 0 n d os).heap[g]? =some (.cells (putCells enc 0 d cur) e fr):=by
 have hg:g<w.heap.size:=(Array.getElem?_eq_some_iff.1 hb).1
 unfold sortWorld
 rw[heap_grow_old _ _ (by simpa using hg)]
 simp[putRow,mapBlock,Sort.ahead,Array.getElem?_modify,hb,onCells]
theorem grownBy_sortedE {α:Type} [Inhabited α] (enc:α→Value) {w:World} {g n:Nat} {os:Array Obj} (d:Array α):w.grownBy (sortWorld enc w g 0 n d os) (some g):=by
 unfold sortWorld
 refine⟨rfl,rfl,rfl,by simp,fun k hk hne=> ?_⟩
 rw[heap_grow_old _ _ (by simpa using hk)]
 have:g≠k:=fun e=>hne (by rw[e])
 simp[putRow,mapBlock,Sort.ahead,Array.getElem?_modify,this]
theorem take_putCellsE {α:Type} [Inhabited α] (enc:α→Value) (cur:Array Value) (d:Array α) (h:d.size≤cur.size):(putCells enc 0 d cur).toList.take d.size=d.toList.map enc:=by
 apply List.ext_getElem?
 intro j
 by_cases hj:j<d.size
 ·rw[List.getElem?_take_of_lt hj,Array.getElem?_toList]
  simp[putCells,hj,show j<cur.size by omega]
 ·rw[List.getElem?_take_eq_none (by omega),List.getElem?_eq_none (by simp;omega)]
end Go.Proofs.YtnnaadmegeeinaaGreatDoor
namespace Go.Proofs.YtnnaadmegeeinaaGreatDoor
open Go.RowKit Go.Shelf Go.Sort Go.Lib
theorem t_swo (n:Nat) (fs:List (Nat→Nat)):SWO (ltOf fun i j=>cfN n (kFun fs i) (kFun fs j)) where
 irrefl x:=decide_eq_false (by rw[cfn_lt];exact lex_irrefl n _)
 trans x y z h1 h2:=decide_eq_true ((cfn_lt _ _ _).2 (lex_trans ((cfn_lt _ _ _).1 (of_decide_eq_true h1)) ((cfn_lt _ _ _).1 (of_decide_eq_true h2))))
 ntrans x y z h1 h2:=decide_eq_false (fun h=>lex_ntrans (fun h3=>of_decide_eq_false h1 ((cfn_lt _ _ _).2 h3)) (fun h3=>of_decide_eq_false h2 ((cfn_lt _ _ _).2 h3)) ((cfn_lt _ _ _).1 h))
theorem tcmp_ok (n:Nat) (x y:Nat→Nat) (v u:Value) (w:World) (hn1:1≤n) (hn:n≤7) (hv:Sl w v (elL n x)) (hu:Sl w u (elL n y)):
 Calls Tryz.prog 257 #[v,u] w fun e w'=>e= .returned (.int .i64 (cfN n x y))∧∃q,w'=w.drewN q:=by
 obtain⟨va,vo,vc,rfl,hv1⟩:=hv.elFix (by omega)
 obtain⟨ua,uo,uc,rfl,hu1⟩:=hu.elFix (by omega)
 have HC:=hid (scmpn_ok n x y va vo vc ua uo uc w hn (fun i hi=>hv1 w (Below.refl _ _) i hi) (fun i hi=>hu1 w (Below.refl _ _) i hi))
 clear hv hu hv1 hu1
 generalize cfN n x y=z at*
 go_enter Tryz.func257,Tryz.ntmps257
 go_wp2_with fail
 refine HC.out.mono ?_
 rintro e w1 ⟨rfl,q,rfl⟩
 go_wp2
 go_ret
 exact⟨rfl,_,rfl⟩
theorem tsort_ok (n:Nat) (fs:List (Nat→Nat)) (B U og lc:Nat) (w:World) (hn1:1≤n) (hn:n≤7) (h0:0<fs.length) (hlen:fs.length≤1000000) (h:OL B U w (.slice (some ⟨og,0,none⟩) fs.length lc) (fs.map (elL n))):
 Calls Tryz.prog 256 #[.slice (some ⟨og,0,none⟩) fs.length lc,.func (.func 257) #[] #[]] w fun e w'=>
  e= .returned (.tuple #[])∧∃fs':List (Nat→Nat),fs'.Perm fs∧fs'.Pairwise (fun a b=>¬LexF n b a)∧OL B U w' (.slice (some ⟨og,0,none⟩) fs.length lc) (fs'.map (elL n))∧w.grownBy w' (some og):=by
 obtain⟨vs,o1,o2,o3,o4⟩:=h
 rw[List.length_map]at o3 o4
 have hvl:vs.length=fs.length:=o3
 rcases o1.2 with⟨h1,_⟩|⟨g,cap,cur,hv,hbase,hb,hnc,hcap,hcs,ht⟩
 ·cases h1
 obtain⟨rfl,_,rfl⟩:og=g∧fs.length=vs.length∧lc=cap:=by simpa using hv
 have hgt:∀i,i<fs.length→(fs.map (elL n)).getD i []=elL n (fs.getD i id):=fun i hi=>by simp[hi]
 have eg:∀args w,(callFunc 257 args).run Tryz.prog w= .ok (.enter 257 args) w:=enters_of Tryz.func257 (by kernel_rfl) rfl
 have hcell:∀j,j<fs.length→w.cell? ⟨og,j,none⟩=vs[j]? :=fun j hj=>o1.cell j (by omega)
 have henc:∀j,j<fs.length→kEnc vs j=vs.getD j undef:=fun j hj=>by unfold kEnc;rw[show min j (vs.length-1)=j by omega]
 have hH:Holds (kEnc vs) w og 0 (Array.range fs.length):=by
  intro j hj
  have hj':j<fs.length:=by simpa using hj
  refine⟨?_,by rw[Nat.zero_add];exact o1.frozen j⟩
  rw[Nat.zero_add,hcell j hj',getElem!_pos _ j hj,Array.getElem_range,henc j hj',List.getD_eq_getElem?_getD,List.getElem?_eq_getElem (by omega)]
  rfl
 have hoc:∀x:Nat,(kEnc vs x).oneCell'=true:=fun x=>by
  unfold kEnc
  have hlt:min x (vs.length-1)<fs.length:=by omega
  have:=(o4 _ hlt).1
  obtain⟨a,c,e⟩:=this.len
  rw[e]
  rfl
 have key:=Any.slices_SortFunc ksort (kEnc vs) hoc (fun i j=>cfN n (kFun fs i) (kFun fs j)) (t_swo n fs) 257 #[] og 0 lc (Array.range fs.length) w eg (CmpReads.lays fun m os dk hs x y=>by
  have hg:=grownBy_sortedE (kEnc vs) (w:=w) (g:=og) (n:=m) (os:=os) dk
  have hrd:∀x,Sl (sortWorld (kEnc vs) w og 0 m dk os) (kEnc vs x) (elL n (kFun fs x)):=fun x=>by
   have hlt:min x (vs.length-1)<fs.length:=by omega
   have h5:=(o4 _ hlt).1
   rw[hgt _ hlt]at h5
   have h6:=h5.kept hg (by
    have:=ow_apart o1 h5
    simpa [Value.ownBlock]using this)
   unfold kEnc kFun
   rw[show min x (fs.length-1)=min x (vs.length-1)by omega]
   exact h6.sl (by rw[elL_len];omega)
  exact tcmp_ok n (kFun fs x) (kFun fs y) _ _ _ hn1 hn (hrd x) (hrd y)) hH (Array.getElem?_eq_some_iff.1 hb).1 (by simp;omega)
 rw[show(Array.range fs.length).size=fs.length by simp]at key
 have key2:Calls Tryz.prog 256 #[.slice (some ⟨og,0,none⟩) fs.length lc,.func (.func 257) #[] #[]] w _:=key
 refine key2.mono ?_
 rintro e w' ⟨rfl,d',m,os,⟨hps,_,hpp⟩,hs,rfl⟩
 have hd:d'.size=fs.length:=by rw[hps];simp
 have hperm:d'.toList.Perm (List.range fs.length):=by
  rw[Array.extract_eq_self_of_le (by omega),Array.extract_eq_self_of_le (by simp)]at hpp
  simpa using hpp
 have hlt:∀i∈d'.toList,i<fs.length:=fun i hi=>List.mem_range.1 (hperm.mem_iff.1 hi)
 have hg:=grownBy_sortedE (kEnc vs) (w:=w) (g:=og) (n:=m) (os:=os) d'
 have hrange:(List.range fs.length).map (kFun fs)=fs:=by
  refine List.ext_getElem? fun i=> ?_
  by_cases hi:i<fs.length
  ·rw[List.getElem?_map,List.getElem?_range hi,Option.map_some,List.getElem?_eq_getElem hi]
   unfold kFun
   rw[show min i (fs.length-1)=i by omega,List.getD_eq_getElem?_getD,List.getElem?_eq_getElem hi]
   rfl
  ·rw[List.getElem?_eq_none (by simp;omega),List.getElem?_eq_none (by omega)]
 refine⟨rfl,d'.toList.map (kFun fs),?_,?_,?_,hg⟩
 ·have:=hperm.map (kFun fs)
  rwa [hrange]at this
 ·rw[List.pairwise_map,List.pairwise_iff_getElem]
  intro i j hi hj hij
  have h3:=hs i j (Nat.zero_le _) hij (by simp at hj;omega)
  have hi':i<d'.size:=by simpa using hi
  have hj':j<d'.size:=by simpa using hj
  rw[getElem!_pos _ i hi',getElem!_pos _ j hj']at h3
  have h4:=of_decide_eq_false h3
  rw[cfn_lt]at h4
  simpa using h4
 ·refine⟨d'.toList.map (kEnc vs),?_,o2,by simp[hd],fun i hi=> ?_⟩
  ·have hfll:(d'.toList.map (kEnc vs)).length=fs.length:=by simp[hd]
   unfold Ow
   rw[hfll]
   refine⟨by rw[hfll];omega,.inr ⟨og,lc,_,rfl,hbase,heap_sortedE _ d' hb,by omega,hcap,by simp[putCells,hcs],?_⟩⟩
   rw[Nat.mul_one,←hd]
   exact take_putCellsE (kEnc vs) cur d' (by rw[hd,hcs];omega)
  ·have hi':i<d'.size:=by simpa using hi
   have hx:=hlt (d'.toList[i]'(by simpa using hi')) (List.getElem_mem _)
   have e1:(d'.toList.map (kEnc vs)).getD i undef=vs.getD (d'.toList[i]'(by simpa using hi')) undef:=by
    rw[List.getD_eq_getElem?_getD,List.getElem?_map,List.getElem?_eq_getElem (by simpa using hi')]
    exact henc _ hx
   have e2:((d'.toList.map (kFun fs)).map (elL n)).getD i []=elL n (fs.getD (d'.toList[i]'(by simpa using hi')) id):=by
    rw[List.getD_eq_getElem?_getD,List.getElem?_map,List.getElem?_map,List.getElem?_eq_getElem (by simpa using hi')]
    show elL n (kFun fs _)=_
    unfold kFun
    rw[show min (d'.toList[i]'(by simpa using hi')) (fs.length-1)=d'.toList[i]'(by simpa using hi')by omega]
   rw[e1,e2]
   obtain⟨h5,h6⟩:=o4 _ hx
   rw[hgt _ hx]at h5
   exact⟨h5.kept hg (by
    have:=ow_apart o1 h5
    simpa [Value.ownBlock]using this),h6⟩
end Go.Proofs.YtnnaadmegeeinaaGreatDoor
namespace Go.Proofs.YtnnaadmegeeinaaGreatDoor
open Go.RowKit
attribute [local go_sem] Oper.semAt_some
structure CKeep (B:Nat) (W W':World):Prop where
 size:W.heap.size≤W'.heap.size
 same:∀(k:Nat) (o:Obj),B≤k→W.heap[k]? =some o→o.isCells=true→W'.heap[k]? =some o
theorem CKeep.refl (B:Nat) (W:World):CKeep B W W:=⟨Nat.le_refl _,fun _ _ _ h _=>h⟩
theorem CKeep.trans {B:Nat} {X Y Z:World} (h:CKeep B X Y) (k:CKeep B Y Z):CKeep B X Z:=⟨Nat.le_trans h.size k.size,fun i o hB hi ho=>k.same i o hB (h.same i o hB hi ho) ho⟩
theorem CKeep.drew {B:Nat} {X Y:World} (h:CKeep B X Y):CKeep B X Y.drew:=⟨h.size,h.same⟩
theorem cells_of_cell {W:World} {a:Addr} {v:Value} (h:W.cell? a=some v):∃o:Obj,W.heap[a.block]? =some o∧o.isCells=true:=by
 unfold World.cell? at h
 cases ho:W.heap[a.block]? with
 |none=>simp[ho]at h
 |some o=>exact⟨o,rfl,by cases o<;>simp_all [Obj.isCells]⟩
theorem CKeep.cell {B:Nat} {W W':World} {p:Addr} {v:Value} (h:CKeep B W W') (hb:B≤p.block) (hc:W.cell? p=some v):W'.cell? p=some v:=by
 obtain⟨o,ho,h2⟩:=cells_of_cell hc
 exact(World.cell?_of_block ((h.same _ o hb ho h2).trans ho.symm)).trans hc
theorem CKeep.put {B:Nat} (W:World) (l:Nat) (o o':Obj) (h:W.heap[l]? =some o) (hc:o.isCells=false):CKeep B W (W.putObj l o'):=
 ⟨by simp,fun k o2 hk h2 h3=>by
   have e:k≠l:=by
    rintro rfl
    rw[h]at h2
    cases h2
    rw[hc]at h3
    cases h3
   exact(World.putObj_heap_other e).trans h2⟩
theorem CKeep.setCell {B:Nat} (W:World) (a:Addr) (v:Value) (h:a.block<B):CKeep B W (W.setCell a v):=
 ⟨by show W.heap.size≤(W.heap.modify _ _).size;rw[Array.size_modify];exact Nat.le_refl _,fun k o hk h2 h3=>(Below.heap_setCell W a v k (by omega)).trans h2⟩
theorem room_wide (k:Nat):Fence.wide.room k:=fun d h=>by cases h
theorem RoundIn.wide {m m':Nat} {P:Program} {l:Nat} {f:FuncId} {tmps:Array Value} {assign body:Code} {w:World} {R:Ending→World→Prop}
 (h:RoundIn Fence.wide m P l f tmps assign body w R):RoundIn Fence.wide m' P l f tmps assign body w R:=⟨h.1,fun c cs _=>h.2 c cs (room_wide _)⟩
theorem YieldAt.wide {m:Nat} (m':Nat) {P:Program} {l:Nat} {args:Array Value} {W:World} {R:Ending→World→Prop} (h:YieldAt Fence.wide m P l args W R):YieldAt Fence.wide m' P l args W R:=by
 obtain⟨fn,tmps,assign,body,hy,hR⟩:=h
 exact⟨fn,tmps,assign,body,hy,RoundIn.wide hR⟩
structure ChB (B l P yb pb cb:Nat) (W:World):Prop where
 y:W.cell? ⟨yb,0,none⟩=some (.func (.yield l) #[] #[])
 p:W.cell? ⟨pb,0,none⟩=some (.int .i64 P)
 c:W.cell? ⟨cb,0,none⟩=some (.func (.func 254) #[] #[.pointer (some ⟨yb,0,none⟩),.pointer (some ⟨pb,0,none⟩),.pointer (some ⟨cb,0,none⟩)])
 by_:B≤yb
 bp:B≤pb
 bc:B≤cb
theorem ChB.keep {B l P yb pb cb:Nat} {W W':World} (h:ChB B l P yb pb cb W) (k:CKeep B W W'):ChB B l P yb pb cb W':=
 ⟨k.cell h.by_ h.y,k.cell h.bp h.p,k.cell h.bc h.c,h.by_,h.bp,h.bc⟩
def ChPost (B:Nat) (J Jx:List Nat→World→Prop) (pre all:List Nat) (W:World) (e:Ending) (W':World):Prop:=
 (e= .returned (.bool true)∧J (pre++all) W'∧CKeep B W W')∨(e= .returned (.bool false)∧∃q,q<+:all∧Jx (pre++q) W')
theorem choose_in (B l P yb pb cb N:Nat) (hP:P≤40) (J Jx:List Nat→World→Prop) (hJd:∀pre W,J pre W→J pre W.drew)
 (hY:∀pre x W,x<2^40→J pre W→pre.length<N→YieldAt Fence.wide 0 Tryz.prog l #[mskV x] W fun e W'=>(e= .returned (.bool true)∧J (pre++[x]) W'∧CKeep B W W')∨(e= .returned (.bool false)∧Jx (pre++[x]) W')):
 ∀(t a s:Nat) (pre:List Nat) (W:World),a≤P→t≤4→s<2^40→ChB B l P yb pb cb W→J pre W→pre.length+(chL P t a s).length≤N→
  Calls Tryz.prog 254 #[.int .i64 a,.int .i64 t,mskV s,.pointer (some ⟨yb,0,none⟩),.pointer (some ⟨pb,0,none⟩),.pointer (some ⟨cb,0,none⟩)] W (ChPost B J Jx pre (chL P t a s) W):=by
 intro t
 induction t with
 |zero=>
  intro a s pre W ha ht hs hb hJ hN
  have hy2:=hY pre s W hs hJ (by unfold chL at hN;simp at hN;omega)
  have c1:=hb.y
  obtain⟨fn,tmps,assign,body,hy,hR⟩:=hy2
  have HR:=hid hR
  clear hY hR hJd hb hJ
  refine callsIn_wide.1 (callsIn_of_wp (F:=Fence.wide) (n:=0) Tryz.func254 rfl trivial ?_ rfl)
  simp only[Tryz.ntmps254,List.size_toArray,List.length_cons,List.length_nil,Nat.reduceAdd,Nat.reduceSub,Array.replicate_succ,Array.replicate_zero,List.push_toArray,List.append_toArray,List.nil_append,List.cons_append]
  unfold mskV at*
  gi_wp2
  refine⟨rfl,HR.out.mono ?_⟩
  rintro e W2 (⟨rfl,h1,h2⟩|⟨rfl,h1⟩)
  ·have H:=hid (And.intro h1 h2)
   clear h1 h2
   gi_wp2
   go_ret
   exact .inl ⟨rfl,by rw[chL];exact H.out.1,H.out.2⟩
  ·have H:=hid h1
   clear h1
   gi_wp2
   go_ret
   exact .inr ⟨rfl,[s],by rw[chL];exact List.prefix_refl _,H.out⟩
 |succ t ih=>
  intro a s pre W ha ht hs hb hJ hN
  have hlen:∀d,d<P-t-a→pre.length+((List.range d).flatMap fun d=>chL P t (a+d+1) (s|||2^(a+d))).length+(chL P t (a+d+1) (s|||2^(a+d))).length≤N:=fun d hd=>by
   have:=chL_len (f:=fun d=>chL P t (a+d+1) (s|||2^(a+d))) hd
   unfold chL at hN
   omega
  have hpre:∀d q,d<P-t-a→q<+:chL P t (a+d+1) (s|||2^(a+d))→((List.range d).flatMap fun d=>chL P t (a+d+1) (s|||2^(a+d)))++q<+:chL P (t+1) a s:=fun d q hd hq=>by
   rw[chL]
   exact chL_pre1 (f:=fun d=>chL P t (a+d+1) (s|||2^(a+d))) hd hq
  have hsn:∀d,((List.range (d+1)).flatMap fun d=>chL P t (a+d+1) (s|||2^(a+d)))=((List.range d).flatMap fun d=>chL P t (a+d+1) (s|||2^(a+d)))++chL P t (a+d+1) (s|||2^(a+d)):=fun d=>chL_snoc _ d
  have hend:((List.range (P-t-a)).flatMap fun d=>chL P t (a+d+1) (s|||2^(a+d)))=chL P (t+1) a s:=by rw[chL]
  have hIH:∀d,d<P-t-a→∀W1,CKeep B W W1→J (pre++(List.range d).flatMap fun d=>chL P t (a+d+1) (s|||2^(a+d))) W1→
   Calls Tryz.prog 254 #[Value.int .i64 (IntKind.i64.wrap (((a+d:Nat):Int)+1)),.int .i64 (IntKind.i64.wrap (t:Int)),.int .u64 (bits .or .u64 (s:Int) (IntKind.u64.wrap ((2:Int)^(a+d)))),.pointer (some ⟨yb,0,none⟩),.pointer (some ⟨pb,0,none⟩),.pointer (some ⟨cb,0,none⟩)] W1.drew (fun e W'=>
    ∃b:Bool,e= .returned (.bool b)∧((b=true∧J (pre++(List.range (d+1)).flatMap fun d=>chL P t (a+d+1) (s|||2^(a+d))) W'∧CKeep B W W')∨(b=false∧∃q,q<+:chL P (t+1) a s∧Jx (pre++q) W'))):=by
   intro d hd W1 hk hj
   have h2x:2^(a+d)<2^40:=Nat.pow_lt_pow_right (by decide) (by omega)
   have h40:2^40=1099511627776:=by decide
   have hor:=u64_or_nat s (2^(a+d)) (by omega) (by omega)
   have hlt:s|||2^(a+d)<2^40:=Nat.or_lt_two_pow hs h2x
   have h:=ih (a+d+1) (s|||2^(a+d)) (pre++(List.range d).flatMap fun d=>chL P t (a+d+1) (s|||2^(a+d))) W1.drew (by omega) (by omega) hlt (hb.keep hk.drew) (hJd _ _ hj) (by rw[List.length_append];exact hlen d hd)
   rw[IntWalk.i64_in (((a+d:Nat):Int)+1) (by omega),IntWalk.i64_in (t:Int) (by omega),ds_shl (p:=a+d) (by omega),hor,show(((a+d:Nat):Int)+1)=((a+d+1:Nat):Int)by norm_cast]
   refine h.mono ?_
   rintro e W2 (⟨rfl,h1,h2⟩|⟨rfl,q,h1,h2⟩)
   ·exact⟨true,rfl,.inl ⟨rfl,by rw[hsn,←List.append_assoc];exact h1,hk.trans ⟨h2.size,h2.same⟩⟩⟩
   ·exact⟨false,rfl,.inr ⟨rfl,_,hpre d q hd h1,by rw[←List.append_assoc];exact h2⟩⟩
  have HIH:=hid hIH
  have HEN:=hid hend
  have HB:=hid hb
  have H0:Hid (J (pre++(List.range 0).flatMap fun d=>chL P t (a+d+1) (s|||2^(a+d))) W):=hid (by simpa using hJ)
  clear hlen hpre hsn hend hIH ih hY hN hJ
  generalize chL P (t+1) a s=ALL at*
  obtain⟨G,hG⟩:∃G:Nat→List Nat,G=fun d=>pre++(List.range d).flatMap fun d=>chL P t (a+d+1) (s|||2^(a+d)):=⟨_,rfl⟩
  have HE:Hid (G (P-t-a)=pre++ALL):=hid (by rw[hG,←HEN.out])
  have HI:Hid (∀d,d<P-t-a→∀W1,CKeep B W W1→J (G d) W1→
   Calls Tryz.prog 254 #[Value.int .i64 (IntKind.i64.wrap (((a+d:Nat):Int)+1)),.int .i64 (IntKind.i64.wrap (t:Int)),.int .u64 (bits .or .u64 (s:Int) (IntKind.u64.wrap ((2:Int)^(a+d)))),.pointer (some ⟨yb,0,none⟩),.pointer (some ⟨pb,0,none⟩),.pointer (some ⟨cb,0,none⟩)] W1.drew (fun e W'=>
    ∃b:Bool,e= .returned (.bool b)∧((b=true∧J (G (d+1)) W'∧CKeep B W W')∨(b=false∧∃q,q<+:ALL∧Jx (pre++q) W')))):=hid (by rw[hG];exact HIH.out)
  have H1:Hid (J (G 0) W):=hid (by rw[hG];exact H0.out)
  clear hG HIH HEN H0 hb hJd
  obtain⟨T,hT⟩:∃T,t+1=T:=⟨_,rfl⟩
  rw[hT]
  have hti:((T:Int)==0)=false:=by rw[beq_eq_false_iff_ne];omega
  have hsub:(T:Int)-1=t:=by omega
  have HT:=hid hT
  have hT4:T≤4:=by omega
  clear hT ht
  unfold mskV
  go_enter Tryz.func254,Tryz.ntmps254
  go_wp2
  go_loopw [10] (fun iv wr=>∃d:Nat,d≤P-t-a∧iv= .int .i64 ((a+d:Nat):Int)∧Hid (J (G d) wr)∧Hid (CKeep B W wr)) (fun iv _=>P+1-(intOf iv).toNat)
  case atStart=>exact⟨0,Nat.zero_le _,rfl,H1,hid (CKeep.refl _ _)⟩
  case round=>
   obtain⟨d,hd,rfl,HJ,HK⟩:=hrel
   have c4:=(HB.out.keep HK.out).p
   by_cases hlt:d<P-t-a
   ·have hle:((a+d:Nat):Int)≤(P:Int)-(T:Int):=by have:=HT.out;omega
    have c5:=(HB.out.keep HK.out).c
    have c5d:wr.drew.cell? ⟨cb,0,none⟩=_:=c5
    have HC:=hid (HI.out d hlt wr HK.out HJ.out)
    have hx40:a+d<40:=by omega
    have HX:Hid (a+(d+1)=a+d+1):=hid rfl
    clear HI hti
    generalize a+d=x at*
    go_wp2
    go_region_law (first|(go_simp;go_at_call 254;refine HC.out.mono ?_;rintro e w2 ⟨bv,rfl,hbv⟩))
    rcases hbv with⟨rfl,h1,h2⟩|⟨rfl,h1⟩
    ·have H:=hid (And.intro h1 h2)
     clear h1 h2 HC c5d
     go_wp2
     go_roundw
     case rel=>exact⟨d+1,by omega,by rw[HX.out];go_num,hid H.out.1,hid H.out.2⟩
     case measure=>simp[intOf]<;>omega
    ·have H:=hid h1
     clear h1 HC c5d
     go_wp2
     go_ret
     exact .inr ⟨rfl,H.out⟩
   ·have hle:¬((a+d:Nat):Int)≤(P:Int)-(T:Int):=by have:=HT.out;omega
    have HGD:Hid (J (pre++ALL) wr):=hid (by rw[←HE.out,show P-t-a=d by omega];exact HJ.out)
    have hx90:a+d<90:=by omega
    clear HI hlt HJ
    generalize a+d=x at*
    go_wp2
    go_ret
    exact .inl ⟨rfl,HGD.out,HK.out⟩
abbrev Msk:={s:Nat//s<2^40}
def mkV (l:List Msk):List Nat:=l.map Subtype.val
theorem mkV_snoc (l:List Msk) (x:Msk):mkV (l++[x])=mkV l++[x.1]:=by simp[mkV]
theorem choices_stops (B P pb tb T:Nat) (w:World) (hP:P≤40) (hT:T≤4) (hp:w.cell? ⟨pb,0,none⟩=some (.int .i64 P)) (ht:w.cell? ⟨tb,0,none⟩=some (.int .i64 T)) (hB:B≤pb∧pb<w.heap.size∧B≤tb∧tb<w.heap.size) (N:Nat) (hN:(chL P T 0 0).length≤N) (n:Nat):
 SeqStopsK Fence.wide n Tryz.prog 253 #[.pointer (some ⟨pb,0,none⟩),.pointer (some ⟨tb,0,none⟩)] (fun s:Msk=> #[mskV s.1]) (CKeep B) (fun ys=>mkV ys=chL P T 0 0) (fun q=>mkV q<+:chL P T 0 0) N w:=by
 intro l J0 Jx0 W hW hJ hJx hY h0
 refine callsIn_wide.2 ?_
 show Calls _ _ #[.func (.yield l) #[] #[],.pointer (some ⟨pb,0,none⟩),.pointer (some ⟨tb,0,none⟩)] W _
 obtain⟨J,HJE⟩:∃J:List Nat→World→Prop,Hid (J=fun l V=>∃m,mkV m=l∧J0 m V):=⟨_,hid rfl⟩
 obtain⟨Jx,HJX⟩:∃Jx:List Nat→World→Prop,Hid (Jx=fun l V=>∃m,mkV m=l∧Jx0 m V):=⟨_,hid rfl⟩
 have hs:=hW.size
 have cp:W.cell? ⟨pb,0,none⟩=some (.int .i64 P):=(hW.cell (p:=⟨pb,0,none⟩) hB.2.1).trans hp
 have ct:W.cell? ⟨tb,0,none⟩=some (.int .i64 T):=(hW.cell (p:=⟨tb,0,none⟩) hB.2.2.2).trans ht
 have HJD:Hid (∀V,Below W.heap.size W V→J [] V):=hid (fun V h=>by
  rw[HJE.out]
  exact⟨[],rfl,hJ _ _ _ none h0 ⟨h.os,h.tape,h.output,h.size,fun k hk _=>h.block k hk⟩ (fun r e=>by cases e)⟩)
 have hJd:∀pre V,J pre V→J pre V.drew:=fun pre V h=>by
  rw[HJE.out]at h⊢
  obtain⟨m,e,h⟩:=h
  exact⟨m,e,hJ _ _ _ none h ⟨rfl,rfl,rfl,Nat.le_refl _,fun _ _ _=>rfl⟩ (fun r e=>by cases e)⟩
 have hY2:∀pre x V,x<2^40→J pre V→pre.length<N→YieldAt Fence.wide 0 Tryz.prog l #[mskV x] V fun e W'=>(e= .returned (.bool true)∧J (pre++[x]) W'∧CKeep B V W')∨(e= .returned (.bool false)∧Jx (pre++[x]) W'):=fun pre x V hx hj hl=>by
  rw[HJE.out]at hj
  obtain⟨m,e,h⟩:=hj
  refine YieldAt.mono (YieldAt.wide 0 (hY m ⟨x,hx⟩ V h (by rw[←e]at hl;simpa [mkV]using hl))) fun e2 W' h2=> ?_
  rw[HJE.out,HJX.out]
  rcases h2 with⟨q1,q2,q3⟩|⟨q1,q2⟩
  ·exact .inl ⟨q1,⟨_,by rw[mkV_snoc,e],q2⟩,q3⟩
  ·exact .inr ⟨q1,⟨_,by rw[mkV_snoc,e],q2⟩⟩
 have HC:=hid (fun V hV h1 h2=>choose_in B l P W.heap.size pb (W.heap.size+1) N hP J Jx hJd hY2 T 0 0 [] V (Nat.zero_le _) hT (by decide) ⟨h1,(hV.cell (p:=⟨pb,0,none⟩) (by show pb<_;omega)).trans cp,h2,by omega,hB.1,by omega⟩ (HJD.out V hV) (by simpa using hN))
 clear hJ hJx hY h0 hJd hY2
 have hst:∀(a:Addr) (fn:Fn) (x y:Array Value) (w:World),(store a (.func fn x y)).run Tryz.prog w=stored Tryz.prog w a (.func fn x y) .plain:=fun a fn x y w=>run_store _ w a _ _ rfl
 have HB2:=hid (fun(o1 o2:Obj)=>show Below W.heap.size W ((W.alloc o1).alloc o2)from((Below.refl _ _).alloc (Nat.le_refl _) _).alloc (by simp) _)
 have ct2:∀o1 o2,((W.alloc o1).alloc o2).cell? ⟨tb,0,none⟩=some (.int .i64 T):=fun o1 o2=>((HB2.out o1 o2).cell (p:=⟨tb,0,none⟩) (by show tb<_;omega)).trans ct
 have HY2:=hid (fun(u v:Value) (t1 t2:TypeId)=>show((W.alloc (.cells #[u] t1)).alloc (.cells #[v] t2)).cell? ⟨W.heap.size,0,none⟩=some u∧((W.alloc (.cells #[u] t1)).alloc (.cells #[v] t2)).cell? ⟨W.heap.size+1,0,none⟩=some v from
  ⟨(((Below.refl _ _).alloc (Nat.le_refl _) _).cell (p:=⟨W.heap.size,0,none⟩) (by simp)).trans (lit_cell _ _ _),by
    have:=lit_cell (W.alloc (.cells #[u] t1)) v t2
    rwa [World.size_alloc]at this⟩)
 have h1:=HC.out
 unfold mskV at h1
 rw[show((0:Nat):Int)=0 from rfl]at h1
 have HC1:=hid h1
 clear h1 HC
 go_enter Tryz.func253,Tryz.ntmps253
 go_wp2_with (go_at_call 254;refine(HC1.out _ (HB2.out _ _) (HY2.out _ _ _ _).1 (HY2.out _ _ _ _).2).mono ?_;rintro e w2 (⟨rfl,h1,h2⟩|⟨rfl,q,h1,h2⟩))
 ·have H:=hid h1
  clear h1 h2
  go_end0
  have h3:=H.out
  rw[HJE.out]at h3
  obtain⟨m,e,h3⟩:=h3
  exact⟨⟨_,rfl⟩,.inl ⟨m,by simpa using e,h3⟩⟩
 ·have H:=hid (And.intro h1 h2)
  clear h1 h2
  go_end0
  have h3:=H.out.2
  rw[HJX.out]at h3
  obtain⟨m,e,h3⟩:=h3
  exact⟨⟨_,rfl⟩,.inr ⟨m,by rw[show mkV m=q by simpa using e];exact H.out.1,h3⟩⟩
theorem choices_any (P T:Nat) (w:World):
 Calls Tryz.prog 204 #[.int .i64 P,.int .i64 T] w fun e w'=>e= .returned (.func (.func 253) #[] #[.pointer (some ⟨w.heap.size,0,none⟩),.pointer (some ⟨w.heap.size+1,0,none⟩)])∧w'=(w.alloc (.cells #[.int .i64 P] 3)).alloc (.cells #[.int .i64 T] 3):=by
 go_enter Tryz.func204,Tryz.ntmps204
 go_wp2
 go_ret
 exact⟨rfl,rfl⟩
end Go.Proofs.YtnnaadmegeeinaaGreatDoor
