/-
  Part 21 of a proof: what it proves stands in the last text.
-/
import Derived.Test.YtnnaadmegeeinaaGreatDoorZi
import Derived.Test.YtnnaadmegeeinaaGreatDoorZm
import Derived.DeepKeys4
import Derived.Test.YtnnaadmegeeinaaGreatDoorZl
import Derived.Sort.Grow
import Derived.Deep.RegionWith
import Derived.Test.YtnnaadmegeeinaaGreatDoorZr
import Derived.Test.YtnnaadmegeeinaaGreatDoorZf
import Derived.ArgAppend
import Derived.Deep.CutRange
set_option linter.unusedVariables false
set_option maxHeartbeats 8000000
set_option maxRecDepth 100000
namespace Go.Proofs.YtnnaadmegeeinaaGreatDoor
open Go.RowKit Go.Maps
theorem tm_of {n:Int} (h:tmB n=true):∃m:Nat,n=(m:Int)∧2≤m∧m≤16∧m%2=0:=by
 unfold tmB at h
 rw[decide_eq_true_iff]at h
 exact⟨n.toNat,by omega,by omega,by omega,by omega⟩
end Go.Proofs.YtnnaadmegeeinaaGreatDoor
namespace Go.Proofs.YtnnaadmegeeinaaGreatDoor
open Go.RowKit
def cmp3 (x y:Int):Int:=if x<y then-1 else if y<x then 1 else 0
theorem isnan_ok (x:Int) (w:World):
 Calls Tryz.prog 311 #[.int .i64 x] w fun e w'=>e= .returned (.bool false)∧w=w':=by
 have h:(x !=x)=false:=by simp
 go_enter Tryz.func311,Tryz.ntmps311
 go_wp2
 go_ret
 exact⟨rfl,rfl⟩
theorem cmpint_ok (x y:Int) (w:World):
 Calls Tryz.prog 283 #[.int .i64 x,.int .i64 y] w fun e w'=>e= .returned (.int .i64 (cmp3 x y))∧w=w':=by
 have HX:=hid (fun w1=>isnan_ok x w1)
 have HY:=hid (fun w1=>isnan_ok y w1)
 have HC:Hid (cmp3 x y=if x<y then-1 else if y<x then 1 else 0):=hid rfl
 generalize cmp3 x y=z at*
 by_cases h1:x<y
 ·obtain rfl:z= -1:=by rw[HC.out,if_pos h1]
  go_enter Tryz.func283,Tryz.ntmps283
  go_wp2_with fail
  refine(HX.out _).mono ?_
  rintro e w1 ⟨rfl,rfl⟩
  go_wp2_with fail
  refine(HY.out _).mono ?_
  rintro e w1 ⟨rfl,rfl⟩
  go_wp2
  go_ret
  exact⟨rfl,rfl⟩
 ·by_cases h2:y<x
  ·obtain rfl:z=1:=by rw[HC.out,if_neg h1,if_pos h2]
   go_enter Tryz.func283,Tryz.ntmps283
   go_wp2_with fail
   refine(HX.out _).mono ?_
   rintro e w1 ⟨rfl,rfl⟩
   go_wp2_with fail
   refine(HY.out _).mono ?_
   rintro e w1 ⟨rfl,rfl⟩
   go_wp2
   go_ret
   exact⟨rfl,rfl⟩
  ·obtain rfl:z=0:=by rw[HC.out,if_neg h1,if_neg h2]
   go_enter Tryz.func283,Tryz.ntmps283
   go_wp2_with fail
   refine(HX.out _).mono ?_
   rintro e w1 ⟨rfl,rfl⟩
   go_wp2_with fail
   refine(HY.out _).mono ?_
   rintro e w1 ⟨rfl,rfl⟩
   go_wp2
   go_ret
   exact⟨rfl,rfl⟩
def cfF (x y:Nat→Nat):Int:=match(List.range 7).find? (fun i=> !(x i==y i))with
 |none=>0
 |some i=>if x i<y i then-1 else 1
theorem cf_none {x y:Nat→Nat} (h:∀i,i<7→x i=y i):cfF x y=0:=by
 unfold cfF
 rw[List.find?_eq_none.2 (fun i hi=>by simp[h i (List.mem_range.1 hi)])]
theorem cf_some {x y:Nat→Nat} {k:Nat} (hk:k<7) (h:∀i,i<k→x i=y i) (hne:x k≠y k):cfF x y=if x k<y k then-1 else 1:=by
 unfold cfF
 rw[List.find?_range_eq_some.2 ⟨by simp[hne],List.mem_range.2 hk,fun j hj=>by simp[h j hj]⟩]
theorem cmp3_ne {a b:Nat} (h:a≠b):cmp3 (a:Int) (b:Int)=if a<b then-1 else 1:=by
 unfold cmp3
 by_cases h1:a<b
 ·rw[if_pos (by omega),if_pos h1]
 ·rw[if_neg (by omega),if_pos (by omega),if_neg h1]
theorem cmp3_eq (a:Int):cmp3 a a=0:=by
 unfold cmp3
 rw[if_neg (by omega),if_neg (by omega)]
theorem scmp_ok (x y:Nat→Nat) (b1 b2:Nat) (w:World) (hx:w.rangeAt b1 0 (mvC x)) (hy:w.rangeAt b2 0 (mvC y)):
 Calls Tryz.prog 249 #[.slice (some ⟨b1,0,none⟩) 7 7,.slice (some ⟨b2,0,none⟩) 7 7] w fun e w'=>e= .returned (.int .i64 (cfF x y))∧∃q,w'=w.drewN q:=by
 have HX:Hid (∀i,i<7→w.cell? ⟨b1,i,none⟩=some (.int .i64 ((x i:Nat):Int))):=hid (fun i hi=>by
  have:=hx i _ (mvC_get hi)
  rwa [Nat.zero_add]at this)
 have HY:Hid (∀i,i<7→w.cell? ⟨b2,i,none⟩=some (.int .i64 ((y i:Nat):Int))):=hid (fun i hi=>by
  have:=hy i _ (mvC_get hi)
  rwa [Nat.zero_add]at this)
 have HC:=hid (fun(a b:Int) (w1:World)=>cmpint_ok a b w1)
 have HN:=hid (cf_none (x:=x) (y:=y))
 have HS:=hid (fun k (hk:k<7) h hne=>cf_some (x:=x) (y:=y) (k:=k) hk h hne)
 clear hx hy
 generalize cfF x y=z at*
 go_enter Tryz.func249,Tryz.ntmps249
 go_wp2_with fail
 go_loopw [4,5,6,7,8,11] (fun _ _ _ _ _ i wq=>∃k q:Nat,k≤7∧i= .int .i64 k∧Hid (∀j,j<k→x j=y j)∧wq=w.drewN q) (fun _ _ _ _ _ i _=>7-(intOf i).toNat)
 case atStart=>exact⟨0,0,by omega,rfl,hid (fun j hj=>by omega),rfl⟩
 case round=>
  obtain⟨k,q,hk,rfl,HE,rfl⟩:=hrel
  by_cases hlt:k<7
  ·have hki:(k:Int)<7:=by omega
   have hki2:¬(7:Int)≤(k:Int):=by omega
   have c1:=HX.out k hlt
   have c2:=HY.out k hlt
   by_cases he:x k=y k
   ·have HE2:Hid (∀j,j<k+1→x j=y j):=hid (fun j hj=>by
     by_cases e:j=k
     ·rw[e];exact he
     ·exact HE.out j (by omega))
    have HCC:=hid (fun w1=>HC.out ((x k:Nat):Int) ((y k:Nat):Int) w1)
    rw[show cmp3 ((x k:Nat):Int) ((y k:Nat):Int)=0 by rw[he];exact cmp3_eq _]at HCC
    clear he
    generalize x k=xk at*
    generalize y k=yk at*
    go_wp2_with fail
    refine(HCC.out _).mono ?_
    rintro e w1 ⟨rfl,rfl⟩
    go_wp2
    go_roundw
    case rel=>exact⟨k+1,q,by omega,by go_num,HE2.out,rfl⟩
    case measure=>simp[intOf]<;>omega
   ·have HCC:=hid (fun w1=>HC.out ((x k:Nat):Int) ((y k:Nat):Int) w1)
    have hz:=HS.out k hlt HE.out he
    rw[cmp3_ne he,←hz]at HCC
    have hz0:(z !=0)=true:=by rw[bne_iff_ne,hz];split<;>decide
    clear he hz
    generalize x k=xk at*
    generalize y k=yk at*
    go_wp2_with fail
    refine(HCC.out _).mono ?_
    rintro e w1 ⟨rfl,rfl⟩
    go_wp2
    go_ret
    exact⟨rfl,q,rfl⟩
  ·have hki:¬(k:Int)<7:=by omega
   have hz:=HN.out (fun i hi=>HE.out i (by omega))
   have HZ:=hid hz
   clear hz
   go_wp2
   go_ret
   exact⟨by rw[HZ.out];rfl,q,rfl⟩
theorem mcmp_ok (x y:Nat→Nat) (w:World):
 Calls Tryz.prog 248 #[.agg (mvC x).toArray,.agg (mvC y).toArray] w fun e w'=>e= .returned (.int .i64 (cfF x y))∧∃q os',w'=Go.Sort.grow (w.drewN q) os':=by
 have hA1:Arr ((w.alloc (.cells (mvC x).toArray 179)).alloc (.cells (mvC y).toArray 179)) w.heap.size 179 (mvC x):=(Arr.new w _ _).alloc _
 have hA2:Arr ((w.alloc (.cells (mvC x).toArray 179)).alloc (.cells (mvC y).toArray 179)) (w.alloc (.cells (mvC x).toArray 179)).heap.size 179 (mvC y):=Arr.new _ _ _
 rw[World.size_alloc]at hA2
 have HC:=hid (fun m=>scmp_ok x y w.heap.size (w.heap.size+1) (((w.alloc (.cells (mvC x).toArray 179)).alloc (.cells (mvC y).toArray 179)).drewN m) hA1.range hA2.range)
 clear hA1 hA2
 generalize cfF x y=z at*
 go_enter Tryz.func248,Tryz.ntmps248
 go_wp2_with fail
 go_region_with (go_at_call 249;refine(HC.out _).mono ?_;rintro e w1 ⟨rfl,q,rfl⟩)
 go_wp2
 go_ret
 exact⟨rfl,1+q,_,by rw[Go.Sort.alloc_eq_grow,Go.Sort.alloc_eq_grow,Go.Sort.grow_grow];rfl⟩
end Go.Proofs.YtnnaadmegeeinaaGreatDoor
namespace Go.Proofs.YtnnaadmegeeinaaGreatDoor
theorem cf_lt (x y:Nat→Nat):cfF x y<0↔LexF 7 x y:=by
 rcases first_diff (f:=x) (g:=y) 7 with h|⟨k,h1,h2,h3⟩
 ·rw[cf_none h]
  refine⟨fun h=>by omega,fun⟨i,hi,_,hl⟩=> ?_⟩
  have:=h i hi
  omega
 ·rw[cf_some h1 h2 h3]
  constructor
  ·intro h
   by_cases hl:x k<y k
   ·exact⟨k,h1,h2,hl⟩
   ·rw[if_neg hl]at h;omega
  ·rintro⟨i,hi,he,hl⟩
   have hik:i=k:=by
    rcases Nat.lt_trichotomy i k with e|e|e
    ·have:=h2 i e;omega
    ·exact e
    ·exact absurd (he k e) h3
   subst hik
   rw[if_pos hl]
   omega
theorem lex_irrefl (N:Nat) (x:Nat→Nat):¬LexF N x x:=fun⟨i,_,_,h⟩=>by omega
theorem lex_trans {N:Nat} {x y z:Nat→Nat} (h1:LexF N x y) (h2:LexF N y z):LexF N x z:=by
 obtain⟨i,hi,he,hl⟩:=h1
 obtain⟨j,hj,he2,hl2⟩:=h2
 rcases Nat.lt_trichotomy i j with h|h|h
 ·exact⟨i,hi,fun k hk=>(he k hk).trans (he2 k (by omega)),by rw[←he2 i h];exact hl⟩
 ·subst h
  exact⟨i,hi,fun k hk=>(he k hk).trans (he2 k hk),by omega⟩
 ·exact⟨j,hj,fun k hk=>(he k (by omega)).trans (he2 k hk),by rw[he j h];exact hl2⟩
theorem lex_tot {N:Nat} (x y:Nat→Nat):(∀i,i<N→x i=y i)∨LexF N x y∨LexF N y x:=by
 rcases first_diff (f:=x) (g:=y) N with h|⟨i,h1,h2,h3⟩
 ·exact .inl h
 ·rcases Nat.lt_or_ge (x i) (y i)with h|h
  ·exact .inr (.inl ⟨i,h1,h2,h⟩)
  ·exact .inr (.inr ⟨i,h1,fun j hj=>(h2 j hj).symm,by omega⟩)
theorem lex_congr {N:Nat} {x y z:Nat→Nat} (h:∀i,i<N→x i=y i):(LexF N x z↔LexF N y z)∧(LexF N z x↔LexF N z y):=by
 refine⟨⟨fun⟨i,hi,he,hl⟩=>⟨i,hi,fun j hj=>by rw[←h j (by omega)];exact he j hj,by rw[←h i hi];exact hl⟩,fun⟨i,hi,he,hl⟩=>⟨i,hi,fun j hj=>by rw[h j (by omega)];exact he j hj,by rw[h i hi];exact hl⟩⟩,⟨fun⟨i,hi,he,hl⟩=>⟨i,hi,fun j hj=>by rw[←h j (by omega)];exact he j hj,by rw[←h i hi];exact hl⟩,fun⟨i,hi,he,hl⟩=>⟨i,hi,fun j hj=>by rw[h j (by omega)];exact he j hj,by rw[h i hi];exact hl⟩⟩⟩
theorem lex_ntrans {N:Nat} {x y z:Nat→Nat} (h1:¬LexF N x y) (h2:¬LexF N y z):¬LexF N x z:=by
 rcases lex_tot (N:=N) x y with h|h|h
 ·rw[(lex_congr h).1];exact h2
 ·exact absurd h h1
 ·rcases lex_tot (N:=N) y z with g|g|g
  ·rw[←(lex_congr g).2];exact h1
  ·exact absurd g h2
  ·exact fun hh=>lex_irrefl N x (lex_trans hh (lex_trans g h))
theorem lex_rank {n:Nat} (hn:n≤7) {x y:Nat→Nat} (P:Mv n x) (Q:Mv n y):LexF 7 x y↔rkF n x<rkF n y:=by
 rw[rk_lex P Q]
 constructor
 ·rintro⟨i,hi,he,hl⟩
  by_cases h:i<n
  ·exact⟨i,h,he,hl⟩
  ·rw[P.st i (by omega),Q.st i (by omega)]at hl;omega
 ·rintro⟨i,hi,he,hl⟩
  exact⟨i,by omega,he,hl⟩
theorem cf_rank {n:Nat} (hn:n≤7) {x y:Nat→Nat} (P:Mv n x) (Q:Mv n y):cfF x y<0↔rkF n x<rkF n y:=(cf_lt x y).trans (lex_rank hn P Q)
end Go.Proofs.YtnnaadmegeeinaaGreatDoor
namespace Go.Proofs.YtnnaadmegeeinaaGreatDoor
open Go.RowKit
theorem wpList_snoc {P:Program} {ops:Array Oper} {rest:List Oper} {o:Oper} {a:Act} {Q:Exit→Act→World→Prop} {w:World} {x:Int} {H:Nat} (w0:World) (s y:Operand) (st:TypeId)
 (hgd:o.guard=none) (ho:o.op= .call {callee:= .builtin .append,args:= #[s,y],argTypes:= #[st,st]})
 (ht:P.underlying st=some (.slice 3)) (hi:(P.info? 3).map (fun i=>(i.zero,i.size,i.bytes))=some (some (.int .i64 0),1,8))
 (ao:Option Addr) (L c0:Nat) (l:List Int) (hs:a.eval s= .slice ao L L) (hv:Sl w0 (.slice ao L c0) l) (hL:l.length=L) (hl9:L≤100) (hy:a.eval y= .slice (some ⟨H,0,none⟩) 1 1)
 (h:∀v' w',OI w0.heap.size w' v' (l++[x])→w0.grownBy w' none→wpList P ops Q rest (a.put o.dst v') w')
 (h0:Below w0.heap.size w0 w) (hcell:w.cell? ⟨H,0,none⟩=some (.int .i64 x)):
 wpList P ops Q (o::rest) a w:=by
 obtain⟨i0,hi1,hz0,hz1,hz2⟩:=info_parts hi
 obtain⟨a',c',hv1,hl1,hc⟩:=hv.out
 simp only[Value.slice.injEq]at hv1
 obtain⟨e1,e2,e3⟩:=hv1
 subst e1
 refine wpList_append_grows w hgd s y st ho 3 i0 (.int .i64 0) 1 8 ht hi1 hz0 hz1 hz2 rfl (by decide) ao L L (l.map (Value.int .i64)) hs ?_ (by simp[hL]) ?_ ⟨H,0,none⟩ 1 1 [.int .i64 x] hy rfl ?_ ?_ (by omega) (by unfold maxLen;omega) (by omega) ?_
 ·intro e
  by_cases hz:0<l.length
  ·obtain⟨b,off,e4,_⟩:=hc hz
   rw[e]at e4
   cases e4
  ·omega
 ·intro b e j u hj
  by_cases hjl:j<l.length
  ·obtain⟨bb,off,e4,hlt,hcell⟩:=hc (by omega)
   rw[e]at e4
   cases e4
   rw[List.getElem?_map,List.getElem?_eq_getElem hjl]at hj
   simp at hj
   subst hj
   have h3:=(h0.cell (p:=⟨bb,off+j,none⟩) hlt).trans (hcell j hjl)
   rw[List.getD_eq_getElem?_getD,List.getElem?_eq_getElem hjl]at h3
   rw[Addr.add_mid]
   exact h3
  ·rw[List.getElem?_eq_none (by simp;omega)]at hj
   cases hj
 ·intro j u hj
  match j,hj with
  |0,hj=>simp at hj;subst hj;simpa [Addr.add]using hcell
 ·intro u hu;simp at hu;subst hu;rfl
 ·intro v' w' h1 h2
  refine h v' w' ?_ ⟨h2.os.trans h0.os,h2.tape.trans h0.tape,h2.output.trans h0.output,Nat.le_trans h0.size h2.size,fun k hk hne=>(h2.block k (by have:=h0.size;omega) hne).trans (h0.block k hk)⟩
  have h3:Ow 3 w.heap.size w' v' ((l++[x]).map (Value.int .i64)):=by
   unfold Ow
   simpa [hL]using h1
  exact OI.mono (show OI w.heap.size w' v' (l++[x])from h3) h0.size
def NextR (n k:Nat) (l:List Nat) (W:Nat) (v:Value) (en:Ending) (w':World):Prop:=∃(pa:Option Addr) (pn pc:Nat),en= .returned (.tuple #[.slice pa pn pc,.bool (exN n k l).isSome])∧∀r,exN n k l=some r→Sl w' (.slice pa pn pc) (ofN r)∧(k=0∧ .slice pa pn pc=v∧r=l∨OI W w' (.slice pa pn pc) (ofN r))
theorem exV_succ (n:Nat) (l:List Nat) (col c R:Nat):exV n l col c (R+1)=(exV n l col c R&&decide (l.getD (col+n*R) 0≠c)):=by
 unfold exV
 rw[List.range_succ,List.all_append]
 simp
theorem ofN_mem (l:List Nat) (c:Nat):decide ((c:Int)∈ofN l)=decide (c∈l):=by
 rw[decide_eq_decide]
 unfold ofN
 rw[List.mem_map]
 constructor
 ·rintro⟨x,hx,e⟩
  have:x=c:=by omega
  rwa [←this]
 ·intro h
  exact⟨c,h,rfl⟩
theorem ofN_drop (l:List Nat) (i:Nat):(ofN l).drop i=ofN (l.drop i):=by unfold ofN;rw[List.map_drop]
theorem lnext_any (n:Nat) (hn1:1≤n) (hn8:n≤8):∀(k R:Nat) (l:List Nat) (a:Option Addr) (c:Nat) (w:World),k≤n→l.length=n*R+(n-k)→n*R+n≤64→(∀x∈l,x<n)→Sl w (.slice a l.length c) (ofN l)→
 Calls Tryz.prog 199 #[.int .i64 n,.slice a l.length c,.int .i64 ((n-k:Nat):Int)] w fun en w'=>NextR n k l w.heap.size (.slice a l.length c) en w'∧Below w.heap.size w w'
 |0,R,l,a,c,w,hk,hl,hR,hlt,hv=>by
  have hnk:((n-0:Nat):Int)=(n:Int):=by omega
  have hEX:Hid (exN n 0 l=some l):=hid rfl
  have HV:=hid hv
  rw[hnk]
  clear hnk hl hlt hv
  generalize l.length=N at*
  go_enter Tryz.func199,Tryz.ntmps199
  go_wp2
  go_ret2
  exact⟨⟨_,_,_,by rw[hEX.out];rfl,fun r hr=>by rw[hEX.out]at hr;cases hr;exact⟨HV.out,.inl ⟨rfl,rfl,rfl⟩⟩⟩,Below.refl _ _⟩
 |k+1,R,l,a,c,w,hk,hl,hR,hlt,hv=>by
  obtain⟨col,hcol⟩:∃col,n-(k+1)=col:=⟨_,rfl⟩
  have hcn:col<n:=by omega
  have hlc:l.length=n*R+col:=by omega
  have hck:n-k=col+1:=by omega
  have IH:=hid (fun(x:Nat) (a2:Option Addr) (c2:Nat) (w1:World) (hx:x<n) (h3:Sl w1 (.slice a2 (l.length+1) c2) (ofN (l++[x])))=>(show Calls Tryz.prog 199 #[.int .i64 n,.slice a2 (l.length+1) c2,.int .i64 ((col:Int)+1)] w1 fun en w'=>NextR n k (l++[x]) w1.heap.size (.slice a2 (l.length+1) c2) en w'∧Below w1.heap.size w1 w' from by
   have e1:(l++[x]).length=l.length+1:=by simp
   have h:=lnext_any n hn1 hn8 k R (l++[x]) a2 c2 w1 (by omega) (by rw[e1];omega) hR (fun y hy=>by
    rcases List.mem_append.1 hy with hy|hy
    ·exact hlt y hy
    ·rw[List.mem_singleton.1 hy];exact hx) (by rw[e1];exact h3)
   rw[e1,hck]at h
   exact h))
  obtain⟨B0,hB0⟩:∃B0,n*R=B0:=⟨_,rfl⟩
  have hc1:l.length≤c:=by
   obtain⟨a',c',e,h2,_⟩:=hv.out
   rw[ofN_len]at e h2
   simp only[Value.slice.injEq]at e
   omega
  have HCO:=hid (fun(w1:World) (x:Nat) (h1:Below w.heap.size w w1)=>(show Calls Tryz.prog 250 #[.slice (if c=B0 then a else a.map (·.add B0)) col (c-B0),.int .i64 x] w1 fun e w'=>e= .returned (.bool (decide (x∈l.drop B0)))∧w1=w' from by
   have h2:=(hv.below h1).slice (lo:=B0) (hi:=l.length) (by omega) (Nat.le_refl _)
   rw[show l.length-B0=col by omega,ofN_drop,show(ofN (l.drop B0)).take col=ofN (l.drop B0)from List.take_of_length_le (by rw[ofN_len,List.length_drop];omega)]at h2
   have h3:=containsI_any _ _ (x:Int) w1 h2
   rw[ofN_mem]at h3
   exact h3))
  have HCELL:Hid (l.length=0∧col=0∧B0=0∨∃b off,a=some ⟨b,off,none⟩∧b<w.heap.size∧∀i,i<l.length→w.cell? ⟨b,off+i,none⟩=some (.int .i64 ((l.getD i 0:Nat):Int))):=hid (by
   rcases Nat.eq_zero_or_pos l.length with h0|h0
   ·exact .inl ⟨h0,by omega,by omega⟩
   ·obtain⟨a',c',e,_,h3⟩:=hv.out
    rw[ofN_len]at e h3
    simp only[Value.slice.injEq]at e
    obtain⟨b,off,e1,e2,e3⟩:=h3 h0
    exact .inr ⟨b,off,e.1.trans e1,e2,fun i hi=>by rw[e3 i hi,ofN_get]⟩)
  have HNR:Hid (∀r,col+n*r<B0↔r<R):=hid (fun r=>by
   rw[←hB0]
   constructor
   ·intro h
    refine Classical.byContradiction fun hc=> ?_
    have:=Nat.mul_le_mul_left n (show R≤r by omega)
    omega
   ·intro h
    have:=Nat.mul_le_mul_left n (show r+1≤R by omega)
    rw[Nat.mul_succ]at this
    omega)
  have HEXF:Hid (∀x,exF n l col x=(!decide (x∈l.drop B0)&&exV n l col x R)):=hid (fun x=>by
   unfold exF
   rw[show l.length-col=B0 by omega,←hB0,Nat.mul_div_cancel_left R (by omega)])
  have HV:=hid (fun(w1:World) (h1:Below w.heap.size w w1)=>hv.below h1)
  have HEN:=hid (exN_succ n k l)
  have HNO:=hid (fun x C=>exS_no (n:=n) (k:=k) (c:=x) (l:=l) (C:=C))
  have HYE:=hid (fun x C r=>exS_yes (n:=n) (k:=k) (c:=x) (l:=l) (C:=C) (r:=r))
  have HNIL:=hid (exS_nil n k l)
  have HST:=hid (fun x (h:x<n)=>rng_step h)
  have HED:=hid (rng_end n)
  have HVS:=hid (exV_succ n l col)
  have HSN:=hid (ofN_snoc l)
  have HOL:=hid (ofN_len l)
  have HNM:Hid (∀r,n*(r+1)=n*r+n):=hid (fun r=>Nat.mul_succ n r)
  have HB00:=hid (Below.refl w.heap.size w)
  rw[hcol]at HNO HYE⊢
  have hNle:l.length≤64:=by omega
  have hR64:B0+n≤64:=by omega
  have hsub:(l.length:Int)-(col:Int)=(B0:Int):=by omega
  have hneq:((col:Int)==(n:Int))=false:=by rw[beq_eq_false_iff_ne];omega
  have hBN:B0≤l.length:=by omega
  have hNB:(l.length:Int)-(B0:Int)=(col:Int):=by omega
  have hNBn:l.length-B0=col:=by omega
  have HLC:=hid hlc
  clear hlt hv hl hk hcol hck hB0 hR hlc
  unfold NextR
  generalize exN n (k+1) l=RR at*
  generalize l.length=N at*
  go_enter Tryz.func199,Tryz.ntmps199
  go_wp2
  go_loopw [23] (fun iv wr=>∃x:Nat,x≤n∧iv= .int .i64 x∧Hid (exS n k l (List.range' x (n-x))=RR)∧Below w.heap.size w wr) (fun iv _=>n-(intOf iv).toNat)
  case atStart=>exact⟨0,Nat.zero_le _,rfl,hid HEN.out.symm,HB00.out⟩
  case round=>
   obtain⟨x,hxn,rfl,hR,hbl⟩:=hrel
   by_cases hxl:x<n
   ·have hxi:(x:Int)<(n:Int):=by omega
    have HRS:Hid (exS n k l (x::List.range' (x+1) (n-(x+1)))=RR):=hid (by rw[←HST.out x hxl];exact hR.out)
    have HBL:=hid hbl
    have HCC:=hid (HCO.out wr x hbl)
    have HFX:=hid (HEXF.out x)
    have HVSX:=hid (HVS.out x)
    clear hbl hR
    obtain⟨D,hD⟩:∃D,decide (x∈l.drop B0)=D:=⟨_,rfl⟩
    rw[hD]at HCC HFX
    clear hD
    have HC1:Hid (c=B0→Calls Tryz.prog 250 #[.slice a col 0,.int .i64 x] wr fun e w'=>e= .returned (.bool D)∧wr=w'):=hid (fun e=>by
     have:=HCC.out
     rw[if_pos e,e,Nat.sub_self]at this
     exact this)
    have HC2:Hid (¬c=B0→Calls Tryz.prog 250 #[.slice (a.map (·.add B0)) col (c-B0),.int .i64 x] wr fun e w'=>e= .returned (.bool D)∧wr=w'):=hid (fun e=>by
     have:=HCC.out
     rw[if_neg e]at this
     exact this)
    clear HCC
    go_upto_region 7 with fail
    go_cut [10]from 24 to 68 (fun v10 wc=>v10= .bool (!D)∧wc=wr)
    case first=>
     go_wp2_with fail
     ·have hcB:c=B0:=by assumption
      subst hcB
      refine(HC1.out rfl).mono ?_
      rintro e w2 ⟨rfl,rfl⟩
      go_wp2
      go_meet
      case rel=>exact⟨rfl,rfl⟩
     ·refine(HC2.out (by assumption)).mono ?_
      rintro e w2 ⟨rfl,rfl⟩
      go_wp2
      go_meet
      case rel=>exact⟨rfl,rfl⟩
    case rest=>
     obtain⟨rfl,hwc⟩:=hcut
     subst hwc
     clear HC1 HC2
     have hBi:(0:Int)≤(B0:Int):=by omega
     go_wp2
     go_loopw [10,11] (fun fv av wq=>∃r A:Nat,r≤R∧Hid (A=col+n*r)∧av= .int .i64 A∧A≤100∧fv= .bool (!D&&exV n l col x r)∧wq=wc) (fun _ av _=>B0-(intOf av).toNat)
     case atStart=>exact⟨0,col,Nat.zero_le _,hid rfl,rfl,by omega,by unfold exV;simp,rfl⟩
     case round=>
      obtain⟨r,A,hrR,HA,rfl,hA100,rfl,rfl⟩:=hrel
      by_cases hAB:A<B0
      ·have hAi:(A:Int)<(B0:Int):=by omega
       have hrl:r<R:=(HNR.out r).1 (by have:=HA.out;omega)
       have HA2:Hid (A+n=col+n*(r+1)):=hid (by rw[HNM.out,HA.out];omega)
       obtain⟨b,off,rfl,hbb,hcell⟩:∃b off,a=some ⟨b,off,none⟩∧b<w.heap.size∧∀i,i<N→w.cell? ⟨b,off+i,none⟩=some (.int .i64 ((l.getD i 0:Nat):Int)):=by
        rcases HCELL.out with h|h
        ·omega
        ·exact h
       have c1:=(HBL.out.cell (p:=⟨b,off+A,none⟩) hbb).trans (hcell A (by omega))
       have hAN:A<N:=by omega
       have HFR:=hid (HVSX.out r)
       rw[←HA.out]at HFR
       clear hcell
       generalize l.getD A 0=y at*
       cases hF:(!D&&exV n l col x r)with
       |false=>
        have HF2:Hid ((!D&&exV n l col x (r+1))=false):=hid (by
         rw[HFR.out,←Bool.and_assoc,hF]
         rfl)
        clear hF
        go_wp2
        go_roundw
        case rel=>exact⟨r+1,A+n,by omega,HA2,by go_num,by omega,by rw[HF2.out],by trivial⟩
        case measure=>simp[intOf]<;>omega
       |true=>
        by_cases hyx:y=x
        ·have hbe:((y:Int)==(x:Int))=true:=by rw[beq_iff_eq];omega
         have HF2:Hid ((!D&&exV n l col x (r+1))=false):=hid (by
          rw[HFR.out,←Bool.and_assoc,hF,decide_eq_false (fun h=>h hyx)]
          rfl)
         have HBN:Hid (((y:Int) !=(x:Int))=false):=hid (by rw[bne,hbe];rfl)
         clear hF hyx
         go_wp2
         go_roundw
         case rel=>exact⟨r+1,A+n,by omega,HA2,by go_num,by omega,by rw[HF2.out];exact congrArg Value.bool HBN.out,by trivial⟩
         case measure=>simp[intOf]<;>omega
        ·have hbe:((y:Int)==(x:Int))=false:=by rw[beq_eq_false_iff_ne];omega
         have HF2:Hid ((!D&&exV n l col x (r+1))=true):=hid (by
          rw[HFR.out,←Bool.and_assoc,hF,decide_eq_true hyx]
          rfl)
         have HBN:Hid (((y:Int) !=(x:Int))=true):=hid (by rw[bne,hbe];rfl)
         clear hF hyx
         go_wp2
         go_roundw
         case rel=>exact⟨r+1,A+n,by omega,HA2,by go_num,by omega,by rw[HF2.out];exact congrArg Value.bool HBN.out,by trivial⟩
         case measure=>simp[intOf]<;>omega
      ·have hAi:¬(A:Int)<(B0:Int):=by omega
       have hrl:r=R:=by
        have:=(HNR.out r).2
        have h2:=HA.out
        omega
       rw[hrl,←HFX.out]
       clear hrl
       cases hF:exF n l col x with
       |false=>
        have HN:Hid (exS n k l (List.range' (x+1) (n-(x+1)))=RR):=hid (by rw[←HRS.out];exact(HNO.out x _ (.inl hF)).symm)
        clear hF
        go_wp2
        go_roundw
        case rel=>exact⟨x+1,by omega,by go_num,hid HN.out,HBL.out⟩
        case measure=>simp[intOf]<;>omega
       |true=>
        have HFF:=hid hF
        have hslw:=HV.out wr HBL.out
        clear hF
        go_wp2_with (first|(at_builtin;refine wpList_snoc wr _ _ 45 rfl rfl Tryz.underlying45 Tryz.info3 a N c (ofN l) rfl hslw HOL.out (by omega) rfl ?_ ((Below.refl _ _).alloc (Nat.le_refl _) _) (lit_cell _ _ _);intro v4 w4 hown4 hg4)|fail)
        obtain⟨a2,c2,rfl⟩:=hown4.len
        have hln:(ofN l++[(x:Int)]).length=N+1:=by rw[List.length_append,HOL.out];rfl
        rw[hln]at hown4⊢
        rw[←HSN.out]at hown4
        have hb4:=HBL.out.grown hg4 HBL.out.size (fun k e=>by cases e)
        have HII:=hid (IH.out x a2 c2 w4 hxl (hown4.sl (by rw[HSN.out,hln];omega)))
        have HB4:=hid hb4
        have HO4:=hid hown4
        have HS4:=hid (show wr.heap.size≤w4.heap.size from hg4.size)
        clear hown4 hg4 hb4 hslw hln
        unfold NextR at HII
        cases hr:exN n k (l++[x])with
        |none=>
         have HN:Hid (exS n k l (List.range' (x+1) (n-(x+1)))=RR):=hid (by rw[←HRS.out];exact(HNO.out x _ (.inr hr)).symm)
         rw[hr]at HII
         clear hr
         refine HII.out.mono ?_
         rintro e6 w6 ⟨⟨pa,pn,pc,rfl,hS⟩,hb6⟩
         have HX6:=hid (HB4.out.trans (hb6.mono HB4.out.size))
         clear hb6 hS
         go_wp2
         go_roundw
         case rel=>exact⟨x+1,by omega,by go_num,hid HN.out,HX6.out⟩
         case measure=>simp[intOf]<;>omega
        |some r'=>
         have HN:Hid (RR=some r'):=hid (by rw[←HRS.out];exact HYE.out x _ r' HFF.out hr)
         rw[hr]at HII
         clear hr
         refine HII.out.mono ?_
         rintro e6 w6 ⟨⟨pa,pn,pc,rfl,hS⟩,hb6⟩
         have hSr:=hS r' rfl
         have hOr:OI w.heap.size w6 (.slice pa pn pc) (ofN r'):=by
          rcases hSr.2 with⟨_,e1,e2⟩|h
          ·rw[e1,e2]
           exact(HO4.out.below hb6).mono HBL.out.size
          ·exact h.mono HB4.out.size
         have HX6:=hid (And.intro hSr.1 (And.intro hOr (HB4.out.trans (hb6.mono HB4.out.size))))
         clear hb6 hS hSr hOr
         go_wp2
         go_ret2
         exact⟨⟨_,_,_,by rw[HN.out];rfl,fun r2 hr'=>by rw[HN.out]at hr';cases hr';exact⟨HX6.out.1,.inr HX6.out.2.1⟩⟩,HX6.out.2.2⟩
   ·obtain rfl:x=n:=by omega
    have hxi:¬(x:Int)<(x:Int):=by omega
    have HN:Hid (RR=none):=hid (by rw[←hR.out,HED.out,HNIL.out])
    have HBL:=hid hbl
    clear hbl hR
    go_wp2
    go_ret2
    exact⟨⟨_,_,_,by rw[HN.out];rfl,fun r' hr'=>by rw[HN.out]at hr';cases hr'⟩,HBL.out⟩
end Go.Proofs.YtnnaadmegeeinaaGreatDoor
