/-
  Part 6 of a proof: what it proves stands in the last text.
-/
import Derived.Test.YtnnaadmegeeinaaGreatDoorZc
import Derived.Test.YtnnaadmegeeinaaGreatDoorZd
set_option linter.unusedVariables false
set_option maxHeartbeats 8000000
set_option maxRecDepth 100000
namespace Go.Proofs.YtnnaadmegeeinaaGreatDoor
def dfRise (l:List Nat):Bool:=(List.range (l.length-1)).all fun i=>decide (l.getD i 0<l.getD (i+1) 0)
def difE (v:Nat) (l:List Nat):Int:=if v<1∨60<v∨(l.any fun n=>decide (v≤n))=true then 1 else if dfRise l=false then 2 else 0
theorem difE_zero {v:Nat} {l:List Nat} (h:difE v l=0):1≤v∧v≤60∧(∀x∈l,x<v)∧dfRise l=true:=by
 unfold difE at h
 split at h
 ·cases h
 ·rename_i h1
  split at h
  ·cases h
  ·rename_i h2
   refine⟨by omega,by omega,fun x hx=> ?_,by simpa using h2⟩
   refine Classical.byContradiction fun hc=>h1 (.inr (.inr ?_))
   rw[List.any_eq_true]
   exact⟨x,hx,decide_eq_true (by omega)⟩
theorem dfRise_at {l:List Nat} (h:dfRise l=true) {i:Nat} (hi:i+1<l.length):l.getD i 0<l.getD (i+1) 0:=by
 unfold dfRise at h
 exact of_decide_eq_true (List.all_eq_true.1 h i (List.mem_range.2 (by omega)))
theorem dfRise_ge {l:List Nat} (h:dfRise l=true):∀i,i<l.length→i≤l.getD i 0
 |0,_=>Nat.zero_le _
 |i+1,hi=>by
  have:=dfRise_ge h i (by omega)
  have:=dfRise_at h hi
  omega
theorem difE_len {v:Nat} {l:List Nat} (h:difE v l=0):l.length≤v:=by
 obtain⟨h1,h2,h3,h4⟩:=difE_zero h
 rcases Nat.eq_zero_or_pos l.length with h0|h0
 ·omega
 ·have h5:=dfRise_ge h4 (l.length-1) (by omega)
  have h6:l.getD (l.length-1) 0<v:=by
   rw[List.getD_eq_getElem?_getD,List.getElem?_eq_getElem (by omega),Option.getD_some]
   exact h3 _ (List.getElem_mem _)
  omega
def dfD (v a b:Nat):Nat:=(a+v-b)%v
def dfR (v:Nat) (l:List Nat):Nat→List Nat
 |0=>[]
 |i+1=>dfR v l i++l.map fun b=>dfD v (l.getD i 0) b
theorem dfR_len (v:Nat) (l:List Nat):∀i,(dfR v l i).length=i*l.length
 |0=>by simp[dfR]
 |i+1=>by rw[dfR,List.length_append,dfR_len v l i,List.length_map,Nat.add_mul,Nat.one_mul]
def dfJ (v:Nat) (l:List Nat) (i j:Nat):List Nat:=dfR v l i++(l.take j).map fun b=>dfD v (l.getD i 0) b
theorem dfJ_zero (v:Nat) (l:List Nat) (i:Nat):dfJ v l i 0=dfR v l i:=by simp[dfJ]
theorem dfJ_all (v:Nat) (l:List Nat) (i:Nat):dfJ v l i l.length=dfR v l (i+1):=by simp[dfJ,dfR]
theorem dfJ_snoc (v:Nat) (l:List Nat) (i:Nat) {j:Nat} (h:j<l.length):dfJ v l i (j+1)=dfJ v l i j++[dfD v (l.getD i 0) (l.getD j 0)]:=by
 unfold dfJ
 rw[List.take_add_one,List.getElem?_eq_getElem h,List.map_append,List.append_assoc,List.getD_eq_getElem?_getD (i:=j),List.getElem?_eq_getElem h]
 rfl
theorem dfJ_len (v:Nat) (l:List Nat) (i:Nat) {j:Nat} (h:j≤l.length):(dfJ v l i j).length=i*l.length+j:=by
 unfold dfJ
 rw[List.length_append,dfR_len,List.length_map,List.length_take,Nat.min_eq_left h]
def oftV (D:List Nat):List Value:=(List.range 60).map fun n=> .int .i64 ((D.count n:Nat):Int)
theorem oftV_len (D:List Nat):(oftV D).length=60:=by simp[oftV]
theorem oftV_get (D:List Nat) {n:Nat} (h:n<60):(oftV D)[n]? =some (.int .i64 ((D.count n:Nat):Int)):=by
 unfold oftV
 rw[List.getElem?_map,List.getElem?_range h]
 rfl
theorem oftV_snoc (D:List Nat) {d:Nat} (h:d<60):oftV (D++[d])=(oftV D).set d (.int .i64 ((D.count d:Nat)+1:Int)):=by
 refine List.ext_getElem? fun n=> ?_
 rw[List.getElem?_set]
 by_cases hn:n<60
 ·by_cases e:d=n
  ·subst e
   rw[if_pos rfl,if_pos (by rw[oftV_len];exact h),oftV_get _ h,List.count_append]
   simp
  ·rw[if_neg e,oftV_get _ hn,oftV_get _ hn,List.count_append]
   simp[e]
 ·rw[List.getElem?_eq_none (by rw[oftV_len];omega)]
  rw[if_neg (by omega),List.getElem?_eq_none (by rw[oftV_len];omega)]
def dfN (v:Nat) (l:List Nat) (n:Nat):Nat:=(dfR v l l.length).count n
def dfW (v:Nat) (l:List Nat):Bool:=(List.range (v-1)).all fun i=>dfN v l (i+1)==dfN v l 1
def levE (v:Nat) (l:List Nat):Int:=if difE v l≠0 then difE v l else if dfW v l=false then 4 else 0
def levX (v:Nat) (l:List Nat):Int:=if levE v l=0∧v≠1 then(dfN v l 1:Nat)else 0
def chM (v:Nat) (l:List Nat) (t m:Nat):List Int:=l.map fun n=>(((n*t+m)%v:Nat):Int)
def chG (v:Nat) (l:List Nat) (t m:Nat):List Int:=(chM v l t m).mergeSort fun x y=>decide (x≤y)
def mtB (v:Nat) (l:List Nat) (t:Nat):Bool:=decide (Nat.gcd t v≤1)&&(List.range v).any fun s=>chG v l t 0==chG v l 1 s
def mtpN (v:Nat) (l:List Nat) (k:Nat):List Int:=((List.range k).filter fun i=>mtB v l (i+1)).map fun i=>((i+1:Nat):Int)
def mtpX (v:Nat) (l:List Nat):List Int:=if difE v l=0 then mtpN v l (v-1)else[]
theorem mtpN_snoc (v:Nat) (l:List Nat) (k:Nat):mtpN v l (k+1)=if mtB v l (k+1)then mtpN v l k++[((k+1:Nat):Int)]else mtpN v l k:=by
 unfold mtpN
 rw[List.range_succ,List.filter_append,List.map_append]
 split
 ·rename_i h
  rw[List.filter_cons,if_pos h]
  rfl
 ·rename_i h
  rw[List.filter_cons,if_neg h]
  simp
theorem mtpN_len (v:Nat) (l:List Nat) (k:Nat):(mtpN v l k).length≤k:=by
 unfold mtpN
 rw[List.length_map]
 refine Nat.le_trans (List.length_filter_le _ _) ?_
 simp
end Go.Proofs.YtnnaadmegeeinaaGreatDoor
namespace Go.Proofs.YtnnaadmegeeinaaGreatDoor
open Go.RowKit
def exV (n:Nat) (l:List Nat) (col c R:Nat):Bool:=(List.range R).all fun r=>decide (l.getD (col+n*r) 0≠c)
def exF (n:Nat) (l:List Nat) (col c:Nat):Bool:= !decide (c∈l.drop (l.length-col))&&exV n l col c ((l.length-col)/n)
def exN (n:Nat):Nat→List Nat→Option (List Nat)
 |0,l=>some l
 |k+1,l=>(List.range' 0 n).findSome? fun c=>if exF n l (n-(k+1)) c then exN n k (l++[c])else none
def exS (n k:Nat) (l C:List Nat):Option (List Nat):=C.findSome? fun c=>if exF n l (n-(k+1)) c then exN n k (l++[c])else none
theorem exN_succ (n k:Nat) (l:List Nat):exN n (k+1) l=exS n k l (List.range' 0 n):=rfl
theorem exS_nil (n k:Nat) (l:List Nat):exS n k l []=none:=rfl
theorem exS_no {n k c:Nat} {l C:List Nat} (h:exF n l (n-(k+1)) c=false∨exN n k (l++[c])=none):exS n k l (c::C)=exS n k l C:=by
 unfold exS
 rw[List.findSome?_cons]
 rcases h with h|h
 ·rw[h];rfl
 ·rw[h]
  split<;>simp_all
theorem exS_yes {n k c:Nat} {l C r:List Nat} (h:exF n l (n-(k+1)) c=true) (h2:exN n k (l++[c])=some r):exS n k l (c::C)=some r:=by
 unfold exS
 rw[List.findSome?_cons,h,if_pos rfl,h2]
theorem rng_step {n c:Nat} (h:c<n):List.range' c (n-c)=c::List.range' (c+1) (n-(c+1)):=by
 rw[show n-c=(n-(c+1))+1 by omega,List.range'_succ]
theorem rng_end (n:Nat):List.range' n (n-n)=[]:=by rw[Nat.sub_self];rfl
theorem exN_len {n:Nat}:∀k (l m:List Nat),exN n k l=some m→m.length=l.length+k
 |0,l,m,h=>by cases h;rfl
 |k+1,l,m,h=>by
  rw[exN,List.findSome?_eq_some_iff]at h
  obtain⟨_,c,_,_,hc,_⟩:=h
  split at hc
  ·have:=exN_len k _ m hc
   rw[List.length_append]at this
   simp at this
   omega
  ·cases hc
theorem exN_in {n:Nat}:∀k (l m:List Nat),(∀x∈l,x<n)→exN n k l=some m→∀x∈m,x<n
 |0,l,m,hl,h=>by cases h;exact hl
 |k+1,l,m,hl,h=>by
  rw[exN,List.findSome?_eq_some_iff]at h
  obtain⟨l1,c,l2,hr,hc,_⟩:=h
  have hcn:c<n:=by
   have:c∈List.range' 0 n:=by rw[hr];simp
   have:=List.mem_range'_1.1 this
   omega
  split at hc
  ·refine exN_in k _ m (fun x hx=> ?_) hc
   rcases List.mem_append.1 hx with hx|hx
   ·exact hl x hx
   ·rw[List.mem_singleton.1 hx];exact hcn
  ·cases hc
def exA (n:Nat):Nat→List Nat→Option (List Nat)
 |0,l=>some l
 |r+1,l=>match exN n n l with
  |some m=>exA n r m
  |none=>none
theorem exA_len {n:Nat}:∀r (l m:List Nat),exA n r l=some m→m.length=l.length+n*r
 |0,l,m,h=>by cases h;rfl
 |r+1,l,m,h=>by
  rw[exA]at h
  split at h
  ·rename_i m' hm
   have h1:=exN_len n l m' hm
   have h2:=exA_len r m' m h
   rw[h2,h1,Nat.mul_succ]
   omega
  ·cases h
theorem exA_in {n:Nat}:∀r (l m:List Nat),(∀x∈l,x<n)→exA n r l=some m→∀x∈m,x<n
 |0,l,m,hl,h=>by cases h;exact hl
 |r+1,l,m,hl,h=>by
  rw[exA]at h
  split at h
  ·rename_i m' hm
   exact exA_in r m' m (exN_in n l m' hl hm) h
  ·cases h
def xtwB (n:Nat) (l:List Nat):Bool:=(List.range l.length).any fun i=>(List.range i).any fun j=>decide (l.getD i 0=l.getD j 0)&&(decide (i/n=j/n)||decide (i%n=j%n))
def xrwF (n:Nat) (l:List Nat) (i k:Nat):Bool:=(List.range i).any fun j=>decide (j/n*8+l.getD j 0=k)
def xclF (n:Nat) (l:List Nat) (i k:Nat):Bool:=(List.range i).any fun j=>decide (j%n*8+l.getD j 0=k)
theorem xrwF_succ (n:Nat) (l:List Nat) (i k:Nat):xrwF n l (i+1) k=(xrwF n l i k||decide (i/n*8+l.getD i 0=k)):=by
 unfold xrwF
 rw[List.range_succ,List.any_append]
 simp
theorem xclF_succ (n:Nat) (l:List Nat) (i k:Nat):xclF n l (i+1) k=(xclF n l i k||decide (i%n*8+l.getD i 0=k)):=by
 unfold xclF
 rw[List.range_succ,List.any_append]
 simp
theorem tw_row {n:Nat} {l:List Nat} (hn:n≤8) (hl:∀i,i<l.length→l.getD i 0<n) {i:Nat} (hi:i<l.length) (h:xrwF n l i (i/n*8+l.getD i 0)=true):xtwB n l=true:=by
 unfold xrwF at h
 rw[List.any_eq_true]at h
 obtain⟨j,hj,e⟩:=h
 have hj:=List.mem_range.1 hj
 have e:=of_decide_eq_true e
 have h1:=hl i hi
 have h2:=hl j (by omega)
 unfold xtwB
 rw[List.any_eq_true]
 refine⟨i,List.mem_range.2 hi,?_⟩
 rw[List.any_eq_true]
 refine⟨j,List.mem_range.2 hj,?_⟩
 have e1:i/n=j/n:=by omega
 rw[decide_eq_true (show l.getD i 0=l.getD j 0 by omega),decide_eq_true e1]
 rfl
theorem tw_col {n:Nat} {l:List Nat} (hn:n≤8) (hl:∀i,i<l.length→l.getD i 0<n) {i:Nat} (hi:i<l.length) (h:xclF n l i (i%n*8+l.getD i 0)=true):xtwB n l=true:=by
 unfold xclF at h
 rw[List.any_eq_true]at h
 obtain⟨j,hj,e⟩:=h
 have hj:=List.mem_range.1 hj
 have e:=of_decide_eq_true e
 have h1:=hl i hi
 have h2:=hl j (by omega)
 unfold xtwB
 rw[List.any_eq_true]
 refine⟨i,List.mem_range.2 hi,?_⟩
 rw[List.any_eq_true]
 refine⟨j,List.mem_range.2 hj,?_⟩
 have e1:i%n=j%n:=by omega
 rw[decide_eq_true (show l.getD i 0=l.getD j 0 by omega),decide_eq_true e1,Bool.or_true]
 rfl
theorem xtw_no {n:Nat} {l:List Nat} (h:∀i,i<l.length→xrwF n l i (i/n*8+l.getD i 0)=false∧xclF n l i (i%n*8+l.getD i 0)=false):xtwB n l=false:=by
 cases ht:xtwB n l with
 |false=>rfl
 |true=>
  unfold xtwB at ht
  rw[List.any_eq_true]at ht
  obtain⟨i,hi,ht⟩:=ht
  rw[List.any_eq_true]at ht
  obtain⟨j,hj,e⟩:=ht
  have hi:=List.mem_range.1 hi
  rw[Bool.and_eq_true,Bool.or_eq_true]at e
  have e1:=of_decide_eq_true e.1
  obtain⟨h1,h2⟩:=h i hi
  rcases e.2 with e2|e2
  ·have e2:=of_decide_eq_true e2
   have:xrwF n l i (i/n*8+l.getD i 0)=true:=by
    unfold xrwF
    rw[List.any_eq_true]
    exact⟨j,hj,decide_eq_true (by rw[e1,e2])⟩
   rw[h1]at this
   cases this
  ·have e2:=of_decide_eq_true e2
   have:xclF n l i (i%n*8+l.getD i 0)=true:=by
    unfold xclF
    rw[List.any_eq_true]
    exact⟨j,hj,decide_eq_true (by rw[e1,e2])⟩
   rw[h2]at this
   cases this
def bl64 (f:Nat→Bool):List Value:=(List.range 64).map fun k=> .bool (f k)
theorem bl64_len (f:Nat→Bool):(bl64 f).length=64:=by simp[bl64]
theorem bl64_get (f:Nat→Bool) {k:Nat} (h:k<64):(bl64 f)[k]? =some (.bool (f k)):=by
 unfold bl64
 rw[List.getElem?_map,List.getElem?_range h]
 rfl
theorem bl64_set {f g:Nat→Bool} {k:Nat} (hk:k<64) (h:∀j,g j=(f j||decide (k=j))):(bl64 f).set k (.bool true)=bl64 g:=by
 refine List.ext_getElem? fun j=> ?_
 rw[List.getElem?_set]
 by_cases hj:j<64
 ·by_cases e:k=j
  ·subst e
   rw[if_pos rfl,if_pos (by rw[bl64_len];exact hk),bl64_get _ hk,h]
   simp
  ·rw[if_neg e,bl64_get _ hj,bl64_get _ hj,h]
   simp[e]
 ·rw[List.getElem?_eq_none (l:=bl64 g) (by rw[bl64_len];omega),if_neg (by omega),List.getElem?_eq_none (by rw[bl64_len];omega)]
def exR (n:Nat):List Nat→List (List Nat)→Int
 |cs,[]=>if xtwB n cs then 6 else 0
 |cs,r::rs=>if r.length≠n then 2 else if r.any (fun c=>decide (n≤c))then 1 else exR n (cs++r) rs
def extF (n:Nat) (rs:List (List Nat)):Int:=if n<1∨8<n then 1 else if n<rs.length then 3 else exR n [] rs
def extE (n:Nat) (rs:List (List Nat)):Int:=if extF n rs≠0 then extF n rs else if(exA n (n-rs.length) rs.flatten).isNone then 4 else 0
def extC (n:Nat) (rs:List (List Nat)):List Nat:=((exA n (n-rs.length) rs.flatten).getD [])
end Go.Proofs.YtnnaadmegeeinaaGreatDoor
namespace Go.Proofs.YtnnaadmegeeinaaGreatDoor
theorem lies_not {l:List Int} {x:Int} (h:∀i,i<l.length→l[i]?.getD 0≠x):decide (x∈l)=false:=by
 rw[decide_eq_false_iff_not]
 intro hx
 obtain⟨i,hi,e⟩:=List.mem_iff_getElem.1 hx
 exact h i hi (by rw[List.getElem?_eq_getElem hi];exact e)
theorem lies_yes {l:List Int} {x:Int} {i:Nat} (hi:i<l.length) (h:l[i]?.getD 0=x):decide (x∈l)=true:=by
 rw[decide_eq_true_iff,←h,List.getElem?_eq_getElem hi]
 exact List.getElem_mem _
end Go.Proofs.YtnnaadmegeeinaaGreatDoor
namespace Go.Proofs.YtnnaadmegeeinaaGreatDoor
open Go.RowKit
theorem index_any (v:Value) (l:List Int) (x:Int) (w:World) (hl:Sl w v l):
 Calls Tryz.prog 284 #[v,.int .i64 x] w fun e w'=>(∃r:Int,e= .returned (.int .i64 r)∧decide (0≤r)=decide (x∈l))∧w=w':=by
 have HN:=hid (fun h=>lies_not (l:=l) (x:=x) h)
 have HY:=hid (fun i hi h=>lies_yes (l:=l) (x:=x) (i:=i) hi h)
 obtain⟨a,c,N,rfl,hN,hl1,hl2⟩:=hl.open
 rw[hN.out]at HN HY
 clear hl
 generalize decide (x∈l)=D at*
 go_enter Tryz.func284,Tryz.ntmps284
 go_wp2
 go_loop [8] (fun i=>∃k:Nat,k≤N∧i= .int .i64 k∧Hid (∀j,j<k→l[j]?.getD 0≠x)) (fun i=>N-(intOf i).toNat)
 case atStart=>exact⟨0,Nat.zero_le _,rfl,hid (fun j hj=>by omega)⟩
 case round=>
  obtain⟨k,hk,rfl,hH⟩:=hrel
  by_cases hlt:k<N
  ·obtain⟨b,off,rfl,hb,hc⟩:=hl2 (by omega)
   have hca:=hc k hlt
   have HNX:Hid (l[k]?.getD 0≠x→∀j,j<k+1→l[j]?.getD 0≠x):=hid (fun h j hj=>by
    by_cases e:j=k
    ·rw[e];exact h
    ·exact hH.out j (by omega))
   have HYK:=hid (HY.out k hlt)
   clear hc hl2 hH
   generalize l[k]?.getD 0=y at*
   by_cases he:y=x
   ·subst he
    have HE:=hid (HYK.out rfl)
    have hq:(y==y)=true:=by simp
    go_wp2
    go_ret
    exact⟨⟨_,rfl,by rw[HE.out];exact decide_eq_true (by omega)⟩,rfl⟩
   ·have hq:(x==y)=false:=by simpa using fun h=>he h.symm
    have HE:=hid (HNX.out he)
    clear he HNX
    go_wp2
    go_round
    case rel=>exact⟨k+1,by omega,by go_num,HE⟩
    case measure=>simp[intOf]<;>omega
  ·obtain rfl:k=N:=by omega
   have HE:=hid (HN.out hH.out)
   clear hl2 hH
   go_wp2
   go_ret
   exact⟨⟨_,rfl,by rw[HE.out];rfl⟩,rfl⟩
theorem containsI_any (v:Value) (l:List Int) (x:Int) (w:World) (hl:Sl w v l):
 Calls Tryz.prog 250 #[v,.int .i64 x] w fun e w'=>e= .returned (.bool (decide (x∈l)))∧w=w':=by
 have HI:=hid (index_any v l x w hl)
 clear hl
 generalize decide (x∈l)=D at*
 go_enter Tryz.func250,Tryz.ntmps250
 go_wp2_with fail
 refine HI.out.mono ?_
 rintro e w1 ⟨⟨r,rfl,hr⟩,rfl⟩
 have HR:=hid hr
 clear hr
 go_wp2
 go_ret
 exact⟨by rw[←HR.out];rfl,rfl⟩
end Go.Proofs.YtnnaadmegeeinaaGreatDoor
namespace Go.Proofs.YtnnaadmegeeinaaGreatDoor
def gsP (q:Nat):Nat→Int
 |0=>q
 |i+1=>min (IntKind.i64.wrap (gsP q i*q)) 1000000000000000000
def gsPok (q:Nat):Bool:=(List.range 32).all fun i=>decide (gsP q i≠0)&&decide (-9223372036854775808≤gsP q i)&&decide (gsP q i≤1000000000000000000)
theorem gsP_all:∀q,q<65→2≤q→gsPok q=true:=by decide+kernel
theorem gsP_bd {q i:Nat} (h1:2≤q) (h2:q≤64) (hi:i<32):gsP q i≠0∧-9223372036854775808≤gsP q i∧gsP q i≤1000000000000000000:=by
 have h:=List.all_eq_true.1 (gsP_all q (by omega) h1) i (List.mem_range.2 hi)
 simp only[Bool.and_eq_true,decide_eq_true_eq]at h
 exact⟨h.1.1,h.1.2,h.2⟩
def gsM (p:Int) (x y:Nat):Nat:=if(x:Int)≤Int.tdiv 1000000000000000000 p then min 1000000000000000001 (x*p.toNat+y)else 1000000000000000001
theorem gsM_bd (p:Int) {x y:Nat} (hy:1≤y):1≤gsM p x y∧gsM p x y≤1000000000000000001:=by
 unfold gsM
 split
 ·omega
 ·omega
theorem gsM_mul {p:Int} {x:Nat} (hx:1≤x) (hp:p≠0) (h:(x:Int)≤Int.tdiv 1000000000000000000 p):0<p∧x*p.toNat≤1000000000000000000:=by
 have h0:0<p:=by
  refine Classical.byContradiction fun hc=> ?_
  have h1:Int.tdiv 1000000000000000000 p≤0:=Int.tdiv_nonpos_of_nonneg_of_nonpos (by decide) (by omega)
  omega
 refine⟨h0,?_⟩
 obtain⟨m,rfl⟩:=Int.eq_ofNat_of_zero_le (show 0≤p by omega)
 rw[Int.tdiv_eq_ediv_of_nonneg (by decide)]at h
 have h2:x≤1000000000000000000/m:=by
  have:((1000000000000000000/m:Nat):Int)=(1000000000000000000:Int)/(m:Int):=by simp
  omega
 have h3:=Nat.mul_le_mul_right m h2
 have h4:=Nat.div_mul_le_self 1000000000000000000 m
 rw[Int.toNat_natCast]
 omega
def gsN (q:Nat) (row:List Nat):Nat→List Nat
 |0=>[1]
 |j+1=>gsN q row j++[gsM (gsP q j) (row.getD (j+1) 0) (row.getD j 0)]
theorem gsN_len (q:Nat) (row:List Nat):∀j,(gsN q row j).length=j+1
 |0=>rfl
 |j+1=>by rw[gsN,List.length_append,gsN_len q row j];rfl
def gsR (q:Nat):Nat→List Nat
 |0=>[1]
 |m+1=>gsN q (gsR q m) m++[1]
theorem gsR_len (q:Nat):∀m,(gsR q m).length=m+1
 |0=>rfl
 |m+1=>by rw[gsR,List.length_append,gsN_len];rfl
def GsB (l:List Nat):Prop:=∀x∈l,1≤x∧x≤1000000000000000001
theorem gs_snoc {l:List Nat} {x:Nat} (h:GsB l) (h1:1≤x) (h2:x≤1000000000000000001):GsB (l++[x]):=fun y hy=>by
 rcases List.mem_append.1 hy with hy|hy
 ·exact h y hy
 ·rw[List.mem_singleton.1 hy];exact⟨h1,h2⟩
theorem gs_get {l:List Nat} (h:GsB l) {i:Nat} (hi:i<l.length):1≤l.getD i 0∧l.getD i 0≤1000000000000000001:=by
 rw[List.getD_eq_getElem?_getD,List.getElem?_eq_getElem hi,Option.getD_some]
 exact h _ (List.getElem_mem hi)
theorem gsN_bd (q:Nat) {row:List Nat} (h:GsB row):∀j,j+1≤row.length→GsB (gsN q row j)
 |0,_=>fun x hx=>by rw[List.mem_singleton.1 hx];omega
 |j+1,hj=>by
  rw[gsN]
  have:=gsM_bd (gsP q j) (x:=row.getD (j+1) 0) (gs_get h (i:=j) (by omega)).1
  exact gs_snoc (gsN_bd q h j (by omega)) this.1 this.2
theorem gsR_bd (q:Nat):∀m,GsB (gsR q m)
 |0=>fun x hx=>by rw[List.mem_singleton.1 hx];omega
 |m+1=>gs_snoc (gsN_bd q (gsR_bd q m) m (by rw[gsR_len];exact Nat.le_refl _)) (by omega) (by omega)
def gauB (n k q:Nat):Prop:=30<n∨n<k∨q<2∨64<q
instance (n k q:Nat):Decidable (gauB n k q):=by unfold gauB;infer_instance
def gauE (n k q:Nat):Int:=if gauB n k q then 1 else if 1000000000000000000<(gsR q n).getD k 0 then 3 else 0
def gauX (n k q:Nat):Int:=if gauE n k q=0 then(((gsR q n).getD k 0:Nat):Int)else 0
end Go.Proofs.YtnnaadmegeeinaaGreatDoor
namespace Go.Proofs.YtnnaadmegeeinaaGreatDoor
open Go.RowKit
theorem Gauss_bad (n k q:Nat) (w:World) (h:gauB n k q):
 Calls Tryz.prog 126 #[.int .i64 n,.int .i64 k,.int .i64 q] w fun e w'=>e= .returned (.tuple #[.int .i64 0,.int .i64 1])∧w=w':=by
 unfold gauB at h
 have n0:¬(n:Int)<0:=by omega
 have n1:¬(k:Int)<0:=by omega
 by_cases h1:30<n
 ·have i1:(30:Int)<(n:Int):=by omega
  clear h h1
  go_enter Tryz.func126,Tryz.ntmps126
  go_wp2
  go_ret2
  exact⟨rfl,rfl⟩
 have i1:¬(30:Int)<(n:Int):=by omega
 by_cases h2:n<k
 ·have i2:(n:Int)<(k:Int):=by omega
  clear h h1 h2
  go_enter Tryz.func126,Tryz.ntmps126
  go_wp2
  go_ret2
  exact⟨rfl,rfl⟩
 have i2:¬(n:Int)<(k:Int):=by omega
 by_cases h3:q<2
 ·have i3:(q:Int)<2:=by omega
  clear h h1 h2 h3
  go_enter Tryz.func126,Tryz.ntmps126
  go_wp2
  go_ret2
  exact⟨rfl,rfl⟩
 have i3:¬(q:Int)<2:=by omega
 have i4:(64:Int)<(q:Int):=by omega
 clear h h1 h2 h3
 go_enter Tryz.func126,Tryz.ntmps126
 go_wp2
 go_ret2
 exact⟨rfl,rfl⟩
theorem Gauss_ok (n k q:Nat) (w:World) (h:¬gauB n k q):
 Calls Tryz.prog 126 #[.int .i64 n,.int .i64 k,.int .i64 q] w fun e w'=>e= .returned (.tuple #[.int .i64 (gauX n k q),.int .i64 (gauE n k q)])∧Below w.heap.size w w':=by
 have hE:gauE n k q=if 1000000000000000000<(gsR q n).getD k 0 then 3 else 0:=if_neg h
 have hX:gauX n k q=if gauE n k q=0 then(((gsR q n).getD k 0:Nat):Int)else 0:=rfl
 unfold gauB at h
 have hn30:n≤30:=by omega
 have hkn:k≤n:=by omega
 have hq2:2≤q:=by omega
 have hq64:q≤64:=by omega
 have j1:¬(n:Int)<0:=by omega
 have j2:¬(30:Int)<(n:Int):=by omega
 have j3:¬(k:Int)<0:=by omega
 have j4:¬(n:Int)<(k:Int):=by omega
 have j5:¬(q:Int)<2:=by omega
 have j6:¬(64:Int)<(q:Int):=by omega
 have HRL:=hid (gsR_len q)
 have HRB:=hid (gsR_bd q)
 have HP:=hid (fun i (hi:i<32)=>gsP_bd (q:=q) (i:=i) hq2 hq64 hi)
 have HPS:Hid (∀i,min (IntKind.i64.wrap (gsP q i*q)) 1000000000000000000=gsP q (i+1)):=hid (fun i=>rfl)
 have HP0:Hid (gsP q 0=q):=hid rfl
 have HRS:Hid (∀m,gsR q (m+1)=gsN q (gsR q m) m++[1]):=hid (fun m=>rfl)
 have HXE:=hid (And.intro hE hX)
 clear hE hX h
 generalize gauE n k q=EE at*
 generalize gauX n k q=XX at*
 have HR0:=hid (OI.lit1 w.heap.size w 1 (Nat.le_refl _))
 have HB0:=hid ((Below.refl w.heap.size w).alloc (Nat.le_refl _) (.cells #[.int .i64 1] 3))
 go_enter Tryz.func126,Tryz.ntmps126
 go_wp2
 go_loopw [8,9,10,11,12,38] (fun row _ _ _ _ iv wr=>∃m:Nat,iv= .int .i64 m∧m≤n∧OI w.heap.size wr row (ofN (gsR q m))∧Below w.heap.size w wr) (fun _ _ _ _ _ iv _=>n-(intOf iv).toNat)
 case atStart=>exact⟨0,rfl,Nat.zero_le _,HR0.out,HB0.out⟩
 case round=>
  clear HR0 HB0
  obtain⟨m,rfl,hm,ho,hb⟩:=hrel
  obtain⟨br,c,rfl,hbr1,hbr2⟩:=ho.form (by rw[ofN_len,HRL.out];omega)
  rw[ofN_len,HRL.out]at ho⊢
  by_cases hmn:m<n
  ·have hmi:(m:Int)<(n:Int):=by omega
   have HCELL:=hid (fun(w1:World) (h1:OI w.heap.size w1 (.slice (some ⟨br,0,none⟩) (m+1) c) (ofN (gsR q m))) (i:Nat) (hi:i<m+1)=>(h1.cell i (by rw[ofN_len,HRL.out];exact hi)).trans (by rw[ofN_get]))
   have HXB:=hid (fun i (hi:i<m+1)=>gs_get (HRB.out m) (i:=i) (by rw[HRL.out];exact hi))
   have HRSM:=hid (HRS.out m)
   have HNS:Hid (∀j,gsN q (gsR q m) (j+1)=gsN q (gsR q m) j++[gsM (gsP q j) ((gsR q m).getD (j+1) 0) ((gsR q m).getD j 0)]):=hid (fun j=>rfl)
   have HN0:Hid (gsN q (gsR q m) 0=[1]):=hid rfl
   have HNL:=hid (gsN_len q (gsR q m))
   generalize gsR q m=R at*
   have HR:=hid ho
   have HB:=hid hb
   have HL1:=hid (OI.lit1 (br+1) wr 1 (by omega))
   have HB1:=hid (hb.alloc hb.size (.cells #[.int .i64 1] 3))
   have HR1:=hid (ho.alloc (.cells #[.int .i64 1] 3))
   obtain⟨M,hM⟩:∃M,m+1=M:=⟨_,rfl⟩
   rw[hM]at HR HR1 HCELL HXB⊢
   have HM:=hid hM
   clear ho hb hM
   go_wp2
   go_loopw [9,10,11,12] (fun nx pw iv _ wq=>∃(i j:Nat),i=j+1∧iv= .int .i64 i∧i≤M∧pw= .int .i64 (gsP q j)∧OI (br+1) wq nx (ofN (gsN q R j))∧OI w.heap.size wq (.slice (some ⟨br,0,none⟩) M c) (ofN R)∧Below w.heap.size w wq) (fun _ _ iv _ _=>M-(intOf iv).toNat)
   case atStart=>exact⟨1,0,rfl,rfl,by have:=HM.out;omega,by rw[HP0.out],HL1.out,HR1.out,HB1.out⟩
   case round=>
    clear HL1 HB1 HR1 HR HB
    obtain⟨i,j,hij,rfl,hi,rfl,hnx,hro,hb⟩:=hrel
    have HIJ:=hid hij
    clear hij
    by_cases hiM:i<M
    ·have hii:(i:Int)<(M:Int):=by omega
     have hcx:=HCELL.out wr hro i hiM
     have hcy:=HCELL.out wr hro j (by have:=HIJ.out;omega)
     have hx:=HXB.out i hiM
     have hy:=HXB.out j (by have:=HIJ.out;omega)
     have hsub:(i:Int)-1=(j:Int):=by have:=HIJ.out;omega
     have hjM:j<M:=by have:=HIJ.out;omega
     obtain⟨p0,p1,p2⟩:=HP.out j (by have:=HIJ.out;have:=HM.out;omega)
     have HPI:Hid ((if(1000000000000000000:Int)<wrap64 (gsP q j*q)then 1000000000000000000 else wrap64 (gsP q j*q))=gsP q i):=hid (by
      rw[←IntWalk.i64_left,HIJ.out,←HPS.out j,Int.min_def]
      split<;>split<;>omega)
     have hnl:(ofN (gsN q R j)).length≤1000000000000:=by rw[ofN_len,HNL.out];have:=HIJ.out;have:=HM.out;omega
     have hsz:br+1≤wr.heap.size:=(hro.lt br rfl).2
     have HX:=hid (And.intro hro hb)
     have HNI:Hid (ofN (gsN q R j)++[((gsM (gsP q j) (R.getD i 0) (R.getD j 0):Nat):Int)]=ofN (gsN q R i)):=hid (by rw[HIJ.out,HNS.out j,ofN_snoc])
     clear hro hb
     generalize R.getD i 0=x at*
     generalize R.getD j 0=y at*
     generalize gsP q j=p at*
     obtain⟨Q,hQ⟩:∃Q:Int,(1000000000000000000:Int).tdiv p=Q:=⟨_,rfl⟩
     have hQb: -1000000000000000000≤Q∧Q≤1000000000000000000:=by
      have h1:=Int.natAbs_tdiv_le_natAbs (1000000000000000000:Int) p
      rw[hQ]at h1
      have:(1000000000000000000:Int).natAbs=1000000000000000000:=rfl
      omega
     have hj30:j≤30:=by have:=HIJ.out;have:=HM.out;omega
     have hwj:IntKind.i64.wrap (j:Int)=(j:Int):=IntWalk.i64_in _ (by omega)
     have hcx1:wr.drew.cell? ⟨br,i,none⟩=_:=hcx
     have hcy1:wr.drew.cell? ⟨br,j,none⟩=_:=hcy
     have hcx2:wr.drew.drew.cell? ⟨br,i,none⟩=_:=hcx
     have hcy2:wr.drew.drew.cell? ⟨br,j,none⟩=_:=hcy
     by_cases hc:(x:Int)≤Q
     ·obtain⟨hp1,hp2⟩:=gsM_mul hx.1 p0 (by rw[hQ];exact hc)
      have hmm:(x:Int)*p=((x*p.toNat:Nat):Int):=by rw[Int.natCast_mul,Int.toNat_of_nonneg (by omega)]
      have hM':gsM p x y=min 1000000000000000001 (x*p.toNat+y):=by unfold gsM;rw[if_pos (by rw[hQ];exact hc)]
      have HMN:Hid ((if((x*p.toNat:Nat):Int)+(y:Int)<1000000000000000001 then((x*p.toNat:Nat):Int)+(y:Int)else 1000000000000000001)=(gsM p x y:Int)):=hid (by rw[hM'];split<;>omega)
      clear hM'
      generalize gsM p x y=z at*
      generalize x*p.toNat=xp at*
      go_wp2
      go_region
      go_wp2
      go_region
      rw[HMN.out]
      have hnx2:OI (br+1) wr.drew.drew u9 (ofN (gsN q R j)):=hnx.drewN 2
      have hsz2:br+1≤wr.drew.drew.heap.size:=hsz
      go_wp2_with (at_builtin;refine wpList_appi wr.drew.drew _ _ 45 rfl rfl Tryz.underlying45 Tryz.info3 (br+1) _ _ rfl hnx2 rfl hnl hsz2 ?_;intro g7 c7 w4 hown1 hg1 hg2 hg3)
      have hg1:wr.drew.drew.grownBy w4 u9.ownBlock:=hg1
      have hr4:=(HX.out.1.drewN 2).kept hg1 (.inr (fun e=>by
       have:=(hnx2.lt br e.symm).1
       omega))
      have hb4:=(below_drewN HX.out.2 2).grown hg1 (below_drewN HX.out.2 2).size (fun k e=>by
       have:=(hnx2.lt k e).1
       omega)
      have HY:=hid (And.intro (hown1.cast HNI.out) (And.intro hr4 hb4))
      clear hown1 hg1 hg2 hg3 hr4 hb4 hnx2 hnx HX
      go_roundw
      case rel=>exact⟨i+1,i,rfl,by go_num,by omega,by rw[HPI.out],HY.out.1,HY.out.2.1,HY.out.2.2⟩
      case measure=>simp[intOf]<;>omega
     ·have hM':gsM p x y=1000000000000000001:=by unfold gsM;rw[if_neg (by rw[hQ];exact hc)]
      rw[hM']at HNI
      clear hM'
      have hnx2:OI (br+1) wr.drew u9 (ofN (gsN q R j)):=hnx.drewN 1
      have hsz2:br+1≤wr.drew.heap.size:=hsz
      go_wp2
      go_region
      go_wp2_with (at_builtin;refine wpList_appi wr.drew _ _ 45 rfl rfl Tryz.underlying45 Tryz.info3 (br+1) _ _ rfl hnx2 rfl hnl hsz2 ?_;intro g7 c7 w4 hown1 hg1 hg2 hg3)
      have hg1:wr.drew.grownBy w4 u9.ownBlock:=hg1
      have hr4:=(HX.out.1.drewN 1).kept hg1 (.inr (fun e=>by
       have:=(hnx2.lt br e.symm).1
       omega))
      have hb4:=(below_drewN HX.out.2 1).grown hg1 (below_drewN HX.out.2 1).size (fun k e=>by
       have:=(hnx2.lt k e).1
       omega)
      have HY:=hid (And.intro (hown1.cast HNI.out) (And.intro hr4 hb4))
      clear hown1 hg1 hg2 hg3 hr4 hb4 hnx2 hnx HX
      go_roundw
      case rel=>exact⟨i+1,i,rfl,by go_num,by omega,by rw[HPI.out],HY.out.1,HY.out.2.1,HY.out.2.2⟩
      case measure=>simp[intOf]<;>omega
    ·obtain rfl:i=M:=by omega
     have hii:¬(i:Int)<(i:Int):=by omega
     have hnl:(ofN (gsN q R j)).length≤1000000000000:=by rw[ofN_len,HNL.out];have:=HIJ.out;have:=HM.out;omega
     have hsz:w.heap.size≤wr.heap.size:=hb.size
     have HX:=hid hb
     have hnx2:=hnx.mono (show w.heap.size≤br+1 by omega)
     have HNI:Hid (ofN (gsN q R j)++[(1:Int)]=ofN (gsR q (m+1))):=hid (by
      rw[HRSM.out,show m=j by have:=HIJ.out;have:=HM.out;omega]
      simp[ofN])
     clear hro hb hnx
     go_wp2_with (at_builtin;refine wpList_appi wr _ _ 45 rfl rfl Tryz.underlying45 Tryz.info3 w.heap.size _ _ rfl hnx2 rfl hnl hsz ?_;intro g7 c7 w4 hown1 hg1 hg2 hg3)
     have hg1:wr.grownBy w4 u9.ownBlock:=hg1
     have hb4:=HX.out.grown hg1 hsz (fun k e=>(hnx2.lt k e).1)
     have HY:=hid (And.intro (hown1.cast HNI.out) hb4)
     clear hown1 hg1 hg2 hg3 hb4 hnx2 HX
     go_roundw
     case rel=>exact⟨m+1,by go_num,by omega,HY.out.1,HY.out.2⟩
     case measure=>simp[intOf]<;>omega
  ·obtain rfl:m=n:=by omega
   have hii:¬(m:Int)<(m:Int):=by omega
   have hcx:=(ho.cell k (by rw[ofN_len,HRL.out];omega)).trans (by rw[ofN_get])
   have hx:=gs_get (HRB.out m) (i:=k) (by rw[HRL.out];omega)
   have HB:=hid hb
   clear hb ho HRL HRB HP HPS HP0 HRS
   have hkm:k<m+1:=by omega
   generalize (gsR q m).getD k 0=x at*
   by_cases hc:1000000000000000000<x
   ·have hci:(1000000000000000000:Int)<(x:Int):=by omega
    obtain⟨e1,e2⟩:=HXE.out
    rw[if_pos hc]at e1
    subst e1
    rw[if_neg (by decide)]at e2
    subst e2
    clear HXE
    go_wp2
    go_ret2
    exact⟨rfl,HB.out⟩
   ·have hci:¬(1000000000000000000:Int)<(x:Int):=by omega
    obtain⟨e1,e2⟩:=HXE.out
    rw[if_neg hc]at e1
    subst e1
    rw[if_pos rfl]at e2
    subst e2
    clear HXE
    go_wp2
    go_ret2
    exact⟨rfl,HB.out⟩
end Go.Proofs.YtnnaadmegeeinaaGreatDoor
