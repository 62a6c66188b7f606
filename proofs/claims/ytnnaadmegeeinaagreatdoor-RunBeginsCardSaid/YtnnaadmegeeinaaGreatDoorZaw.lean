/-
  Part 49 of a proof: what it proves stands in the last text.
-/
import Derived.Test.YtnnaadmegeeinaaGreatDoorZar
import Derived.Test.YtnnaadmegeeinaaGreatDoorZak
import Derived.Test.YtnnaadmegeeinaaGreatDoorZav
import Derived.Test.YtnnaadmegeeinaaGreatDoorZas
import Derived.Test.YtnnaadmegeeinaaGreatDoorZat
import Derived.Test.YtnnaadmegeeinaaGreatDoorZau
import Derived.Test.YtnnaadmegeeinaaGreatDoorZaf
set_option linter.unusedVariables false
set_option maxHeartbeats 8000000
set_option maxRecDepth 100000
namespace Go.Proofs.YtnnaadmegeeinaaGreatDoor
open Go.RowKit
theorem triE_rng (v:Nat):0≤triE v∧triE v≤6:=by
 unfold triE
 repeat' split
 all_goals decide
theorem triX_bd (v:Nat):(∀m∈triX v,(∀x∈m,I64 x)∧m.length≤1000)∧(triX v).length≤1000:=by
 unfold triX
 split
 ·exact(triL_ok _).1
 ·exact(triL_ok _).1
theorem pkTri:PkTri triE triX:=by
 intro v w1 hW h0
 have hbd:=triX_bd v
 have key:Calls Tryz.prog 120 #[.int .i64 v] w1 fun en w'=>MakeR v en w'∧Below w1.heap.size w1 w':=by
  by_cases h:v<1∨33<v
  ·exact Make_bad v w1 h
  ·by_cases h3:v%6=3∨v%6=1
   ·exact Make_ok v w1 (by omega) (by omega) h3
   ·exact Make_none v w1 (by omega) (by omega) (by omega) (by omega)
 refine key.mono ?_
 rintro e w' ⟨⟨P,pa,pn,pc,rfl,hR⟩,hb⟩
 exact⟨P,pa,pn,pc,rfl,triE_rng v,fun h=>⟨hR h,hbd.1,hbd.2⟩,hb⟩
noncomputable def pks:Pks where
 LstE:=_
 LstX:=_
 hLst:=pkLst
 MulE:=_
 MulX:=_
 hMul:=pkMul _ _
 RowE:=_
 RowX:=_
 hRow:=pkRow
 LeaE:=_
 LeaX:=_
 LeaY:=_
 hLea:=pkLea
 CycE:=_
 CycX:=_
 hCyc:=pkCyc
 OrdE:=_
 OrdX:=_
 hOrd:=pkOrd
 BeaE:=_
 BeaX:=_
 hBea:=pkBea
 ExtE:=_
 ExtX:=_
 hExt:=pkExt
 LevE:=_
 LevX:=_
 LevY:=_
 hLev:=pkLev
 TriE:=_
 TriX:=_
 hTri:=pkTri
 DifE:=_
 DifX:=_
 hDif1:=pkDif1
 MtpE:=_
 MtpX:=_
 hDif2:=pkDif2
 RulE:=_
 RulX:=_
 hRul:=pkRul
 GauE:=_
 GauX:=_
 hGau:=pkGau
 BenE:=_
 BenX:=_
 hBen:=pkBen
 RaoE:=_
 RaoX:=_
 hRao:=pkRao
 CirE:=_
 CirX:=_
 hCir:=pkCir
 CouE:=_
 CouX:=_
 hCou:=pkCou
 BruE:=_
 BruX:=_
 hBru:=pkBru
 CasE:=_
 CasX:=_
 hCas1:=pkCas1
 CslE:=_
 CslX:=_
 hCas2:=pkCas2
def Shrt (l:List UInt8):Prop:=l.length≤100000000
theorem Shrt.opt {o:Option (List UInt8)} (h:∀x,o=some x→Shrt x):Shrt (o.getD badT):=by
 cases o with
 |none=>unfold Shrt badT;decide
 |some x=>exact h x rfl
theorem Shrt.err (E:Int):Shrt (errT E):=by
 unfold Shrt errT
 repeat' split
 all_goals decide
theorem Shrt.ite {E:Int} {x:List UInt8} (h:E=0→Shrt x):Shrt (if E=0 then x else errT E):=by
 by_cases e:E=0
 ·rw[if_pos e]
  exact h e
 ·rw[if_neg e]
  exact Shrt.err E
theorem Shrt.ints {l:List Int} (h:∀x∈l,I64 x) (hn:l.length≤10000):Shrt (tellI l):=by
 have:=tellI_le h hn
 unfold Shrt
 omega
theorem Shrt.int {n:Int} (h:I64 n):Shrt (Lib.itoa n):=by
 have:=itoa_len h
 unfold Shrt
 omega
theorem Shrt.bool (b:Bool):Shrt (tellB b):=by
 unfold Shrt tellB
 split<;>decide
theorem lens_le {B:Nat}:∀{ws:List (List UInt8)},(∀x∈ws,x.length≤B)→Lib.lens ws≤ws.length*B
 |[],_=>by simp[Lib.lens]
 |x::ws,h=>by
  have h1:=lens_le (ws:=ws) fun y hy=>h y (List.mem_cons_of_mem _ hy)
  have h2:=h x List.mem_cons_self
  rw[List.length_cons,Nat.succ_mul]
  have:Lib.lens (x::ws)=x.length+Lib.lens ws:=by simp[Lib.lens]
  omega
theorem Shrt.rows {ll:List (List Int)} (h:∀m∈ll,(∀x∈m,I64 x)∧m.length≤1000) (hn:ll.length≤1000):Shrt (tellR ll):=by
 unfold tellR Shrt
 split
 ·decide
 ·rename_i hne
  obtain⟨a,r,rfl⟩:=List.exists_cons_of_ne_nil hne
  rw[List.map_cons,Lib.join_length]
  have h1:=lens_le (B:=21000) (ws:=(a::r).map listT) fun x hx=>by
   obtain⟨y,hy,rfl⟩:=List.mem_map.1 hx
   have h2:=listT_len (h y hy).1
   have h3:=(h y hy).2
   omega
  rw[List.length_map]at h1
  rw[List.map_cons]at h1
  have h4:(a::r).length*21000≤1000*21000:=Nat.mul_le_mul_right _ hn
  have h5:r.length≤1000:=by simp at hn;omega
  rw[List.length_map]
  simp only[List.length_singleton]
  omega
theorem Shrt.two {a b:List UInt8} {c:UInt8} (h1:a.length≤1000000) (h2:b.length≤1000000):Shrt (a++c::b):=by
 unfold Shrt
 rw[List.length_append,List.length_cons]
 omega
theorem small_row (ts:List (List UInt8)):Shrt (ansRow rowE rowX ts):=by
 refine Shrt.opt fun x hx=> ?_
 simp only[Option.bind_eq_some_iff,Option.some.injEq]at hx
 obtain⟨a0,h0,a1,h1,a2,h2,a3,h3,rfl⟩:=hx
 refine Shrt.ite fun h=> ?_
 unfold rowE at h
 split at h
 ·rename_i hE;exact absurd h hE
 ·rename_i hE
  split at h
  ·cases h
  ·have hE:runE a0 (intsN a1) (intsN a2)=0:=by simpa using hE
   have R:=runE_ok hE
   refine Shrt.ints (fun x hx2=> ?_) (by unfold rowX;rw[rowL_len];omega)
   have p2:=R.p2
   have p7:=R.p7
   have:=row_mem (p:=(a0:Int)) (taps:=intsN a1) (seed:=intsN a2) (by omega) R.fs a3 x hx2
   unfold I64
   omega
theorem small_lea (ts:List (List UInt8)):Shrt (ansLea (fun p l=>leastE p (intsN l)) leaX leaY ts):=by
 refine Shrt.opt fun x hx=> ?_
 simp only[Option.bind_eq_some_iff,Option.some.injEq]at hx
 obtain⟨a0,h0,a1,h1,rfl⟩:=hx
 refine Shrt.ite fun h=> ?_
 obtain⟨b1,b2,b3⟩:=leaY_bd a0 a1
 exact Shrt.two (itoa_le b1) (tellI_le b2 (by omega))
theorem small_gau (ts:List (List UInt8)):Shrt (ansGau gauE gauX ts):=by
 refine Shrt.opt fun x hx=> ?_
 simp only[Option.bind_eq_some_iff,Option.some.injEq]at hx
 obtain⟨a0,h0,a1,h1,a2,h2,rfl⟩:=hx
 exact Shrt.ite fun h=>Shrt.int (gauX_bd _ _ _)
theorem small_rao (ts:List (List UInt8)):Shrt (ansRao raoE raoX ts):=by
 refine Shrt.opt fun x hx=> ?_
 simp only[Option.bind_eq_some_iff,Option.some.injEq]at hx
 obtain⟨a0,h0,a1,h1,a2,h2,rfl⟩:=hx
 exact Shrt.ite fun h=>Shrt.int (raoX_bd _ _ _)
theorem small_ord (ts:List (List UInt8)):Shrt (ansOrd (fun a0 a1=>grpE a0 (a1.map intsN)) ordX ts):=by
 refine Shrt.opt fun x hx=> ?_
 simp only[Option.bind_eq_some_iff,Option.some.injEq]at hx
 obtain⟨a0,h0,a1,h1,rfl⟩:=hx
 refine Shrt.ite fun hE=>Shrt.int ?_
 have hx:ordX a0 a1=((GL a0 (msL a0 (a1.map intsN))).length:Nat):=if_pos hE
 have hn:=grpE_n hE
 rw[hx]
 have h1:(GL a0 (msL a0 (a1.map intsN))).length≤fac a0:=by
  unfold GL
  rw[List.length_map]
  exact Nat.le_trans (List.length_filter_le _ _) (by simp)
 have h2:=fac7 a0 (by omega)
 unfold I64
 omega
theorem small_bea (ts:List (List UInt8)):Shrt (ansBea (fun a b=>ringE a b) (fun a b=>if ringE a b=0 then beadsN a b else 0) ts):=by
 refine Shrt.opt fun x hx=> ?_
 simp only[Option.bind_eq_some_iff,Option.some.injEq]at hx
 obtain⟨a,h0,b,h1,rfl⟩:=hx
 refine Shrt.ite fun hE=>Shrt.int ?_
 rw[if_pos hE]
 have hab:1≤a∧1≤b∧b^a≤1000000000000000000:=by
  unfold ringE at hE
  split at hE
  ·cases hE
  ·split at hE
   ·cases hE
   ·rename_i g1 g2
    simp only[Int.toNat_natCast]at g2
    exact⟨by omega,by omega,by omega⟩
 exact beads_I hab.1 hab.2.1 hab.2.2
theorem small_bru (ts:List (List UInt8)):Shrt (ansBru bruE greed ts):=by
 refine Shrt.opt fun x hx=> ?_
 simp only[Option.bind_eq_some_iff,Option.some.injEq]at hx
 obtain⟨k,h0,n,h1,rfl⟩:=hx
 refine Shrt.ite fun h=> ?_
 unfold bruE at h
 split at h
 ·cases h
 ·split at h
  ·cases h
  ·have hl:=greed_len (k:=k) (n:=n) (by omega)
   refine Shrt.ints (fun x hx2=> ?_) (by omega)
   have:=greed_mem x hx2
   unfold I64
   omega
theorem small_rul (ts:List (List UInt8)):Shrt (ansRul rulE rulX ts):=by
 refine Shrt.opt fun x hx=> ?_
 simp only[Option.bind_eq_some_iff,Option.some.injEq]at hx
 obtain⟨a,h0,rfl⟩:=hx
 exact Shrt.ite fun h=>Shrt.ints (rulX_bd a).1 (by have:=(rulX_bd a).2;omega)
theorem small_ben {E:List Nat→Int} {X:List Nat→Bool} (ts:List (List UInt8)):Shrt (ansBen E X ts):=by
 refine Shrt.opt fun x hx=> ?_
 simp only[Option.bind_eq_some_iff,Option.some.injEq]at hx
 obtain⟨a,h0,rfl⟩:=hx
 exact Shrt.ite fun h=>Shrt.bool _
theorem small_cou {E:List Nat→Int} {X:List Nat→Bool} (ts:List (List UInt8)):Shrt (ansCou E X ts):=by
 refine Shrt.opt fun x hx=> ?_
 simp only[Option.bind_eq_some_iff,Option.some.injEq]at hx
 obtain⟨a,h0,rfl⟩:=hx
 exact Shrt.ite fun h=>Shrt.bool _
theorem small_cir (ts:List (List UInt8)):Shrt (ansCir (fun a=>if tmB a=true then 0 else 1) ciL ts):=by
 refine Shrt.opt fun x hx=> ?_
 simp only[Option.bind_eq_some_iff,Option.some.injEq]at hx
 obtain⟨a,h0,rfl⟩:=hx
 refine Shrt.ite fun h=> ?_
 have ht:tmB a=true:=Classical.byContradiction fun hc=>by
  rw[if_neg hc]at h
  cases h
 exact Shrt.rows (ciL_bd ht).1 (ciL_bd ht).2
theorem small_tri (ts:List (List UInt8)):Shrt (ansTri triE triX ts):=by
 refine Shrt.opt fun x hx=> ?_
 simp only[Option.bind_eq_some_iff,Option.some.injEq]at hx
 obtain⟨a,h0,rfl⟩:=hx
 exact Shrt.ite fun h=>Shrt.rows (triX_bd a).1 (triX_bd a).2
theorem small_dif (ts:List (List UInt8)):Shrt (ansDif levE levX difE mtpX ts):=by
 refine Shrt.opt fun x hx=> ?_
 simp only[Option.bind_eq_some_iff,Option.some.injEq]at hx
 obtain⟨a0,h0,a1,h1,rfl⟩:=hx
 refine Shrt.ite fun h=>Shrt.ite fun h2=> ?_
 exact Shrt.two (itoa_le (levX_bd a0 a1 h2)) (tellI_le (mtpX_bd a0 a1).1 (by have:=(mtpX_bd a0 a1).2;omega))
theorem small_lev (ts:List (List UInt8)):Shrt (ansLev lvE lvX1 lvX2 ts):=by
 refine Shrt.opt fun x hx=> ?_
 simp only[Option.bind_eq_some_iff,Option.some.injEq]at hx
 obtain⟨a0,h0,a1,h1,a2,h2,rfl⟩:=hx
 refine Shrt.ite fun h=> ?_
 obtain⟨⟨q1,q2⟩,q3,q4⟩:=lvX_bd h
 exact Shrt.two (itoa_le (by unfold I64;omega)) (itoa_le (by unfold I64;omega))
theorem small_cas (ts:List (List UInt8)):Shrt (ansCas casE (fun m k=>natC (casc k m)) casE (fun m k=>if casE m k=0 then((lsS k (casc k m) (casc k m).length:Nat):Int)else 0) ts):=by
 refine Shrt.opt fun x hx=> ?_
 simp only[Option.bind_eq_some_iff,Option.some.injEq]at hx
 obtain⟨m,h0,k,h1,rfl⟩:=hx
 refine Shrt.ite fun h=>Shrt.ite fun h2=> ?_
 rw[if_pos h]
 have hk:(1≤k∧k≤30)∧m≤1000000000:=by
  unfold casE at h
  split at h
  ·cases h
  ·split at h
   ·cases h
   ·omega
 have hl:=casc_len k m
 have hl2:(natC (casc k m)).length=(casc k m).length:=by simp[natC]
 have hB:=ls_bd (k:=k) (m:=m) (by omega) (by omega) _ (Nat.le_refl _)
 have hB2:(casc k m).length*30000000000≤30*30000000000:=Nat.mul_le_mul_right _ (by omega)
 refine Shrt.two (tellI_le (fun x hx2=> ?_) (by omega)) (itoa_le (by unfold I64;omega))
 obtain⟨y,hy,rfl⟩:=List.mem_map.1 hx2
 obtain⟨i,hi,rfl⟩:=List.getElem_of_mem hy
 have:=(casc_prop k m i (by omega) (by omega) hi).2.2.2
 rw[List.getD_eq_getElem?_getD,List.getElem?_eq_getElem hi,Option.getD_some]at this
 unfold I64
 omega
theorem small_fld (ts:List (List UInt8)):Shrt (ansFld lstE lstX ts):=by
 refine Shrt.opt fun x hx=> ?_
 simp only[Option.bind_eq_some_iff,Option.some.injEq]at hx
 obtain⟨P,h0,K,h1,rfl⟩:=hx
 refine Shrt.ite fun h=> ?_
 have ho:¬ordF P K=0:=fun h2=>by
  unfold lstE at h
  rw[if_pos h2]at h
  cases h
 obtain⟨P',K',e1,e2,_,p2,p61,_,k6,_,_⟩:=ord_pos ho
 have hl:(nZ (dgL P (lstN P K) K)).length=K:=by rw[nZ,List.length_map,dgL_len]
 refine Shrt.ints (fun x hx2=> ?_) (by unfold lstX;omega)
 obtain⟨y,hy,rfl⟩:=List.mem_map.1 hx2
 obtain⟨i,hi,rfl⟩:=List.getElem_of_mem hy
 have:=dgL_lt (P:=P) (n:=lstN P K) (by omega) K i
 rw[List.getD_eq_getElem?_getD,List.getElem?_eq_getElem hi,Option.getD_some]at this
 unfold I64
 omega
theorem small_tim (ts:List (List UInt8)):Shrt (ansTim lstE (fun a0 a1 a2 a3=>wiE a0 a1 (lstX a0 a1) [(a2:Int),(a3:Int)]) (fun a0 a1 a2 a3=>mulR a0 a1 (lstX a0 a1) a2 a3) ts):=by
 refine Shrt.opt fun x hx=> ?_
 simp only[Option.bind_eq_some_iff,Option.some.injEq]at hx
 obtain⟨a2,h2,a3,h3,a0,h0,a1,h1,rfl⟩:=hx
 exact Shrt.ite fun h=>Shrt.ite fun h2=>Shrt.int (mulR_I _ _ _ _ _)
theorem small_ext (ts:List (List UInt8)):Shrt (ansExt extE (fun n rs=>ofN (extC n rs)) ts):=by
 refine Shrt.opt fun x hx=> ?_
 simp only[Option.bind_eq_some_iff,Option.some.injEq]at hx
 obtain⟨n,h0,rs,h1,rfl⟩:=hx
 refine Shrt.ite fun h=> ?_
 obtain⟨h3,h4,h5,h6⟩:=extE_zero h
 refine Shrt.rows (fun m hm=> ?_) (by unfold sqR;rw[List.length_map,List.length_range];omega)
 unfold sqR at hm
 obtain⟨i,hi,rfl⟩:=List.mem_map.1 hm
 refine⟨fun x hx=> ?_,by rw[List.length_take];omega⟩
 have hx2:=List.mem_of_mem_drop (List.mem_of_mem_take hx)
 unfold ofN at hx2
 obtain⟨y,hy,rfl⟩:=List.mem_map.1 hx2
 have:=h6 y hy
 unfold I64
 omega
theorem wr_lenU {N:Nat} {f:Nat→Nat} (hN:N≤12) (P:Pm N f):(wrT f N).length≤2000:=by
 have h:=longs_len hN P N (Nat.le_refl _)
 unfold wrT allT
 split
 ·simp
 ·omega
theorem small_cyc (ts:List (List UInt8)):Shrt (ansCyc (fun a=>permE (intsN a)) (fun a=>if permE (intsN a)=0 then wrT (fL (intsN a)) (intsN a).length else[]) ts):=by
 refine Shrt.opt fun x hx=> ?_
 simp only[Option.bind_eq_some_iff,Option.some.injEq]at hx
 obtain⟨a,h0,rfl⟩:=hx
 refine Shrt.ite fun h=> ?_
 rw[if_pos h]
 have P:=pm_of h
 have:=wr_lenU P.n12 P.pm
 unfold Shrt
 omega
theorem Shrt.cond {c:Prop} [Decidable c] {x y:List UInt8} (h1:Shrt x) (h2:Shrt y):Shrt (if c then x else y):=by
 by_cases h:c
 ·rw[if_pos h];exact h1
 ·rw[if_neg h];exact h2
theorem Shrt.badT:Shrt badT:=by
 unfold Shrt Go.Proofs.YtnnaadmegeeinaaGreatDoor.badT
 decide
theorem pks_small:SmallA pks.A:=fun T ts=>by
 have h:Shrt (pks.A T ts):=Shrt.cond (small_fld ts) <|Shrt.cond (small_tim ts) <|Shrt.cond (small_row ts) <|Shrt.cond (small_lea ts) <|Shrt.cond (small_cyc ts) <|Shrt.cond (small_ord ts) <|Shrt.cond (small_bea ts) <|Shrt.cond (small_ext ts) <|Shrt.cond (small_lev ts) <|Shrt.cond (small_tri ts) <|Shrt.cond (small_dif ts) <|Shrt.cond (small_rul ts) <|Shrt.cond (small_gau ts) <|Shrt.cond (small_ben ts) <|Shrt.cond (small_rao ts) <|Shrt.cond (small_cir ts) <|Shrt.cond (small_cou ts) <|Shrt.cond (small_bru ts) <|Shrt.cond (small_cas ts) <|Shrt.badT
 unfold Shrt at h
 omega
theorem Run_is (s:List UInt8) (w:World) (hW:RunW w) (hs:s.length≤140737488355328):
 Calls Tryz.prog 5 #[.string (str s)] w fun e w'=>e= .returned (.string (str (runT pks.A s)))∧Below w.heap.size w w':=
 run_any pks.A pks.cmds pks_small s w hW hs
theorem numD (d:Nat) (h:d<10):numP [UInt8.ofNat (48+d)]=some d:=by
 have h1:∀d,d<10→Lib.atoiAll [UInt8.ofNat (48+d)]= .ok (d:Int):=by decide
 have h2:Lib.itoa (d:Int)=[UInt8.ofNat (48+d)]:=by
  unfold Lib.itoa
  rw[if_neg (by omega),Int.toNat_natCast,Lib.decDigits,dif_pos h]
 rw[numP_ok (h1 d h),if_pos ⟨by simp,by omega,h2⟩,Int.toNat_natCast]
def factB:List (List Nat):=[[1,2,0],[1,0,2]]
theorem fact_rows:rowsP [49,44,50,44,48,47,49,44,48,44,50]=some factB:=by
 have n0:numP [48]=some 0:=numD 0 (by decide)
 have n1:numP [49]=some 1:=numD 1 (by decide)
 have n2:numP [50]=some 2:=numD 2 (by decide)
 have s1:spl 47 [49,44,50,44,48,47,49,44,48,44,50]=[[49,44,50,44,48],[49,44,48,44,50]]:=by decide+kernel
 have s2:spl 44 [49,44,50,44,48]=[[49],[50],[48]]:=by decide+kernel
 have s3:spl 44 [49,44,48,44,50]=[[49],[48],[50]]:=by decide+kernel
 unfold rowsP
 rw[if_neg (by decide),s1]
 have m1:numsP [49,44,50,44,48]=some [1,2,0]:=by
  unfold numsP
  rw[if_neg (by decide),s2]
  simp[List.mapM_cons,n0,n1,n2]
 have m2:numsP [49,44,48,44,50]=some [1,0,2]:=by
  unfold numsP
  rw[if_neg (by decide),s3]
  simp[List.mapM_cons,n0,n1,n2]
 simp[List.mapM_cons,m1,m2,factB]
def wordF (ms:List (Nat→Nat)):List Nat→Nat→Nat
 |[]=>id
 |k::ks=>compF (wordF ms ks) (ms.getD k id)
theorem wordF_gen {ms:List (Nat→Nat)}:∀ks:List Nat,(∀k∈ks,k<ms.length)→GenF ms (wordF ms ks)
 |[],_=>GenF.one
 |k::ks,h=>by
  have hk:=h k (by simp)
  refine GenF.step (wordF_gen ks fun x hx=>h x (by simp[hx])) ?_
  rw[List.getD_eq_getElem?_getD,List.getElem?_eq_getElem hk,Option.getD_some]
  exact List.getElem_mem hk
def factW:List (List Nat):=[[],[1,0],[1],[0],[0,0],[0,1]]
theorem fact_err:grpE 3 (factB.map intsN)=0:=by decide+kernel
theorem fact_all:∀k,k<6→∀j,j<3→wordF (msL 3 (factB.map intsN)) (factW.getD k []) j=unF 3 k j:=by decide+kernel
theorem fact_gen (k:Nat) (hk:k<6):GenF (msL 3 (factB.map intsN)) (unF 3 k):=by
 obtain⟨N,hN,hG⟩:=gok_of fact_err
 obtain rfl:N=3:=by omega
 have hs:∀k,k<6→∀x∈factW.getD k [],x<2:=by decide
 have hg:=wordF_gen (ms:=msL 3 (factB.map intsN)) (factW.getD k []) (hs k hk)
 have hm:=hg.mv hG.mv
 have e:wordF (msL 3 (factB.map intsN)) (factW.getD k [])=unF 3 k:=by
  funext j
  by_cases hj:j<3
  ·exact fact_all k hk j hj
  ·rw[hm.st j (by omega)]
   unfold unF
   rw[if_neg hj]
 rw[←e]
 exact hg
theorem fact_len:(GL 3 (msL 3 (factB.map intsN))).length=6:=by
 unfold GL
 rw[List.length_map]
 have h6:fac 3=6:=by decide
 rw[h6,List.filter_eq_self.2,List.length_range]
 intro k hk
 exact @decide_eq_true _ (_) (fact_gen k (List.mem_range.1 hk))
def factT:List UInt8:=[111,114,100,101,114,32,51,32,49,44,50,44,48,47,49,44,48,44,50,10,102,108,121]
theorem ansL_yes {A:List UInt8→List (List UInt8)→List UInt8} {s T:List UInt8} {ts:List (List UInt8)} {k F:Nat} (h1:spl 32 s=T::ts) (h2:cmdOf T=some (k,F)) (h3:ts.length=k):ansL A s=A T ts:=by
 unfold ansL
 rw[h1]
 have e:(T::ts).getD 0 []=T:=rfl
 rw[e,h2]
 simp only[List.length_cons,h3,if_true]
 rfl
theorem ansL_no {A:List UInt8→List (List UInt8)→List UInt8} {s T:List UInt8} {ts:List (List UInt8)} (h1:spl 32 s=T::ts) (h2:cmdOf T=none):ansL A s=badT:=by
 unfold ansL
 rw[h1]
 have e:(T::ts).getD 0 []=T:=rfl
 rw[e,h2]
theorem fact_ord:ansL pks.A [111,114,100,101,114,32,51,32,49,44,50,44,48,47,49,44,48,44,50]=[54]:=by
 have s1:spl 32 [111,114,100,101,114,32,51,32,49,44,50,44,48,47,49,44,48,44,50]=[[111,114,100,101,114],[51],[49,44,50,44,48,47,49,44,48,44,50]]:=by decide+kernel
 have hc:∃F,cmdOf [111,114,100,101,114]=some (2,F):=⟨_,rfl⟩
 obtain⟨F,hc⟩:=hc
 have n3:numP [51]=some 3:=numD 3 (by decide)
 have i6:Lib.itoa ((6:Nat):Int)=[54]:=by
  unfold Lib.itoa
  rw[if_neg (by decide),Int.toNat_natCast,Lib.decDigits,dif_pos (by decide)]
  rfl
 rw[ansL_yes s1 hc rfl,Pks.A_order]
 show ansOrd (fun a0 a1=>grpE a0 (a1.map intsN)) ordX _=_
 unfold ansOrd
 show((numP [51]).bind fun a0=>(rowsP [49,44,50,44,48,47,49,44,48,44,50]).bind fun a1=>_).getD badT=_
 rw[n3,fact_rows]
 have he:grpE ((3:Nat):Int) (factB.map intsN)=0:=fact_err
 have ho:ordX 3 factB=((6:Nat):Int):=by
  unfold ordX
  rw[if_pos he]
  exact congrArg Nat.cast fact_len
 simp only[Option.bind_some,Option.getD_some]
 rw[if_pos he,ho,i6]
theorem fact_fly:ansL pks.A [102,108,121]=[98,97,100]:=by
 have s1:spl 32 [102,108,121]=[[102,108,121]]:=by decide+kernel
 have hc:cmdOf [102,108,121]=none:=rfl
 exact ansL_no s1 hc
theorem fact_is:runT pks.A factT=[54,10,98,97,100,10]:=by
 have h1:Lib.cut factT [10]=([111,114,100,101,114,32,51,32,49,44,50,44,48,47,49,44,48,44,50],[102,108,121],true):=by decide+kernel
 have h2:Lib.cut [102,108,121] [10]=([102,108,121],[],false):=by decide+kernel
 unfold runT
 rw[if_neg (by decide),runL_step pks.A (Nat.le_refl _) (by decide),h1,runL_step pks.A (by decide) (by decide),h2,runL_nil]
 show(ansL pks.A [111,114,100,101,114,32,51,32,49,44,50,44,48,47,49,44,48,44,50]++[10])++(ansL pks.A [102,108,121]++[10]++[])=_
 rw[fact_ord,fact_fly]
 rfl
theorem str_take (T:List UInt8) (a:Nat):(str T).extract 0 a=str (T.take a):=by
 have h:((str T).extract 0 a).data.toList=T.take a:=by
  rw[ByteArray.data_extract,Array.toList_extract,str_data]
  simp[List.extract]
 have h2:str ((str T).extract 0 a).data.toList=(str T).extract 0 a:=rfl
 rw[←h2,h]
theorem str_at (T:List UInt8) (i:Nat) (h:i<(str T).size):(str T)[i]'h=T.getD i 0:=by
 have h2:i<T.length:=by rw[←str_size];exact h
 have h3:(str T)[i]'h=T[i]:=rfl
 rw[h3,List.getD_eq_getElem?_getD,List.getElem?_eq_getElem h2]
 rfl
theorem ends_nl {T:List UInt8} {a:Nat} (h:a<T.length) (hb:T.getD a 0=10):EndsNl (T.take (a+1)):=by
 right
 rw[List.getD_eq_getElem?_getD,List.getElem?_eq_getElem h,Option.getD_some]at hb
 rw[List.take_add_one,List.getElem?_eq_getElem h,hb]
 simp
theorem runBegins_walk (w:World) (hW:RunW w) (T:List UInt8) (hT:T.length≤140737488355328) (n:Int) (hn:I64 n):
 Calls Tryz.prog 4 #[.string (str T),.int .i64 n] w fun e w'=>e= .returned (.bool true)∧Below w.heap.size w w':=by
 obtain⟨q,hq,HF⟩:∃q:ByteArray,(q.toList==[54,10,98,97,100,10])=true∧Hid (Calls Tryz.prog 5 #[.string ⟨#[111,114,100,101,114,32,51,32,49,44,50,44,48,47,49,44,48,44,50,10,102,108,121]⟩] w fun e w'=>e= .returned (.string q)∧Below w.heap.size w w'):=
  ⟨str (runT pks.A factT),by rw[fact_is,Lib.toList_data,str_data];rfl,hid (Run_is factT w hW (by decide))⟩
 have HRUN:=hid (fun(t:List UInt8) (w1:World) (ht:t.length≤140737488355328) (hb:Below w.heap.size w w1)=>Run_is t w1 (hW.below hb) ht)
 have hsz:=str_size T
 have HIX:=hid (str_at T)
 have HSL:=hid (str_take T)
 have HPRE:=hid (fun(a:Nat) (h:T.length≤8000) (he:EndsNl (T.take a))=>runT_begins pks.A (n:=a) h he)
 have HNL:=hid (fun(a:Nat) (h:a<T.length) (hb:T.getD a 0=10)=>ends_nl h hb)
 have HI:=hid hn
 have HTL:=hid hT
 clear hW hn hT
 generalize hA:pks.A=A at*
 clear hA
 by_cases hbig:8000<T.length
 ·have hbi:(8000:Int)<(T.length:Int):=by omega
  go_enter Tryz.func4,Tryz.ntmps4
  go_wp2_with fail
  refine HF.out.mono ?_
  rintro e w1 ⟨rfl,hb1⟩
  have HB1:=hid hb1
  clear hb1 HF
  go_wp2
  go_ret
  exact⟨rfl,HB1.out⟩
 have hbi:¬(8000:Int)<(T.length:Int):=by omega
 by_cases hneg:n<0
 ·go_enter Tryz.func4,Tryz.ntmps4
  go_wp2_with fail
  refine HF.out.mono ?_
  rintro e w1 ⟨rfl,hb1⟩
  have HB1:=hid hb1
  clear hb1 HF
  go_wp2
  go_ret
  exact⟨rfl,HB1.out⟩
 obtain⟨m0,rfl⟩:∃m0:Nat,n=m0:=⟨n.toNat,by omega⟩
 have hm9:(m0:Int)≤9223372036854775807:=HI.out.2
 go_enter Tryz.func4,Tryz.ntmps4
 go_wp2_with fail
 refine HF.out.mono ?_
 rintro e w1 ⟨rfl,hb1⟩
 have HB1:=hid hb1
 clear hb1 HF
 go_wp2_with fail
 go_loopw [1,6] (fun nv av wr=>∃m a:Nat,nv= .int .i64 m∧av= .int .i64 a∧m≤m0∧a≤T.length∧Hid (m=0→EndsNl (T.take a))∧wr=w1) (fun _ av _=>T.length-(intOf av).toNat)
 case atStart=>exact⟨m0,0,rfl,rfl,Nat.le_refl _,Nat.zero_le _,hid (fun _=> .inl rfl),rfl⟩
 case round=>
  obtain⟨m,a,rfl,rfl,hm,ha,HE,rfl⟩:=hrel
  by_cases hgo:0<m∧a<T.length
  ·obtain⟨h0,h1⟩:=hgo
   have h0i:(0:Int)<(m:Int):=by omega
   have h1i:(a:Int)<(T.length:Int):=by omega
   have hby:=HIX.out a (by rw[hsz];exact h1)
   have hn2:=hid (HNL.out a h1)
   generalize T.getD a 0=b at*
   by_cases hb:b=10
   ·have hb1:(b.toNat:Int)=10:=by rw[hb];rfl
    have hb2:((b.toNat:Int)==10)=true:=by rw[hb1];rfl
    have hs:(m:Int)-1=((m-1:Nat):Int):=by omega
    have HN:=hid (hn2.out hb)
    clear hn2 hb
    go_wp2_with fail
    go_roundw
    case rel=>exact⟨m-1,a+1,by go_num,by go_num,by omega,by omega,hid (fun _=>HN.out),by first|rfl|trivial⟩
    case measure=>simp[intOf]<;>omega
   ·have hb1:¬(b.toNat:Int)=10:=fun h=>hb (UInt8.toNat_inj.1 (by have:(10:UInt8).toNat=10:=rfl;omega))
    have hb2:((b.toNat:Int)==10)=false:=beq_eq_false_iff_ne.2 hb1
    clear hn2 hb
    go_wp2_with fail
    go_roundw
    case rel=>exact⟨m,a+1,rfl,by go_num,hm,by omega,hid (fun h=>by omega),by first|rfl|trivial⟩
    case measure=>simp[intOf]<;>omega
  ·have HR1:=hid (HRUN.out T wr HTL.out HB1.out)
   have HR2:=hid (fun(w2:World) (hb:Below w.heap.size w w2)=>HRUN.out (T.take a) w2 (by rw[List.length_take];omega) hb)
   have HS2:=hid (HSL.out a)
   by_cases ha0:a=0
   ·subst ha0
    have hz:((str (runT A (T.take 0))).toList==[])=true:=by rw[Lib.toList_data,str_data,List.take_zero];rfl
    generalize str (runT A (T.take 0))=t at*
    generalize str (runT A T)=s at*
    by_cases h0:0<m
    ·have h0i:(0:Int)<(m:Int):=by omega
     have h1i:¬(0:Int)<(T.length:Int):=by omega
     clear hgo
     go_wp2_with fail
     refine HR1.out.mono ?_
     rintro e w2 ⟨rfl,hb2⟩
     have HB2:=hid (HB1.out.trans (hb2.mono HB1.out.size))
     clear hb2 HR1
     go_wp2_with fail
     first|rw[HS2.out]|skip
     refine(HR2.out _ HB2.out).mono ?_
     rintro e w3 ⟨rfl,hb3⟩
     have HB3:=hid (HB2.out.trans (hb3.mono HB2.out.size))
     clear hb3 HR2
     go_wp2
     go_ret
     exact⟨rfl,HB3.out⟩
    ·have h0i:¬(0:Int)<(m:Int):=by omega
     clear hgo
     go_wp2_with fail
     refine HR1.out.mono ?_
     rintro e w2 ⟨rfl,hb2⟩
     have HB2:=hid (HB1.out.trans (hb2.mono HB1.out.size))
     clear hb2 HR1
     go_wp2_with fail
     first|rw[HS2.out]|skip
     refine(HR2.out _ HB2.out).mono ?_
     rintro e w3 ⟨rfl,hb3⟩
     have HB3:=hid (HB2.out.trans (hb3.mono HB2.out.size))
     clear hb3 HR2
     go_wp2
     go_ret
     exact⟨rfl,HB3.out⟩
   ·have ha1:¬(a:Int)=0:=by omega
    have ha2:((a:Int)==0)=false:=beq_eq_false_iff_ne.2 ha1
    by_cases h0:0<m
    ·have h0i:(0:Int)<(m:Int):=by omega
     have haT:a=T.length:=by omega
     have h1i:¬(a:Int)<(T.length:Int):=by omega
     have he:T.take a=T:=List.take_of_length_le (by omega)
     rw[he]at HR2 HS2
     have hz:((str (runT A T)).toList==(str (runT A T)).toList)=true:=by simp
     generalize str (runT A T)=s at*
     clear hgo haT he
     go_wp2_with fail
     refine HR1.out.mono ?_
     rintro e w2 ⟨rfl,hb2⟩
     have HB2:=hid (HB1.out.trans (hb2.mono HB1.out.size))
     clear hb2 HR1
     go_wp2_with fail
     rw[HS2.out]
     refine(HR2.out _ HB2.out).mono ?_
     rintro e w3 ⟨rfl,hb3⟩
     have HB3:=hid (HB2.out.trans (hb3.mono HB2.out.size))
     clear hb3 HR2
     go_wp2
     go_ret
     exact⟨rfl,HB3.out⟩
    ·have h0i:¬(0:Int)<(m:Int):=by omega
     obtain⟨r,hr⟩:=HPRE.out a (by omega) (HE.out (by omega))
     have HX:Hid ((str (runT A T)).extract 0 (runT A (T.take a)).length=str (runT A (T.take a))):=hid (by rw[str_take,←hr,List.take_left])
     have hs1:(str (runT A T)).size=(runT A T).length:=str_size _
     have hs2:(str (runT A (T.take a))).size=(runT A (T.take a)).length:=str_size _
     have hle:(runT A (T.take a)).length≤(runT A T).length:=by rw[←hr,List.length_append];omega
     have hli:((runT A (T.take a)).length:Int)≤((runT A T).length:Int):=by omega
     have hz:((str (runT A (T.take a))).toList==(str (runT A (T.take a))).toList)=true:=by simp
     clear hr
     generalize (runT A T).length=ls at*
     generalize (runT A (T.take a)).length=lt at*
     generalize str (runT A T)=s at*
     generalize str (runT A (T.take a))=t at*
     clear hgo
     go_wp2_with fail
     refine HR1.out.mono ?_
     rintro e w2 ⟨rfl,hb2⟩
     have HB2:=hid (HB1.out.trans (hb2.mono HB1.out.size))
     clear hb2 HR1
     go_wp2_with fail
     rw[HS2.out]
     refine(HR2.out _ HB2.out).mono ?_
     rintro e w3 ⟨rfl,hb3⟩
     have HB3:=hid (HB2.out.trans (hb3.mono HB2.out.size))
     have hx:=HX.out
     clear hb3 HR2
     go_wp2
     go_ret
     exact⟨by simp_all,HB3.out⟩
end Go.Proofs.YtnnaadmegeeinaaGreatDoor
