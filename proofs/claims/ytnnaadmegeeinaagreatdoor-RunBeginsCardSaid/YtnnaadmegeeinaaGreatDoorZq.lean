/-
  Part 17 of a proof: what it proves stands in the last text.
-/
import Derived.Test.YtnnaadmegeeinaaGreatDoorZc
import Derived.Test.YtnnaadmegeeinaaGreatDoorZb
import Derived.Test.YtnnaadmegeeinaaGreatDoorZp
import Derived.BigQuiet
import Derived.Test.YtnnaadmegeeinaaGreatDoorZh
import Derived.Test.YtnnaadmegeeinaaGreatDoorZj
import Derived.Test.YtnnaadmegeeinaaGreatDoorZl
import Derived.Test.YtnnaadmegeeinaaGreatDoorZk
import Derived.Deep.MidRow
import Derived.Laws.CopyOwn
set_option linter.unusedVariables false
set_option maxHeartbeats 8000000
set_option maxRecDepth 100000
namespace Go.Proofs.YtnnaadmegeeinaaGreatDoor
open Go.RowKit
section
variable {B U:Nat} {w w1:World} {v v':Value} {R n:Nat} {g cp:Nat→Nat} {M:Nat→Nat→Int}
end
def leastE (p:Int) (seen:List Int):Int:=if smallB p=false then 1 else if 60<seen.length then 3 else if fitB p seen=false then 1 else 0
theorem LeastOf_bad (p:Int) (v:Value) (seen:List Int) (w:World) (hv:Sl w v seen) (h:leastE p seen≠0):
 Calls Tryz.prog 62 #[.int .i64 p,v] w fun e w'=>e= .returned (.tuple #[.int .i64 0,.slice none 0 0,.int .i64 (leastE p seen)])∧Below w.heap.size w w':=by
 have HSM:=hid (small_any p w)
 have HBE:=hid (below_any p v seen w hv)
 obtain⟨sv,sc,N,rfl,hN,hl1,hl2⟩:=hv.open
 have HE:=hid (show leastE p seen=if smallB p=false then 1 else if 60<N then 3 else if fitB p seen=false then 1 else 0 by rw[←hN.out];rfl)
 clear hl2 hv
 generalize leastE p seen=z at*
 generalize smallB p=s at*
 generalize fitB p seen=f at*
 cases s with
 |false=>
  obtain rfl:=HE.out
  go_enter Tryz.func62,Tryz.ntmps62
  go_wp2_with fail
  refine HSM.out.mono ?_
  rintro e w0 ⟨rfl,rfl⟩
  go_wp2
  go_ret3
  exact⟨rfl,Below.refl _ _⟩
 |true=>
  by_cases h8:60<N
  ·have h8i:(60:Int)<(N:Int):=by omega
   obtain rfl:z=3:=by rw[HE.out];simp[h8]
   go_enter Tryz.func62,Tryz.ntmps62
   go_wp2_with fail
   refine HSM.out.mono ?_
   rintro e w0 ⟨rfl,rfl⟩
   go_wp2
   go_ret3
   exact⟨rfl,Below.refl _ _⟩
  ·have h8i:¬(60:Int)<(N:Int):=by omega
   cases f with
   |true=>exact absurd (by rw[HE.out];simp[h8]) h
   |false=>
    obtain rfl:z=1:=by rw[HE.out];simp[h8]
    go_enter Tryz.func62,Tryz.ntmps62
    go_wp2_with fail
    refine HSM.out.mono ?_
    rintro e w0 ⟨rfl,rfl⟩
    go_wp2_with fail
    refine HBE.out.mono ?_
    rintro e w1 ⟨rfl,m1,rfl⟩
    go_wp2
    go_ret3
    exact⟨rfl,below_drewN (Below.refl _ _) m1⟩
theorem RLeast_bad (p:Int) (v:Value) (seen:List Int) (w:World) (hv:Sl w v seen) (hi64:∀x∈seen,I64 x) (h:leastE p seen≠0):
 Calls Tryz.prog 37 #[.int .i64 p,v] w fun e w'=>e= .returned (.tuple #[.int .i64 0,.slice none 0 0,.int .i64 (leastE p seen)])∧Below w.heap.size w w':=by
 have HSM:=hid (fun w1=>modulo_any p w1)
 have HBE:=hid (fun w1 (hb:Below w.heap.size w w1)=>fit_any p v seen w1 (hv.below hb) hi64)
 obtain⟨sv,sc,N,rfl,hN,hl1,hl2⟩:=hv.open
 have HE:=hid (show leastE p seen=if smallB p=false then 1 else if 60<N then 3 else if fitB p seen=false then 1 else 0 by rw[←hN.out];rfl)
 clear hl2 hv
 generalize leastE p seen=z at*
 generalize smallB p=s at*
 generalize fitB p seen=f at*
 cases s with
 |false=>
  obtain rfl:=HE.out
  go_enter Tryz.func37,Tryz.ntmps37
  go_wp2_with fail
  refine(HSM.out _).mono ?_
  rintro e w0 ⟨rfl,rfl⟩
  go_wp2
  go_ret3
  exact⟨rfl,Below.refl _ _⟩
 |true=>
  by_cases h8:60<N
  ·have h8i:(60:Int)<(N:Int):=by omega
   obtain rfl:z=3:=by rw[HE.out];simp[h8]
   go_enter Tryz.func37,Tryz.ntmps37
   go_wp2_with fail
   refine(HSM.out _).mono ?_
   rintro e w0 ⟨rfl,rfl⟩
   go_wp2
   go_ret3
   exact⟨rfl,Below.refl _ _⟩
  ·have h8i:¬(60:Int)<(N:Int):=by omega
   cases f with
   |true=>exact absurd (by rw[HE.out];simp[h8]) h
   |false=>
    obtain rfl:z=1:=by rw[HE.out];simp[h8]
    go_enter Tryz.func37,Tryz.ntmps37
    go_wp2_with fail
    refine(HSM.out _).mono ?_
    rintro e w0 ⟨rfl,rfl⟩
    go_wp2_with fail
    refine(HBE.out _ (Below.refl _ _)).mono ?_
    rintro e w1 ⟨rfl,hb⟩
    go_wp2
    go_ret3
    exact⟨rfl,hb⟩
end Go.Proofs.YtnnaadmegeeinaaGreatDoor
namespace Go.Proofs.YtnnaadmegeeinaaGreatDoor
open Go.RowKit
def memE (n:Int) (l:List Int):Int:=if permE l≠0 then permE l else if((l.length:Nat):Int)≠n then 2 else 0
def firstE (n:Int):List (List Int)→Int
 |[]=>0
 |l::ls=>if memE n l≠0 then memE n l else firstE n ls
def grpE (n:Int) (ll:List (List Int)):Int:=if n<1∨7<n then 1 else if 4<ll.length then 3 else firstE n ll
theorem firstE_zero {n:Int}:∀{ll:List (List Int)},firstE n ll=0→∀l∈ll,memE n l=0
 |[],_,l,hl=>by cases hl
 |m::ls,h,l,hl=>by
  unfold firstE at h
  by_cases hm:memE n m=0
  ·rw[if_neg (by rw[hm];decide)]at h
   rcases List.mem_cons.1 hl with rfl|hl
   ·exact hm
   ·exact firstE_zero h l hl
  ·rw[if_pos hm]at h;exact absurd h hm
theorem memE_zero {n:Int} {l:List Int} (h:memE n l=0):permE l=0∧((l.length:Nat):Int)=n:=by
 unfold memE at h
 by_cases h1:permE l=0
 ·rw[if_neg (by rw[h1];decide)]at h
  refine⟨h1,?_⟩
  by_cases h2:((l.length:Nat):Int)=n
  ·exact h2
  ·rw[if_pos h2]at h;cases h
 ·rw[if_pos h1]at h;exact absurd h h1
theorem grpE_zero {n:Int} {ll:List (List Int)} (h:grpE n ll=0):(1≤n∧n≤7)∧ll.length≤4∧∀l∈ll,permE l=0∧((l.length:Nat):Int)=n:=by
 unfold grpE at h
 by_cases h1:n<1∨7<n
 ·rw[if_pos h1]at h;cases h
 rw[if_neg h1]at h
 by_cases h2:4<ll.length
 ·rw[if_pos h2]at h;cases h
 rw[if_neg h2]at h
 exact⟨by omega,by omega,fun l hl=>memE_zero (firstE_zero h l hl)⟩
theorem first_step {n:Int} {ll:List (List Int)} {k:Nat} (h:k<ll.length):firstE n (ll.drop k)=if memE n (ll.getD k [])≠0 then memE n (ll.getD k [])else firstE n (ll.drop (k+1)):=by
 rw[List.drop_eq_getElem_cons h,firstE,List.getD_eq_getElem?_getD,List.getElem?_eq_getElem h,Option.getD_some]
theorem first_end {n:Int} {ll:List (List Int)} {k:Nat} (h:ll.length≤k):firstE n (ll.drop k)=0:=by
 rw[List.drop_eq_nil_of_le h,firstE]
theorem grp_far {n:Int} {ll:List (List Int)} (h:n<1∨7<n):grpE n ll=1:=if_pos h
theorem grp_full {n:Int} {ll:List (List Int)} (h:¬(n<1∨7<n)) (h2:4<ll.length):grpE n ll=3:=by
 unfold grpE;rw[if_neg h,if_pos h2]
theorem grp_rest {n:Int} {ll:List (List Int)} (h:¬(n<1∨7<n)) (h2:¬4<ll.length):grpE n ll=firstE n (ll.drop 0):=by
 unfold grpE;rw[if_neg h,if_neg h2,List.drop_zero]
theorem member_any (n:Int) (v:Value) (l:List Int) (w:World) (hl:Sl w v l):
 Calls Tryz.prog 151 #[.int .i64 n,v] w fun e w'=>e= .returned (.int .i64 (memE n l))∧∃q,w'=w.drewN q:=by
 obtain⟨a,c,e1⟩:=hl.len
 subst e1
 have HP:=hid (fun q=>permfault_any _ l (w.drewN q) (hl.drewN q))
 have HM:Hid (memE n l=if permE l≠0 then permE l else if((l.length:Nat):Int)≠n then 2 else 0):=hid rfl
 generalize memE n l=M at*
 generalize permE l=E at*
 generalize l.length=N at*
 clear hl
 by_cases h1:E=0
 ·subst h1
  have HM2:Hid (M=if((N:Nat):Int)≠n then 2 else 0):=hid (by rw[HM.out,if_neg (by decide)])
  clear HM
  by_cases h2:(N:Int)=n
  ·obtain rfl:M=0:=by rw[HM2.out,if_neg (by rw[h2];exact fun h=>h rfl)]
   subst h2
   go_enter Tryz.func151,Tryz.ntmps151
   go_wp2_with fail
   refine(HP.out 0).mono ?_
   rintro e w1 ⟨rfl,q,rfl⟩
   go_wp2
   go_ret
   exact⟨rfl,q,rfl⟩
  ·obtain rfl:M=2:=by rw[HM2.out,if_pos h2]
   have hb:(((N:Nat):Int) !=n)=true:=bne_iff_ne.2 h2
   go_enter Tryz.func151,Tryz.ntmps151
   go_wp2_with fail
   refine(HP.out 0).mono ?_
   rintro e w1 ⟨rfl,q,rfl⟩
   go_wp2
   go_ret
   exact⟨rfl,q,rfl⟩
 ·obtain rfl:M=E:=by rw[HM.out,if_pos h1]
  have hb:(M !=0)=true:=bne_iff_ne.2 h1
  go_enter Tryz.func151,Tryz.ntmps151
  go_wp2_with fail
  refine(HP.out 0).mono ?_
  rintro e w1 ⟨rfl,q,rfl⟩
  go_wp2
  go_ret
  exact⟨rfl,q,rfl⟩
theorem gfault_any (n:Int) (v:Value) (ll:List (List Int)) (w:World) (hl:RL w v ll):
 Calls Tryz.prog 65 #[.int .i64 n,v] w fun e w'=>e= .returned (.int .i64 (grpE n ll))∧∃q,w'=w.drewN q:=by
 obtain⟨a,c,N,rfl,hN,hc1,hc2⟩:=hl.open
 by_cases h1:n<1
 ·have HE:=hid (grp_far (ll:=ll) (.inl h1))
  go_enter Tryz.func65,Tryz.ntmps65
  go_wp2
  go_ret
  exact⟨by rw[HE.out];rfl,0,rfl⟩
 by_cases h2:7<n
 ·have HE:=hid (grp_far (ll:=ll) (.inr h2))
  go_enter Tryz.func65,Tryz.ntmps65
  go_wp2
  go_ret
  exact⟨by rw[HE.out];rfl,0,rfl⟩
 by_cases h3:4<N
 ·have HE:=hid (grp_full (n:=n) (ll:=ll) (by omega) (by rw[hN.out];exact h3))
  have h3i:(4:Int)<(N:Int):=by omega
  go_enter Tryz.func65,Tryz.ntmps65
  go_wp2
  go_ret
  exact⟨by rw[HE.out];rfl,0,rfl⟩
 have HE:=hid (grp_rest (n:=n) (ll:=ll) (by omega) (by rw[hN.out];exact h3))
 have HST:=hid (fun k (h:k<N)=>first_step (n:=n) (ll:=ll) (k:=k) (by rw[hN.out];exact h))
 have HEN:=hid (fun k (h:N≤k)=>first_end (n:=n) (ll:=ll) (k:=k) (by rw[hN.out];exact h))
 have HM:=hid (fun(u:Value) (l:List Int) (w1:World) hu=>member_any n u l w1 hu)
 generalize grpE n ll=E at*
 have h3i:¬(4:Int)<(N:Int):=by omega
 go_enter Tryz.func65,Tryz.ntmps65
 go_wp2_with fail
 go_loopw [5,6] (fun i _ wr=>∃k:Nat,k≤N∧i= .int .i64 k∧(∃q,wr=w.drewN q)∧Hid (E=firstE n (ll.drop k))) (fun i _ _=>N-(intOf i).toNat)
 case atStart=>exact⟨0,Nat.zero_le _,rfl,⟨0,rfl⟩,hid HE.out⟩
 case round=>
  clear HE
  obtain⟨k,hk,rfl,⟨q,hq⟩,HE⟩:=hrel
  by_cases hlt:k<N
  ·have hki:(k:Int)<(N:Int):=by omega
   obtain⟨g,off,rfl,hg,hc⟩:=hc2 (by omega)
   obtain⟨u,c1,s1⟩:=hc k hlt
   have s1':Sl wr u (ll.getD k []):=by rw[hq];exact s1.drewN _
   have c1':wr.cell? ⟨g,off+k,none⟩=some u:=by rw[hq];exact c1
   have HMK:=hid (HM.out u _ wr s1')
   have HSK:=hid (HST.out k hlt)
   have HQ:=hid hq
   clear s1 s1' c1 hq hc hc2 hl HST
   by_cases hz:memE n (ll.getD k [])=0
   ·have HEK:Hid (E=firstE n (ll.drop (k+1))):=hid (by rw[HE.out,HSK.out,if_neg (by rw[hz];decide)])
    rw[hz]at HMK
    clear hz HSK
    go_wp2_with fail
    refine HMK.out.mono ?_
    rintro e w1 ⟨rfl,q1,rfl⟩
    go_wp2
    go_roundw
    case rel=>exact⟨k+1,by omega,by go_num,by rw[HQ.out];simp only[World.drewN_drewN];exact⟨_,rfl⟩,hid HEK.out⟩
    case measure=>simp[intOf]<;>omega
   ·have HEK:Hid (E=memE n (ll.getD k [])):=hid (by rw[HE.out,HSK.out,if_pos hz])
    have hb:(memE n (ll.getD k []) !=0)=true:=bne_iff_ne.2 hz
    clear hz HSK
    generalize memE n (ll.getD k [])=M at*
    go_wp2_with fail
    refine HMK.out.mono ?_
    rintro e w1 ⟨rfl,q1,rfl⟩
    go_wp2
    go_ret
    refine⟨by rw[HEK.out];rfl,?_⟩
    rw[HQ.out];simp only[World.drewN_drewN];exact⟨_,rfl⟩
  ·have hki:¬(k:Int)<(N:Int):=by omega
   have HZ:=hid (HE.out.trans (HEN.out k (by omega)))
   subst hq
   go_wp2
   go_ret
   exact⟨by rw[HZ.out];rfl,q,rfl⟩
theorem gcheck_any (n:Int) (v:Value) (ll:List (List Int)) (w:World) (hl:RL w v ll):
 Calls Tryz.prog 192 #[.int .i64 n,v] w fun e w'=>e= .returned (.int .i64 (grpE n ll))∧Below w.heap.size w w':=by
 obtain⟨a,c,N,rfl,hN,hc1,hc2⟩:=hl.open
 by_cases h1:n<1
 ·have HE:=hid (grp_far (ll:=ll) (.inl h1))
  go_enter Tryz.func192,Tryz.ntmps192
  go_wp2
  go_ret
  exact⟨by rw[HE.out];rfl,Below.refl _ _⟩
 by_cases h2:7<n
 ·have HE:=hid (grp_far (ll:=ll) (.inr h2))
  go_enter Tryz.func192,Tryz.ntmps192
  go_wp2
  go_ret
  exact⟨by rw[HE.out];rfl,Below.refl _ _⟩
 by_cases h3:4<N
 ·have HE:=hid (grp_full (n:=n) (ll:=ll) (by omega) (by rw[hN.out];exact h3))
  have h3i:(4:Int)<(N:Int):=by omega
  go_enter Tryz.func192,Tryz.ntmps192
  go_wp2
  go_ret
  exact⟨by rw[HE.out];rfl,Below.refl _ _⟩
 have HE:=hid (grp_rest (n:=n) (ll:=ll) (by omega) (by rw[hN.out];exact h3))
 have HST:=hid (fun k (h:k<N)=>first_step (n:=n) (ll:=ll) (k:=k) (by rw[hN.out];exact h))
 have HEN:=hid (fun k (h:N≤k)=>first_end (n:=n) (ll:=ll) (k:=k) (by rw[hN.out];exact h))
 have HM:=hid (fun(u:Value) (l:List Int) (w1:World) hu=>check_any u l w1 hu)
 generalize grpE n ll=E at*
 have h3i:¬(4:Int)<(N:Int):=by omega
 go_enter Tryz.func192,Tryz.ntmps192
 go_wp2_with fail
 go_loopw [6,7,21] (fun _ _ i wr=>∃k:Nat,k≤N∧i= .int .i64 k∧Below w.heap.size w wr∧Hid (E=firstE n (ll.drop k))) (fun _ _ i _=>N-(intOf i).toNat)
 case atStart=>exact⟨0,Nat.zero_le _,rfl,Below.refl _ _,hid HE.out⟩
 case round=>
  clear HE
  obtain⟨k,hk,rfl,hq,HE⟩:=hrel
  by_cases hlt:k<N
  ·have hki:(k:Int)<(N:Int):=by omega
   obtain⟨g,off,rfl,hg,hc⟩:=hc2 (by omega)
   obtain⟨u,c1,s1⟩:=hc k hlt
   have s1':Sl wr u (ll.getD k []):=s1.below hq
   obtain⟨ua,uc,e1⟩:=s1'.len
   subst e1
   have c1':=(hq.cell (p:=⟨g,off+k,none⟩) hg).trans c1
   have HMK:=hid (HM.out _ _ wr s1')
   have HSK:=hid (HST.out k hlt)
   have HQ:=hid hq
   clear s1 s1' c1 hq hc hc2 hl HST
   have HME:Hid (memE n (ll.getD k [])=if permE (ll.getD k [])≠0 then permE (ll.getD k [])else if(((ll.getD k []).length:Nat):Int)≠n then 2 else 0):=hid rfl
   generalize memE n (ll.getD k [])=M at*
   generalize permE (ll.getD k [])=E' at*
   generalize (ll.getD k []).length=L at*
   by_cases hz:E'=0
   ·subst hz
    by_cases hy:(L:Int)=n
    ·obtain rfl:M=0:=by rw[HME.out,if_neg (by decide),if_neg (by rw[hy];exact fun h=>h rfl)]
     have HEK:Hid (E=firstE n (ll.drop (k+1))):=hid (by rw[HE.out,HSK.out,if_neg (by decide)])
     clear HSK HME
     subst hy
     go_wp2_with fail
     refine HMK.out.mono ?_
     rintro e w1 ⟨rfl,hb1⟩
     have HB:=hid (HQ.out.trans (hb1.mono HQ.out.size))
     clear hb1
     go_wp2
     go_roundw
     case rel=>exact⟨k+1,by omega,by go_num,HB.out,hid HEK.out⟩
     case measure=>simp[intOf]<;>omega
    ·obtain rfl:M=2:=by rw[HME.out,if_neg (by decide),if_pos hy]
     have HEK:Hid (E=2):=hid (by rw[HE.out,HSK.out,if_pos (by decide)])
     have hb:(((L:Nat):Int) !=n)=true:=bne_iff_ne.2 hy
     clear HSK HME hy
     go_wp2_with fail
     refine HMK.out.mono ?_
     rintro e w1 ⟨rfl,hb1⟩
     have HB:=hid (HQ.out.trans (hb1.mono HQ.out.size))
     clear hb1
     go_wp2
     go_ret
     exact⟨by rw[HEK.out];rfl,HB.out⟩
   ·obtain rfl:M=E':=by rw[HME.out,if_pos hz]
    have HEK:Hid (E=M):=hid (by rw[HE.out,HSK.out,if_pos hz])
    have hb:(M !=0)=true:=bne_iff_ne.2 hz
    clear hz HSK HME
    go_wp2_with fail
    refine HMK.out.mono ?_
    rintro e w1 ⟨rfl,hb1⟩
    have HB:=hid (HQ.out.trans (hb1.mono HQ.out.size))
    clear hb1
    go_wp2
    go_ret
    exact⟨by rw[HEK.out];rfl,HB.out⟩
  ·have hki:¬(k:Int)<(N:Int):=by omega
   have HZ:=hid (HE.out.trans (HEN.out k (by omega)))
   have HQ:=hid hq
   clear hq
   go_wp2
   go_ret
   exact⟨by rw[HZ.out];rfl,HQ.out⟩
def mvF (n:Nat) (f:Nat→Nat) (i:Nat):Nat:=if i<n then f i else i
theorem mvF_mv {n:Nat} {f:Nat→Nat} (P:Pm n f):Mv n (mvF n f):=by
 refine⟨⟨fun i hi=> ?_,fun i j hi hj h=> ?_⟩,fun i hi=>if_neg (by omega)⟩
 ·unfold mvF;rw[if_pos hi];exact P.lt i hi
 ·unfold mvF at h;rw[if_pos hi,if_pos hj]at h;exact P.inj i j hi hj h
theorem Mv.lt7 {n:Nat} {f:Nat→Nat} (P:Mv n f) (hn:n≤7):∀i,i<7→f i<7:=fun i hi=>by
 by_cases h:i<n
 ·have:=P.pm.lt i h;omega
 ·rw[P.st i (by omega)];exact hi
theorem moveof_ok (v:Value) (l:List Int) (N:Nat) (f:Nat→Nat) (w:World) (hl:Sl w v l) (P:PmL l N f) (h1:1≤N) (h7:N≤7):
 Calls Tryz.prog 193 #[v] w fun e w'=>e= .returned (mvV (mvF N f))∧Below w.heap.size w w':=by
 have HST:=hid (fun w1=>gstay_ok w1)
 have hat:=P.at'
 obtain⟨a,c,N',rfl,hN,hl1,hl2⟩:=hl.open
 obtain rfl:N'=N:=by rw[←hN.out];exact P.len
 obtain⟨b,off,rfl,hb,hc⟩:=hl2 (by omega)
 have HC:Hid (∀i,i<N'→w.cell? ⟨b,off+i,none⟩=some (.int .i64 (f i:Int))):=hid (fun i hi=>by rw[hc i hi,hat i hi])
 have hcut:splice (mvC id) 0 ((List.range N').map fun i=>Value.int .i64 ((f i:Nat):Int))=mvC (mvF N' f):=by
  refine List.ext_getElem? fun j=> ?_
  unfold splice
  rw[List.take_zero,List.nil_append,List.length_map,List.length_range,Nat.zero_add]
  by_cases hj:j<N'
  ·rw[List.getElem?_append_left (by simpa using hj),mvC_get (by omega),List.getElem?_map,List.getElem?_range hj]
   simp[mvF,hj]
  ·rw[List.getElem?_append_right (by simp;omega),List.length_map,List.length_range,List.getElem?_drop,show N'+(j-N')=j by omega]
   by_cases hj7:j<7
   ·rw[mvC_get hj7,mvC_get hj7]
    simp[mvF,hj]
   ·rw[List.getElem?_eq_none (by rw[mvC_len];omega),List.getElem?_eq_none (by rw[mvC_len];omega)]
 have HCUT:=hid hcut
 clear hl hl2 hc hat P hN hcut
 go_enter Tryz.func193,Tryz.ntmps193
 go_wp2_with fail
 have hb0:Below w.heap.size w (w.alloc (.cells (mvC fun _=>0).toArray 179)):=(Below.refl _ _).alloc (Nat.le_refl _) _
 have hA1:Arr (w.alloc (.cells (mvC fun _=>0).toArray 179)) w.heap.size 179 (mvC fun _=>0):=Arr.new w _ _
 refine(HST.out _).mono ?_
 rintro e w1 ⟨rfl,hb1⟩
 have hA1':=hA1.below hb1
 have B1:=hb0.trans (hb1.mono hb0.size)
 clear hA1 hb0 hb1
 have hs1:w.heap.size+1≤w1.heap.size:=by have:=hA1'.lt;omega
 have hA2:Arr (w1.alloc (.cells #[.int .i64 0,.int .i64 0,.int .i64 0,.int .i64 0,.int .i64 0,.int .i64 0,.int .i64 0] 179)) w1.heap.size 179 (mvC fun _=>0):=Arr.new w1 _ _
 have i2:(Tryz.prog.info? 179).map (·.size)=some (mvC id).length:=by rw[mvC_len];exact mv_info
 have hb2:Below (w.heap.size+1) w1 (w1.alloc (.cells #[.int .i64 0,.int .i64 0,.int .i64 0,.int .i64 0,.int .i64 0,.int .i64 0,.int .i64 0] 179)):=(Below.refl _ _).alloc hs1 _
 have hzs:(w1.alloc (.cells #[.int .i64 0,.int .i64 0,.int .i64 0,.int .i64 0,.int .i64 0,.int .i64 0,.int .i64 0] 179)).heap.size=w1.heap.size+1:=World.size_alloc _ _
 obtain⟨cs,hcs⟩:∃cs,((List.range N').map fun i=>Value.int .i64 ((f i:Nat):Int))=cs:=⟨_,rfl⟩
 have hcl:cs.length=N':=by rw[←hcs];simp
 have hc1:∀v∈cs,v.oneCell'=true:=by
  intro v hv
  rw[←hcs]at hv
  obtain⟨i,_,rfl⟩:=List.mem_map.1 hv
  rfl
 have hsrc:∀w2,Below (w.heap.size+1) w1 w2→∀j v,cs[j]? =some v→w2.cell? ((⟨b,off,none⟩:Addr).add j)=some v:=by
  intro w2 hbl j v hv
  have hj:j<N':=by rw[←hcl];exact(List.getElem?_eq_some_iff.1 hv).1
  rw[←hcs,List.getElem?_map,List.getElem?_range hj]at hv
  rw[Addr.add_mid,(hbl.cell (p:=⟨b,off+j,none⟩) (by show b<w.heap.size+1;omega)),(B1.cell (p:=⟨b,off+j,none⟩) hb),HC.out j hj]
  exact hv
 rw[hcs]at HCUT
 have i3:(Tryz.prog.info? 179).map (·.size)=some (mvC (mvF N' f)).length:=by rw[mvC_len];exact mv_info
 have hmin:cs.length=Nat.min N' 7:=by rw[hcl];exact(Nat.min_eq_left h7).symm
 have HM:=hid hmin
 have HSRC:=hid hsrc
 have HA1:=hid hA1'
 have HA2:=hid hA2
 have HB1:=hid B1
 have HB2:=hid hb2
 have HCL:=hid hcl
 have HZS:=hid hzs
 clear hmin hsrc hb2 hA1' B1 hcs hA2 hcl hzs
 unfold mvV
 go_wp2_with (first
  |(refine wpList_store_arr rfl 179 _ _ rfl w1.heap.size (mvC id) rfl rfl HA2.out (by rw[mvC_len,mvC_len]) i2 (mvC_one _) ?_
    intro w2 hA3 hg3
    have HA3:=hid hA3
    have HB3:=hid (HB2.out.grown hg3 (by rw[HZS.out];omega) (fun b e=>by cases e;exact hs1))
    clear hA3 hg3)
  |(refine wpList_copy_splice rfl _ _ 45 45 rfl 3 Tryz.underlying45 (by kernel_rfl) _ _ _ _ _ _ rfl rfl w1.heap.size 0 (mvC id) 179 HA3.out cs HM.out (fun _=>⟨rfl,_,rfl,HSRC.out _ HB3.out⟩) (by rw[mvC_len];have:=HCL.out;omega) hc1 (w.heap.size+1) w1 HB3.out hs1 ?_
    intro w3 HG2 hB2
    have hA4:Arr w3 w1.heap.size 179 (mvC (mvF N' f)):=by have:=HG2.out;rw[HCUT.out]at this;exact this
    have HA5:Hid (Arr w3 w.heap.size 179 (mvC fun _=>0)):=hid ((hB2.block w.heap.size (by omega)).trans HA1.out)
    have r2:=hA4.range
    have HB9:=hid (HB1.out.trans (hB2.mono (by omega)))
    clear hA4 HG2 hB2)
  |(refine wpList_load_mid rfl 179 _ rfl w1.heap.size 0 rfl (mvC (mvF N' f)) _ r2 Tryz.underlying179 rfl i3 ?_;clear r2)
  |(refine wpList_store_arr rfl 179 _ _ rfl w.heap.size (mvC (mvF N' f)) rfl rfl HA5.out (by rw[mvC_len,mvC_len]) i3 (mvC_one _) ?_
    intro w4 hA6 hg6
    have HA6:=hid hA6
    have HBX:=hid (HB9.out.grown hg6 HB9.out.size (fun b e=>by cases e;exact Nat.le_refl _))
    clear hA6 hg6)
  |fail)
 have hrd:=HA6.out.range
 have hld:=run_loadVar_mid (P:=Tryz.prog) _ _ _ 179 _ _ hrd Tryz.underlying179 rfl i3
 refine⟨rfl,.agg (mvC (mvF N' f)).toArray,?_,rfl,HBX.out⟩
 show((results _ _).run _ _)=_
 simp[results,Tryz.f193,asAddr,Act.put,hld]
end Go.Proofs.YtnnaadmegeeinaaGreatDoor
namespace Go.Proofs.YtnnaadmegeeinaaGreatDoor
open Go.RowKit
def flM:List (Nat→Nat)→List Value
 |[]=>[]
 |x::l=>mvC x++flM l
theorem flM_len:∀l,(flM l).length=l.length*7
 |[]=>rfl
 |x::l=>by simp only[flM,List.length_append,List.length_cons,flM_len l,mvC_len];omega
theorem flM_app:∀(l m:List (Nat→Nat)),flM (l++m)=flM l++flM m
 |[],m=>rfl
 |x::l,m=>by simp[flM,flM_app l m]
theorem flM_at:∀(l:List (Nat→Nat)) (i j:Nat),i<l.length→j<7→(flM l)[i*7+j]? =(mvC (l.getD i id))[j]?
 |x::l,0,j,_,hj=>by
  simp only[flM]
  rw[List.getElem?_append_left (by rw[mvC_len];omega)]
  simp
 |x::l,i+1,j,h,hj=>by
  simp only[flM]
  rw[List.getElem?_append_right (by rw[mvC_len];omega),mvC_len,show(i+1)*7+j-7=i*7+j by omega,flM_at l i j (by simpa using h) hj]
  simp[List.getD_eq_getElem?_getD]
def OM (B:Nat) (w:World) (v:Value) (l:List (Nat→Nat)):Prop:=w.ownsRow B 179 7 v l.length (flM l)
section
variable {B:Nat} {w w':World} {v:Value} {l:List (Nat→Nat)}
theorem OM.nil (B:Nat) (w:World):OM B w (.slice none 0 0) []:=World.ownsRow_nil _ _ _ _
theorem OM.lt (h:OM B w v l):∀k,v.ownBlock=some k→B≤k∧k<w.heap.size:=World.ownsRow.lt h
theorem OM.kept {row:Option Nat} (h:OM B w v l) (hg:w.grownBy w' row) (hne:v.ownBlock=none∨v.ownBlock≠row):OM B w' v l:=World.ownsRow.kept h hg hne
theorem OM.below (h:OM B w v l) (hb:Below w.heap.size w w'):OM B w' v l:=by
 obtain⟨h1,h2⟩:=h
 refine⟨h1,h2.imp id ?_⟩
 rintro⟨g,cap,cur,e,hg,hh,r⟩
 exact⟨g,cap,cur,e,hg,by rw[hb.block g (Array.getElem?_eq_some_iff.1 hh).1];exact hh,r⟩
theorem OM.len (h:OM B w v l):∃a c,v= .slice a l.length c:=by
 rcases h.2 with⟨rfl,h0⟩|⟨g,cap,cur,rfl,_⟩
 ·exact⟨none,0,by rw[h0]⟩
 ·exact⟨_,_,rfl⟩
theorem OM.form (h:OM B w v l) (hn:0<l.length):∃g c,v= .slice (some ⟨g,0,none⟩) l.length c∧B≤g∧g<w.heap.size:=World.ownsRow.form h hn
theorem OM.range {g n c:Nat} (h:OM B w (.slice (some ⟨g,0,none⟩) n c) l) {i:Nat} (hi:i<l.length):w.rangeAt g (i*7) (mvC (l.getD i id)):=by
 intro j v hv
 have hj:j<7:=by have:=(List.getElem?_eq_some_iff.1 hv).1;rwa [mvC_len]at this
 have hc:=World.ownsRow.cells h (g:=g) rfl
 rw[←flM_at l i j hi hj]at hv
 have:=hc _ _ hv
 rwa [Addr.add_mid,Nat.zero_add]at this
end
theorem Tryz.info179:(Tryz.prog.info? 179).map (fun i=>(i.zero,i.size,i.bytes))=some (some (.agg #[.int .i64 0,.int .i64 0,.int .i64 0,.int .i64 0,.int .i64 0,.int .i64 0,.int .i64 0]),7,56):=by kernel_rfl
theorem wpList_appm {P:Program} {ops:Array Oper} {rest:List Oper} {o:Oper} {a:Act} {Q:Exit→Act→World→Prop} {w:World} {H:Nat} (x:Nat→Nat) (w0:World) (s y:Operand) (st:TypeId)
 (hgd:o.guard=none) (ho:o.op= .call {callee:= .builtin .append,args:= #[s,y],argTypes:= #[st,st]})
 (ht:P.underlying st=some (.slice 179)) (hi:(P.info? 179).map (fun i=>(i.zero,i.size,i.bytes))=some (some (.agg #[.int .i64 0,.int .i64 0,.int .i64 0,.int .i64 0,.int .i64 0,.int .i64 0,.int .i64 0]),7,56))
 (B:Nat) (v:Value) (l:List (Nat→Nat)) (hs:a.eval s=v) (hown:OM B w0 v l) (hy:a.eval y= .slice (some ⟨H,0,none⟩) 1 1)
 (hlen:l.length≤1000000000) (hB:B≤w0.heap.size)
 (hr:w.rangeAt H 0 (mvC x))
 (h0:Below w0.heap.size w0 w)
 (h:∀g c w',OM B w' (.slice (some ⟨g,0,none⟩) (l.length+1) c) (l++[x])→w0.grownBy w' v.ownBlock→(v.ownBlock=some g∨w0.heap.size≤g)→g<w'.heap.size→wpList P ops Q rest (a.put o.dst (.slice (some ⟨g,0,none⟩) (l.length+1) c)) w'):
 wpList P ops Q (o::rest) a w:=by
 obtain⟨i0,hi1,hz0,hz1,hz2⟩:=info_parts hi
 have hsz:=h0.size
 refine Go.wpList_append_lies (P:=P) (w:=w) hgd s y st ho B 179 i0 (.agg #[.int .i64 0,.int .i64 0,.int .i64 0,.int .i64 0,.int .i64 0,.int .i64 0,.int .i64 0]) 7 56 ht hi1 hz0 hz1 hz2 rfl (by decide) v l.length (flM l) hs (hown.below h0) ⟨H,0,none⟩ 1 1 (mvC x) hy (by rw[mvC_len]) ?_ ?_ (by decide) ?_ ?_ (by omega) _ rfl ?_
 ·intro j u hj
  have:=hr j u hj
  rw[Addr.add_mid]
  exact this
 ·intro u hu
  obtain⟨i,_,rfl⟩:=List.mem_map.1 hu
  rfl
 ·unfold maxLen;omega
 ·omega
 ·intro g cap w' h1 h2 h3 h4
  refine h g cap w' ?_ ?_ ?_ h4
  ·unfold OM;rw[flM_app,List.length_append];simpa [flM]using h1
  ·exact⟨h2.os.trans h0.os,h2.tape.trans h0.tape,h2.output.trans h0.output,Nat.le_trans hsz h2.size,fun k hk hne=>(h2.block k (by omega) hne).trans (h0.block k hk)⟩
  ·rcases h3 with h3|h3
   ·exact .inl h3
   ·right;omega
end Go.Proofs.YtnnaadmegeeinaaGreatDoor
