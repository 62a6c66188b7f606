/-
  Part 4 of a proof: what it proves stands in the last text.
-/
import Derived.Test.YtnnaadmegeeinaaGreatDoorZc
import Derived.Test.YtnnaadmegeeinaaGreatDoorZa
import Derived.Deep.RegionLaw
import Derived.StillTailTactics
set_option linter.unusedVariables false
set_option maxHeartbeats 8000000
set_option maxRecDepth 100000
namespace Go.Proofs.YtnnaadmegeeinaaGreatDoor
open Go.RowKit
theorem pow_stepc (k j:Nat):k^(j+1)=k^j*k:=Nat.pow_succ k j
theorem pow_divc {p k:Nat} {z:Int} (hk:1≤k):z/(k:Int)<(p:Int)↔z<((p*k:Nat):Int):=by
 rw[Int.ediv_lt_iff_lt_mul (by omega)]
 simp
theorem pow_upc {k i n:Nat} (hk:1≤k) (h:i≤n):k^i≤k^n:=Nat.pow_le_pow_right hk h
theorem cpower_one (n:Int) (w:World):
 Calls Tryz.prog 195 #[.int .i64 1,.int .i64 n] w fun e w'=>e= .returned (.tuple #[.int .i64 1,.bool true])∧w=w':=by
 go_enter Tryz.func195,Tryz.ntmps195
 go_wp2
 go_ret2
 exact⟨rfl,rfl⟩
theorem cpower_ok2 (k n:Nat) (w:World) (hk:2≤k) (h:k^n≤1000000000000000000):
 Calls Tryz.prog 195 #[.int .i64 k,.int .i64 n] w fun e w'=>e= .returned (.tuple #[.int .i64 (k^n:Nat),.bool true])∧w=w':=by
 have hn:=fits60 hk h
 obtain⟨r,hr⟩:∃r,r=k^n:=⟨_,rfl⟩
 rw[←hr]at h⊢
 have HR:=hid hr
 clear hr
 have hk1:((k:Int)==1)=false:=by simp;omega
 go_enter Tryz.func195,Tryz.ntmps195
 go_wp2
 go_loop [6,10] (fun o i=>∃j p:Nat,j≤n∧i= .int .i64 j∧o= .int .i64 p∧Hid (p=k^j)) (fun _ i=>n-(intOf i).toNat)
 case atStart=>exact⟨0,1,Nat.zero_le _,rfl,rfl,hid rfl⟩
 case round=>
  obtain⟨j,p,hj,rfl,rfl,hp⟩:=hrel
  by_cases hlt:j<n
  ·have hpk:p*k≤r:=by rw[hp.out,←pow_stepc,HR.out];exact pow_upc (by omega) hlt
   have h1:¬(1000000000000000000:Int)/(k:Int)<(p:Int):=by rw[pow_divc (by omega)];omega
   have h2:(p:Int)*(k:Int)≤1000000000000000000:=by
    have:((p*k:Nat):Int)=(p:Int)*(k:Int):=by simp
    omega
   have h3:0≤(p:Int)*(k:Int):=Int.mul_nonneg (by omega) (by omega)
   clear hpk
   go_wp2
   go_round
   case rel=>exact⟨j+1,p*k,by omega,by go_num,by simp,hid (by rw[hp.out,pow_stepc])⟩
   case measure=>simp[intOf]<;>omega
  ·obtain rfl:j=n:=by omega
   obtain rfl:p=r:=by rw[hp.out,HR.out]
   go_wp2
   go_ret2
   exact⟨rfl,rfl⟩
theorem cpower_ok (k n:Nat) (w:World) (hk:1≤k) (h:k^n≤1000000000000000000):
 Calls Tryz.prog 195 #[.int .i64 k,.int .i64 n] w fun e w'=>e= .returned (.tuple #[.int .i64 (k^n:Nat),.bool true])∧w=w':=by
 by_cases h1:k=1
 ·subst h1
  rw[Nat.one_pow]
  exact cpower_one n w
 ·exact cpower_ok2 k n w (by omega) h
theorem cpower_no (k n:Nat) (w:World) (hk:2≤k) (hn:n≤9223372036854775807) (h:1000000000000000000<k^n):
 Calls Tryz.prog 195 #[.int .i64 k,.int .i64 n] w fun e w'=>e= .returned (.tuple #[.int .i64 0,.bool false])∧w=w':=by
 have H:=hid h
 clear h
 have hk1:((k:Int)==1)=false:=by simp;omega
 go_enter Tryz.func195,Tryz.ntmps195
 go_wp2
 go_loop [6,10] (fun o i=>∃j p:Nat,j≤n∧i= .int .i64 j∧o= .int .i64 p∧Hid (p=k^j)∧p≤1000000000000000000) (fun _ i=>n-(intOf i).toNat)
 case atStart=>exact⟨0,1,Nat.zero_le _,rfl,rfl,hid rfl,by omega⟩
 case round=>
  obtain⟨j,p,hj,rfl,rfl,hp,hpz⟩:=hrel
  by_cases hlt:j<n
  ·by_cases h1:(1000000000000000000:Int)/(k:Int)<(p:Int)
   ·go_wp2
    go_ret2
    exact⟨rfl,rfl⟩
   ·have h4:((p*k:Nat):Int)≤1000000000000000000:=by rw[pow_divc (by omega)]at h1;omega
    have h5:((p*k:Nat):Int)=(p:Int)*(k:Int):=by simp
    have h2:(p:Int)*(k:Int)≤1000000000000000000:=by omega
    have h3:0≤(p:Int)*(k:Int):=Int.mul_nonneg (by omega) (by omega)
    have H4:Hid (p*k≤1000000000000000000):=hid (by omega)
    clear h4 h5
    go_wp2
    go_round
    case rel=>exact⟨j+1,p*k,by omega,by go_num,by simp,hid (by rw[hp.out,pow_stepc]),H4.out⟩
    case measure=>simp[intOf]<;>omega
  ·exfalso
   obtain rfl:j=n:=by omega
   have:=H.out
   rw[←hp.out]at this
   omega
def ringE (n k:Int):Int:=if n<1∨k<1 then 1 else if 1000000000000000000<k.toNat^n.toNat then 3 else 0
theorem ringE_lo {n k:Int} (h:n<1∨k<1):ringE n k=1:=if_pos h
theorem ringE_hi {n k:Nat} (h1:1≤n) (h2:1≤k) (h:1000000000000000000<k^n):ringE n k=3:=by
 unfold ringE
 rw[if_neg (by omega),if_pos (by simpa using h)]
theorem ringE_ok {n k:Nat} (h1:1≤n) (h2:1≤k) (h:k^n≤1000000000000000000):ringE n k=0:=by
 unfold ringE
 rw[if_neg (by omega),if_neg (by simpa using h)]
theorem ccheck_any (n k:Int) (w:World) (i1:I64 n) (_:I64 k):
 Calls Tryz.prog 115 #[.int .i64 n,.int .i64 k] w fun e w'=>e= .returned (.int .i64 (ringE n k))∧w=w':=by
 by_cases h:n<1∨k<1
 ·rw[ringE_lo h]
  by_cases h1:n<1
  ·go_enter Tryz.func115,Tryz.ntmps115
   go_wp2
   all_goals (go_ret;exact⟨rfl,rfl⟩)
  ·have h2:k<1:=by omega
   go_enter Tryz.func115,Tryz.ntmps115
   go_wp2
   all_goals (go_ret;exact⟨rfl,rfl⟩)
 ·obtain⟨n,rfl⟩:∃m:Nat,n=(m:Int):=⟨n.toNat,by omega⟩
  obtain⟨k,rfl⟩:∃m:Nat,k=(m:Int):=⟨k.toNat,by omega⟩
  have hn1:1≤n:=by omega
  have hk1:1≤k:=by omega
  have hn2:n≤9223372036854775807:=by unfold I64 at i1;omega
  clear h i1
  by_cases h:1000000000000000000<k^n
  ·have hk2:2≤k:=by
    rcases Nat.lt_or_ge k 2 with h3|h3
    ·exfalso
     obtain rfl:k=1:=by omega
     rw[Nat.one_pow]at h
     omega
    ·exact h3
   rw[ringE_hi hn1 hk1 h]
   have H:=hid h
   clear h
   go_enter Tryz.func115,Tryz.ntmps115
   go_wp2_with fail
   refine(cpower_no k n w hk2 hn2 H.out).mono ?_
   rintro e w' ⟨rfl,rfl⟩
   go_wp2
   go_ret
   exact⟨rfl,rfl⟩
  ·rw[ringE_ok hn1 hk1 (by omega)]
   have H:=hid h
   clear h
   go_enter Tryz.func115,Tryz.ntmps115
   go_wp2_with fail
   refine(cpower_ok k n w hk1 (by have:=H.out;omega)).mono ?_
   rintro e w' ⟨rfl,rfl⟩
   go_wp2
   go_ret
   exact⟨rfl,rfl⟩
theorem turned_ok (n k:Nat) (w:World) (hk:2≤k) (h:k^n≤1000000000000000000):
 Calls Tryz.prog 116 #[.int .i64 n,.int .i64 k] w fun e w'=>e= .returned (.int .i64 (turnS k n n:Nat))∧∃m,w'=w.drewN m:=by
 have hn:=fits60 hk h
 have H:=hid h
 clear h
 go_enter Tryz.func116,Tryz.ntmps116
 go_wp2
 go_loopw [5,12] (fun s i wr=>∃t z:Nat,t≤n∧i= .int .i64 t∧s= .int .i64 z∧Hid (z=turnS k n t)∧∃m,wr=w.drewN m) (fun _ i _=>n-(intOf i).toNat)
 case atStart=>exact⟨0,0,Nat.zero_le _,rfl,rfl,hid rfl,0,rfl⟩
 case round=>
  obtain⟨t,z,ht,rfl,rfl,hz,m,rfl⟩:=hrel
  by_cases hlt:t<n
  ·have hb1:=turn_bd (k:=k) (n:=n) (by omega) H.out t ht
   rw[←hz.out]at hb1
   go_wp2
   go_loopw [7,8] (fun a b wr=>∃x y:Nat,a= .int .i64 x∧b= .int .i64 y∧Hid (Nat.gcd x y=Nat.gcd n t)∧y≤n∧x≤n∧∃m,wr=w.drewN m) (fun _ b _=>(intOf b).toNat)
   case atStart=>exact⟨n,t,rfl,rfl,hid rfl,ht,Nat.le_refl _,m,rfl⟩
   case round=>
    obtain⟨x,y,rfl,rfl,hg,hy,hx,m,rfl⟩:=hrel
    by_cases h0:y=0
    ·subst h0
     have hgx:x=Nat.gcd n t:=by rw[←hg.out,Nat.gcd_zero_right]
     have hp:k^x≤1000000000000000000:=by
      have hle:Nat.gcd n t≤n:=Nat.le_of_dvd (by omega) (Nat.gcd_dvd_left n t)
      exact Nat.le_trans (pow_upc (by omega) (by omega)) H.out
     have hs:turnS k n (t+1)=z+k^x:=by rw[hz.out,hgx];rfl
     have HS:=hid hs
     have HP:=hid hp
     clear hs hp hgx hg hz
     go_wp2_with fail
     refine(cpower_ok k x _ (by omega) HP.out).mono ?_
     rintro e w' ⟨rfl,rfl⟩
     obtain⟨q,hq⟩:∃q,q=k^x:=⟨_,rfl⟩
     have hqb:=HP.out
     have HS2:=HS.out
     rw[←hq]at hqb HS2⊢
     have HS3:=hid HS2
     clear HS HS2 hq
     go_wp2
     go_roundw
     case rel=>exact⟨t+1,z+q,by omega,by go_num,by go_num,hid HS3.out.symm,m,rfl⟩
     case measure=>simp[intOf]<;>omega
    ·have hm1:0≤(x:Int)%(y:Int):=Int.emod_nonneg _ (by omega)
     have hm2:(x:Int)%(y:Int)<(y:Int):=Int.emod_lt_of_pos _ (by omega)
     have hm3:x%y<y:=Nat.mod_lt _ (by omega)
     have hne:((y:Int) !=0)=true:=by simp;omega
     go_wp2
     go_quiet (fail)
     go_wp2
     go_roundw
     case rel=>exact⟨y,x%y,rfl,by simp,hid (by rw[←hg.out,Nat.gcd_comm y,←Nat.gcd_rec,Nat.gcd_comm]),by omega,hy,by first|exact⟨_,rfl⟩|(simp only[World.drewN_drewN];exact⟨_,rfl⟩)⟩
     case measure=>simp[intOf]<;>omega
  ·obtain rfl:t=n:=by omega
   obtain rfl:z=turnS k t t:=hz.out
   go_wp2
   go_ret
   exact⟨rfl,m,rfl⟩
def beadsN (n k:Nat):Int:=if k=1 then 1 else bsum k n n
theorem bsum_div {n k:Nat} (hn1:1≤n) (hn:n<61):((turnS k n n:Nat):Int)/(n:Int)=bsum k n n:=by
 rw[turn_bsum k n hn,Int.mul_ediv_cancel_left _ (by omega)]
theorem Beads_bad (n k:Int) (w:World) (i1:I64 n) (i2:I64 k) (h:ringE n k≠0):
 Calls Tryz.prog 46 #[.int .i64 n,.int .i64 k] w fun e w'=>e= .returned (.tuple #[.int .i64 0,.int .i64 (ringE n k)])∧w=w':=by
 have hb:(ringE n k !=0)=true:=by simpa using h
 have H:=hid (ccheck_any n k w i1 i2)
 generalize ringE n k=z at*
 go_enter Tryz.func46,Tryz.ntmps46
 go_wp2_with fail
 refine H.out.mono ?_
 rintro e w' ⟨rfl,rfl⟩
 go_wp2
 go_ret2
 exact⟨rfl,rfl⟩
theorem Beads_ok (n k:Nat) (w:World) (hn:1≤n) (hk:1≤k) (i1:I64 n) (i2:I64 k) (h:k^n≤1000000000000000000):
 Calls Tryz.prog 46 #[.int .i64 n,.int .i64 k] w fun e w'=>e= .returned (.tuple #[.int .i64 (beadsN n k),.int .i64 0])∧∃m,w'=w.drewN m:=by
 have H:=hid (ccheck_any n k w i1 i2)
 rw[ringE_ok hn hk h]at H
 by_cases hk1:k=1
 ·subst hk1
  have e1:beadsN n 1=1:=if_pos rfl
  rw[e1]
  clear e1 h
  go_enter Tryz.func46,Tryz.ntmps46
  go_wp2_with fail
  refine H.out.mono ?_
  rintro e w' ⟨rfl,rfl⟩
  go_wp2
  go_ret2
  exact⟨rfl,0,rfl⟩
 ·have e1:beadsN n k=bsum k n n:=if_neg hk1
  have hn60:=fits60 (k:=k) (by omega) h
  rw[e1,←bsum_div hn (by omega)]
  have hb:((k:Int)==1)=false:=by simp;omega
  have HT:=hid (turned_ok n k w (by omega) h)
  have hbd:=turn_bd (k:=k) (n:=n) hk h n (Nat.le_refl _)
  clear e1 h
  generalize turnS k n n=T at*
  have q1:0≤(T:Int)/(n:Int):=Int.ediv_nonneg (by omega) (by omega)
  have q2:(T:Int)/(n:Int)≤(T:Int):=Int.ediv_le_self _ (by omega)
  go_enter Tryz.func46,Tryz.ntmps46
  go_wp2_with fail
  refine H.out.mono ?_
  rintro e w' ⟨rfl,rfl⟩
  go_wp2_with fail
  refine HT.out.mono ?_
  rintro e w' ⟨rfl,m,rfl⟩
  go_wp2
  go_ret2
  exact⟨rfl,m,rfl⟩
end Go.Proofs.YtnnaadmegeeinaaGreatDoor
namespace Go.Proofs.YtnnaadmegeeinaaGreatDoor
theorem bit_or:∀k,k<8→∀i,i<256→(i&&&2^k=0→i.testBit k=false∧i|||2^k=i+2^k)∧(i&&&2^k≠0→i.testBit k=true):=by decide+kernel
theorem bit_in:∀n,n≤8→∀k,k<n→∀j,j<2^n→j.testBit k=false→j+2^k<2^n:=by decide+kernel
def clr (k j:Nat):Nat:=if j.testBit k then j-2^k else j
def stF (k i:Nat) (f:Nat→Int) (j:Nat):Int:=if clr k j<i then(if j.testBit k then f (j-2^k)-f j else f j+f (j+2^k))else f j
theorem stF_zero (k:Nat) (f:Nat→Int):stF k 0 f=f:=by
 funext j
 unfold stF
 rw[if_neg (by omega)]
theorem bit_ge {j k:Nat} (h:j.testBit k=true):2^k≤j:=Nat.ge_two_pow_of_testBit h
theorem bit_add {i k:Nat} (h:i.testBit k=false):(i+2^k).testBit k=true:=by
 rw[Nat.add_comm,Nat.testBit_two_pow_add_eq,h];rfl
theorem bit_sub {j k:Nat} (h:j.testBit k=true):(j-2^k).testBit k=false:=by
 have h1:=bit_ge h
 have h2:j.testBit k= !((j-2^k).testBit k):=by
  rw[←Nat.testBit_two_pow_add_eq]
  congr 1
  omega
 rw[h]at h2
 cases e:(j-2^k).testBit k with
 |false=>rfl
 |true=>rw[e]at h2;cases h2
theorem clr_bit (k j:Nat):(clr k j).testBit k=false:=by
 unfold clr
 split
 ·rename_i h;exact bit_sub h
 ·rename_i h;simpa using h
theorem clr_low {i k:Nat} (h:i.testBit k=false):clr k i=i:=by unfold clr;rw[h];rfl
theorem clr_high {i k:Nat} (h:i.testBit k=false):clr k (i+2^k)=i:=by
 unfold clr
 rw[if_pos (bit_add h)]
 omega
theorem clr_eq {i k j:Nat} (h:clr k j=i):j=i∨j=i+2^k:=by
 unfold clr at h
 split at h
 ·rename_i h1
  have:=bit_ge h1
  right;omega
 ·left;omega
theorem stF_skip {k i:Nat} {f:Nat→Int} (h:i.testBit k=true):stF k (i+1) f=stF k i f:=by
 funext j
 have h1:clr k j≠i:=fun e=>by
  have:=clr_bit k j
  rw[e,h]at this
  cases this
 unfold stF
 by_cases h2:clr k j<i
 ·rw[if_pos h2,if_pos (by omega)]
 ·rw[if_neg h2,if_neg (by omega)]
theorem stF_turn {k i:Nat} {f:Nat→Int} (h:i.testBit k=false) (j:Nat):stF k (i+1) f j=if j=i+2^k then stF k i f i-stF k i f (i+2^k)else if j=i then stF k i f i+stF k i f (i+2^k)else stF k i f j:=by
 have hp:0<2^k:=Nat.two_pow_pos k
 have e1:stF k i f i=f i:=by unfold stF;rw[if_neg (by rw[clr_low h];omega)]
 have e2:stF k i f (i+2^k)=f (i+2^k):=by unfold stF;rw[if_neg (by rw[clr_high h];omega)]
 rw[e1,e2]
 by_cases h1:j=i+2^k
 ·subst h1
  rw[if_pos rfl]
  unfold stF
  rw[if_pos (by rw[clr_high h];omega),if_pos (bit_add h),Nat.add_sub_cancel]
 ·rw[if_neg h1]
  by_cases h2:j=i
  ·subst h2
   rw[if_pos rfl]
   unfold stF
   rw[if_pos (by rw[clr_low h];omega),if_neg (by rw[h];decide)]
  ·rw[if_neg h2]
   have h3:clr k j≠i:=fun e=>by
    rcases clr_eq e with e|e
    ·exact h2 e
    ·exact h1 e
   unfold stF
   by_cases h4:clr k j<i
   ·rw[if_pos h4,if_pos (by omega)]
   ·rw[if_neg h4,if_neg (by omega)]
def InB (N:Nat) (M:Int) (f:Nat→Int):Prop:=∀j,j<N→-M≤f j∧f j≤M
theorem stF_bd {n k i:Nat} {M:Int} {f:Nat→Int} (hn:n≤8) (hk:k<n) (h:InB (2^n) M f):InB (2^n) (2*M) (stF k i f):=by
 intro j hj
 have h1:=h j hj
 unfold stF
 split
 ·split
  ·rename_i hb
   have h2:=h (j-2^k) (Nat.lt_of_le_of_lt (Nat.sub_le _ _) hj)
   omega
  ·rename_i hb
   have h2:=h (j+2^k) (bit_in n hn k hk j hj (by simpa using hb))
   omega
 ·omega
def spF (n:Nat) (f:Nat→Int):Nat→Nat→Int
 |0=>f
 |k+1=>stF k (2^n) (spF n f k)
theorem spF_bd {n:Nat} {f:Nat→Int} (hn:n≤8) (h:InB (2^n) 1 f):∀k,k≤n→InB (2^n) (2^k) (spF n f k)
 |0,_=>h
 |k+1,hk=>by
  have:=stF_bd (i:=2^n) hn (show k<n by omega) (spF_bd hn h k (by omega))
  rw[Int.pow_succ,Int.mul_comm]
  exact this
def grM (f:Nat→Int):Nat→Int
 |0=>0
 |i+1=>max (max (grM f i) (f i)) (-(f i))
def grL (f:Nat→Int):Nat→Int
 |0=>max (f 0) (-(f 0))
 |i+1=>min (grL f i) (max (f i) (-(f i)))
theorem grM_bd {N:Nat} {M:Int} {f:Nat→Int} (hM:0≤M) (h:InB N M f):∀i,i≤N→0≤grM f i∧grM f i≤M
 |0,_=>⟨Int.le_refl _,hM⟩
 |i+1,hi=>by
  have:=grM_bd hM h i (by omega)
  have:=h i (by omega)
  rw[grM]
  omega
theorem grL_bd {N:Nat} {M:Int} {f:Nat→Int} (h:InB N M f) (hN:0<N):∀i,i≤N→0≤grL f i∧grL f i≤M
 |0,_=>by
  have:=h 0 hN
  rw[grL]
  omega
 |i+1,hi=>by
  have:=grL_bd h hN i (by omega)
  have:=h i (by omega)
  rw[grL]
  omega
def sizB (N:Nat):Bool:=(List.range 9).any fun n=>decide (N=2^n)
theorem sizB_ex {N:Nat} (h:sizB N=true):∃n,n≤8∧N=2^n:=by
 unfold sizB at h
 rw[List.any_eq_true]at h
 obtain⟨n,hn,e⟩:=h
 have:=List.mem_range.1 hn
 exact⟨n,by omega,of_decide_eq_true e⟩
def logN (N:Nat):Nat:=if N=1 then 0 else if N=2 then 1 else if N=4 then 2 else if N=8 then 3 else if N=16 then 4 else if N=32 then 5 else if N=64 then 6 else if N=128 then 7 else 8
theorem logN_pow:∀n,n≤8→logN (2^n)=n:=by decide
def ofN (l:List Nat):List Int:=l.map fun x:Nat=>(x:Int)
theorem ofN_len (l:List Nat):(ofN l).length=l.length:=by simp[ofN]
theorem ofN_get (l:List Nat) (i:Nat):(ofN l).getD i 0=((l.getD i 0:Nat):Int):=by
 unfold ofN
 rw[List.getD_eq_getElem?_getD,List.getD_eq_getElem?_getD,List.getElem?_map]
 cases l[i]? <;>rfl
theorem ofN_snoc (l:List Nat) (x:Nat):ofN (l++[x])=ofN l++[(x:Int)]:=by simp[ofN]
theorem ofN_I64 {l:List Nat} (h:∀x∈l,x<1000000000):∀x∈ofN l,I64 x:=fun x hx=>by
 unfold ofN at hx
 obtain⟨y,hy,rfl⟩:=List.mem_map.1 hx
 have:=h y hy
 unfold I64
 omega
end Go.Proofs.YtnnaadmegeeinaaGreatDoor
namespace Go.Proofs.YtnnaadmegeeinaaGreatDoor
open Go.RowKit
theorem run_callFunc_own {P:Program} {f:FuncId} {fn:Func} (hf:P.funcs[f]? =some fn) (hn:(fn.name== "runtime.NumGoroutine")=false) (hb:fn.body.isNone=false) (args:Array Value) (w:World):
 (callFunc f args).run P w= .ok (.enter f args) w:=by
 unfold callFunc
 simp only[program,Sem.run_bind]
 simp[hf,hn,hb,Sem.run,Result.andThen]
structure Tests (c:FuncId) (cap:Array Value) (p:Int→Bool) (w:World):Prop where
 enter:∀(args:Array Value) (w:World),(callFunc c args).run Tryz.prog w= .ok (.enter c args) w
 calls:∀(x:Int),I64 x→Calls Tryz.prog c (#[.int .i64 x]++cap) w fun e w'=>e= .returned (.bool (p x))∧w=w'
theorem any_true {l:List Int} {p:Int→Bool} {k:Nat} (hk:k<l.length) (hp:p (l[k]?.getD 0)=true):l.any p=true:=by
 rw[List.any_eq_true]
 exact⟨l[k],List.getElem_mem hk,by simpa [hk]using hp⟩
theorem any_false {l:List Int} {p:Int→Bool} (h:∀k:Nat,k<l.length→p (l[k]?.getD 0)=false):l.any p=false:=by
 rw[List.any_eq_false]
 intro x hx
 obtain⟨k,hk,rfl⟩:=List.getElem_of_mem hx
 have:=h k hk
 simp[hk]at this
 simp[this]
def IdxOf (l:List Int) (p:Int→Bool) (r:Int):Prop:=if l.any p=true then 0≤r else r= -1
theorem indexFunc_any (c:FuncId) (cap:Array Value) (p:Int→Bool) (v:Value) (l:List Int) (w:World) (hl:Sl w v l) (hb:∀x∈l,I64 x) (ht:Tests c cap p w):
 Calls Tryz.prog 244 #[v,.func (.func c) #[] cap] w fun e w'=>(∃r:Int,e= .returned (.int .i64 r)∧IdxOf l p r)∧w=w':=by
 obtain⟨a,k,N,rfl,hN,hl1,hl2⟩:=hl.open
 have HT:=hid ht.calls
 have he:=ht.enter
 have HB:Hid (∀k:Nat,k<N→I64 (l[k]?.getD 0)):=by
  rw[←hN.out]
  intro k hk
  simpa [hk]using hb _ (List.getElem_mem hk)
 have HY:Hid (∀k:Nat,k<N→p (l[k]?.getD 0)=true→IdxOf l p k):=by
  rw[←hN.out]
  intro k hk hp
  unfold IdxOf
  rw[if_pos (any_true hk hp)]
  omega
 have HZ:Hid ((∀k:Nat,k<N→p (l[k]?.getD 0)=false)→IdxOf l p (-1)):=by
  rw[←hN.out]
  intro h
  unfold IdxOf
  rw[if_neg (by rw[any_false h];simp)]
 clear hl ht hb
 go_enter Tryz.func244,Tryz.ntmps244
 go_wp2
 go_loop [8] (fun i=>∃k:Nat,k≤N∧i= .int .i64 k∧Hid (∀j:Nat,j<k→p (l[j]?.getD 0)=false)) (fun i=>N-(intOf i).toNat)
 case atStart=>exact⟨0,Nat.zero_le _,rfl,hid (fun j hj=>by omega)⟩
 case round=>
  obtain⟨k,hk,rfl,hno⟩:=hrel
  by_cases hlt:k<N
  ·obtain⟨b,off,rfl,hb,hc⟩:=hl2 (by omega)
   have c1:=hc k hlt
   clear hc hl2
   go_wp2_with fail
   refine(HT.out _ (HB.out k hlt)).mono ?_
   rintro e w' ⟨rfl,rfl⟩
   cases hp:p (l[k]?.getD 0)with
   |false=>
    have HP:=hid hp
    clear hp
    go_wp2
    go_round
    case rel=>exact⟨k+1,by omega,by go_num,hid (fun j hj=>by
     by_cases e:j=k
     ·rw[e];exact HP.out
     ·exact hno.out j (by omega))⟩
    case measure=>simp[intOf]<;>omega
   |true=>
    have HP:=hid (HY.out k hlt hp)
    clear hp
    go_wp2
    go_ret
    exact⟨⟨_,rfl,HP.out⟩,rfl⟩
  ·obtain rfl:k=N:=by omega
   go_wp2
   go_ret
   exact⟨⟨_,rfl,HZ.out hno.out⟩,rfl⟩
theorem containsFunc_any (c:FuncId) (cap:Array Value) (p:Int→Bool) (v:Value) (l:List Int) (w:World) (hl:Sl w v l) (hb:∀x∈l,I64 x) (ht:Tests c cap p w):
 Calls Tryz.prog 190 #[v,.func (.func c) #[] cap] w fun e w'=>e= .returned (.bool (l.any p))∧w=w':=by
 have H:=hid (indexFunc_any c cap p v l w hl hb ht)
 clear ht
 go_enter Tryz.func190,Tryz.ntmps190
 go_wp2_with fail
 refine H.out.mono ?_
 rintro e w' ⟨⟨r,rfl,hr⟩,rfl⟩
 unfold IdxOf at hr
 cases hp:l.any p with
 |true=>
  rw[hp]at hr
  have hr2:0≤r:=by simpa using hr
  have HP:=hid hp
  clear hr hp
  go_wp2
  go_ret
  exact⟨by rw[HP.out];rfl,rfl⟩
 |false=>
  rw[hp]at hr
  have hr2:r<0:=by have:r= -1:=by simpa using hr
                   omega
  have HP:=hid hp
  clear hr hp
  go_wp2
  go_ret
  refine⟨?_,rfl⟩
  rw[HP.out]
  show Ending.returned (.bool (decide (0≤r)))=_
  rw[decide_eq_false (by omega)]
theorem sizB_of {n:Nat} (h:n≤8):sizB (2^n)=true:=by
 unfold sizB
 rw[List.any_eq_true]
 exact⟨n,List.mem_range.2 (by omega),by simp⟩
theorem sizB_not {N:Nat} (h:∀j,j<9→N≠2^j):sizB N=false:=by
 unfold sizB
 rw[List.any_eq_false]
 intro x hx
 simpa using h x (List.mem_range.1 hx)
def sizA (N:Nat):Nat×Int:=if sizB N=true then(logN N,0)else(0,2)
theorem sizA_pow {n:Nat} (h:n≤8):sizA (2^n)=(n,0):=by unfold sizA;rw[if_pos (sizB_of h),logN_pow n h]
theorem sizA_not {N:Nat} (h:∀j,j<9→N≠2^j):sizA N=(0,2):=by unfold sizA;rw[sizB_not h,if_neg (by decide)]
theorem size_any (a:Option Addr) (N c:Nat) (w:World) (hN:N≤100000):
 Calls Tryz.prog 287 #[.slice a N c] w fun e w'=>e= .returned (.tuple #[.int .i64 (sizA N).1,.int .i64 (sizA N).2])∧w=w':=by
 have HP:=hid (fun n (h:n≤8) (e:N=2^n)=>(by rw[e];exact sizA_pow h:sizA N=(n,(0:Int))))
 have HQ:=hid (fun h=>sizA_not (N:=N) h)
 generalize sizA N=z at*
 obtain⟨z1,z2⟩:=z
 dsimp only
 go_enter Tryz.func287,Tryz.ntmps287
 go_wp2
 go_loop [5] (fun i=>∃k:Nat,k≤9∧i= .int .i64 k∧Hid (∀j:Nat,j<k→N≠2^j)) (fun i=>9-(intOf i).toNat)
 case atStart=>exact⟨0,Nat.zero_le _,rfl,hid (fun j hj=>by omega)⟩
 case round=>
  obtain⟨k,hk,rfl,hno⟩:=hrel
  by_cases hlt:k<9
  ·have hli:(k:Int)<9:=by omega
   have h2p:(2:Int)^k=((2^k:Nat):Int):=by simp
   have hp2:2^k≤256:=Nat.le_trans (Nat.pow_le_pow_right (n:=2) (by omega) (show k≤8 by omega)) (by decide)
   by_cases he:N=2^k
   ·obtain⟨rfl,rfl⟩:=Prod.mk.inj (HP.out k (by omega) he)
    have hne:((N:Int)==((2^z1:Nat):Int))=true:=by rw[beq_iff_eq];omega
    clear he HP HQ hno
    generalize 2^z1=pw at*
    go_wp2
    go_ret2
    exact⟨rfl,rfl⟩
   ·have hne:((N:Int)==((2^k:Nat):Int))=false:=by rw[beq_eq_false_iff_ne];omega
    have HNO:Hid (∀j:Nat,j<k+1→N≠2^j):=hid (fun j hj=>by
     by_cases e:j=k
     ·rw[e];exact he
     ·exact hno.out j (by omega))
    clear he
    generalize 2^k=pw at*
    go_wp2
    go_round
    case rel=>exact⟨k+1,by omega,by go_num,HNO⟩
    case measure=>simp[intOf]<;>omega
  ·obtain rfl:k=9:=by omega
   have HE:=HQ.out hno.out
   obtain⟨rfl,rfl⟩:=Prod.mk.inj HE
   clear HE
   go_wp2
   go_ret2
   exact⟨rfl,rfl⟩
def badT01 (x:Int):Bool:=x !=0&&x !=1
theorem logN_le (N:Nat):logN N≤8:=by
 unfold logN
 repeat' split
 all_goals omega
theorem bcheck1_any (x:Int) (w:World):
 Calls Tryz.prog 288 #[.int .i64 x] w fun e w'=>e= .returned (.bool (badT01 x))∧w=w':=by
 by_cases h0:x=0
 ·subst h0
  go_enter Tryz.func288,Tryz.ntmps288
  go_wp2
  go_ret
  exact⟨rfl,rfl⟩
 ·have hE:Hid (badT01 x=(x !=0&&x !=1)):=hid rfl
  generalize badT01 x=z at*
  go_enter Tryz.func288,Tryz.ntmps288
  go_wp2
  go_ret
  exact⟨by rw[hE.out];trace_state;rfl,rfl⟩
theorem bcheck1_tests (w:World):Tests 288 #[] badT01 w where
 enter:=run_callFunc_own Tryz.func288 (by kernel_rfl) (by kernel_rfl)
 calls:=fun x hx=>bcheck1_any x w
def bchE (l:List Int):Int:=if sizB l.length=false then 2 else if l.any badT01=true then 1 else 0
theorem bcheck_any (v:Value) (l:List Int) (w:World) (hv:Sl w v l) (hi:∀x∈l,I64 x) (hl:l.length≤100000):
 Calls Tryz.prog 263 #[v] w fun e w'=>(∃n:Int,e= .returned (.tuple #[.int .i64 n,.int .i64 (bchE l)]))∧w=w':=by
 have HC:=hid (containsFunc_any _ _ _ v l w hv hi (bcheck1_tests w))
 obtain⟨a,c,N,rfl,hN,hl1,hl2⟩:=hv.open
 have HS:=hid (size_any a N c w (by rw[←hN.out];exact hl))
 have HE:Hid (bchE l=if sizB N=false then 2 else if l.any badT01=true then 1 else 0):=hid (by unfold bchE;rw[hN.out])
 have HA:Hid (sizA N=if sizB N=true then(logN N,0)else(0,2)):=hid rfl
 have HB:=hid (logN_le N)
 clear hl2 hv hN hl1 hi hl
 generalize bchE l=E at*
 generalize l.any badT01=anyb at*
 cases hs:sizB N with
 |false=>
  obtain⟨e1,e2⟩:=Prod.mk.inj ((show sizA N=((sizA N).1,(sizA N).2)from rfl).symm.trans (HA.out.trans (by rw[hs,if_neg (by decide)])))
  have e3:=HE.out
  rw[hs,if_pos rfl]at e3
  rw[e1,e2]at HS
  subst e3
  clear HA HE HB e1 e2 hs
  go_enter Tryz.func263,Tryz.ntmps263
  go_wp2_with fail
  refine HS.out.mono ?_
  rintro e w1 ⟨rfl,rfl⟩
  go_wp2
  go_ret2
  exact⟨⟨_,rfl⟩,rfl⟩
 |true=>
  obtain⟨e1,e2⟩:=Prod.mk.inj ((show sizA N=((sizA N).1,(sizA N).2)from rfl).symm.trans (HA.out.trans (by rw[hs,if_pos rfl])))
  have e3:=HE.out
  rw[hs,if_neg (by decide)]at e3
  rw[e1,e2]at HS
  have hlb:=HB.out
  clear HA HE HB e1 e2 hs
  generalize logN N=lg at*
  cases anyb with
  |false=>
   rw[if_neg (by decide)]at e3
   subst e3
   go_enter Tryz.func263,Tryz.ntmps263
   go_wp2_with fail
   refine HS.out.mono ?_
   rintro e w1 ⟨rfl,rfl⟩
   go_wp2_with fail
   refine HC.out.mono ?_
   rintro e w1 ⟨rfl,rfl⟩
   go_wp2
   go_ret2
   exact⟨⟨_,rfl⟩,rfl⟩
  |true=>
   rw[if_pos rfl]at e3
   subst e3
   go_enter Tryz.func263,Tryz.ntmps263
   go_wp2_with fail
   refine HS.out.mono ?_
   rintro e w1 ⟨rfl,rfl⟩
   go_wp2_with fail
   refine HC.out.mono ?_
   rintro e w1 ⟨rfl,rfl⟩
   go_wp2
   go_ret2
   exact⟨⟨_,rfl⟩,rfl⟩
theorem sums1_any (a b:Int) (w:World) (h: -100000≤a∧a≤100000) (h2: -100000≤b∧b≤100000):
 Calls Tryz.prog 290 #[.int .i64 a,.int .i64 b] w fun e w'=>e= .returned (.tuple #[.int .i64 (a+b),.int .i64 (a-b)])∧w=w':=by
 go_enter Tryz.func290,Tryz.ntmps290
 go_wp2
 go_ret2
 exact⟨rfl,rfl⟩
def fnL (N:Nat) (f:Nat→Int):List Int:=(List.range N).map f
theorem fnL_len (N:Nat) (f:Nat→Int):(fnL N f).length=N:=by simp[fnL]
theorem fnL_get {N:Nat} (f:Nat→Int) {i:Nat} (h:i<N):(fnL N f).getD i 0=f i:=by
 rw[List.getD_eq_getElem?_getD,fnL,List.getElem?_map,List.getElem?_range h]
 rfl
theorem fnL_turn {N k i:Nat} {f:Nat→Int} (h:i.testBit k=false) (hi:i+2^k<N):((fnL N (stF k i f)).set i (stF k i f i+stF k i f (i+2^k))).set (i+2^k) (stF k i f i-stF k i f (i+2^k))=fnL N (stF k (i+1) f):=by
 have hp:0<2^k:=Nat.two_pow_pos k
 refine List.ext_getElem? fun j=> ?_
 rw[List.getElem?_set,List.getElem?_set,List.length_set,fnL_len]
 have e:(fnL N (stF k (i+1) f))[j]? =if j<N then some (stF k (i+1) f j)else none:=by
  split
  ·rename_i hj;rw[fnL,List.getElem?_map,List.getElem?_range hj];rfl
  ·rename_i hj;rw[List.getElem?_eq_none];rw[fnL_len];omega
 have e2:(fnL N (stF k i f))[j]? =if j<N then some (stF k i f j)else none:=by
  split
  ·rename_i hj;rw[fnL,List.getElem?_map,List.getElem?_range hj];rfl
  ·rename_i hj;rw[List.getElem?_eq_none];rw[fnL_len];omega
 rw[e,e2,stF_turn h]
 by_cases h1:i+2^k=j
 ·subst h1
  rw[if_pos rfl,if_pos hi,if_pos hi,if_pos rfl]
 ·rw[if_neg h1]
  by_cases h2:i=j
  ·subst h2
   rw[if_pos rfl,if_pos (by omega),if_pos (by omega),if_neg (by omega),if_pos rfl]
  ·rw[if_neg h2]
   split
   ·rw[if_neg (by omega),if_neg (by omega)]
   ·rfl
theorem grown_transB {w w1 w2:World} {g:Nat} (h1:w.grownBy w1 (some g)) (h2:w1.grownBy w2 (some g)):w.grownBy w2 (some g):=
 ⟨h2.os.trans h1.os,h2.tape.trans h1.tape,h2.output.trans h1.output,Nat.le_trans h1.size h2.size,fun k hk hne=>(h2.block k (Nat.lt_of_lt_of_le hk h1.size) hne).trans (h1.block k hk hne)⟩
theorem grown_drewB {w w1:World} {r:Option Nat} (h1:w.grownBy w1 r) (n:Nat):w.grownBy (w1.drewN n) r:=⟨h1.os,h1.tape,h1.output,h1.size,h1.block⟩
theorem spread_any (B g c n N:Nat) (f:Nat→Int) (w:World) (hn:n≤8) (hN:N=2^n) (hf:InB N 1 f) (ho:OI B w (.slice (some ⟨g,0,none⟩) N c) (fnL N f)):
 Calls Tryz.prog 289 #[.slice (some ⟨g,0,none⟩) N c,.func (.func 290) #[] #[]] w fun e w'=>(∃r,e= .returned r)∧OI B w' (.slice (some ⟨g,0,none⟩) N c) (fnL N (spF n f n))∧w.grownBy w' (some g):=by
 have he:=run_callFunc_own Tryz.func290 (by kernel_rfl) (by kernel_rfl)
 have HSB:=hid (fun k (h:k≤n)=>(show InB N (2^k) (spF n f k)from by rw[hN]at hf⊢;exact spF_bd hn hf k h))
 have HSS:Hid (∀k,spF n f (k+1)=stF k N (spF n f k)):=hid (fun k=>by rw[hN];rfl)
 have HS0:Hid (spF n f 0=f):=hid rfl
 have HN:Hid (∀k,k<n→2^k<N∧2^(k+1)≤N):=hid (fun k h=>by rw[hN];exact⟨Nat.pow_lt_pow_right (by decide) h,Nat.pow_le_pow_right (by decide) h⟩)
 have hN256:N≤256:=by rw[hN];exact Nat.le_trans (Nat.pow_le_pow_right (n:=2) (by omega) hn) (by decide)
 have HIN:=hid (fun k (hk:k<n) j (hj:j<N) (hb:Nat.testBit j k=false)=>(show j+2^k<N from by rw[hN]at hj⊢;exact bit_in n hn k hk j hj hb))
 have HTB:=hid (fun k i (M:Int) F (h:k<n) (hF:InB N M F)=>(show InB N (2*M) (stF k i F)from by rw[hN]at hF⊢;exact stF_bd hn h hF))
 have HO:=hid ho
 have HNN:=hid hN
 clear hf ho hN
 generalize spF n f=SP at*
 go_enter Tryz.func289,Tryz.ntmps289
 go_wp2
 go_loopw [4] (fun sv wr=>∃k:Nat,k≤n∧sv= .int .i64 ((2^k:Nat):Int)∧OI B wr (.slice (some ⟨g,0,none⟩) N c) (fnL N (SP k))∧w.grownBy wr (some g)) (fun sv _=>N-(intOf sv).toNat)
 case atStart=>exact⟨0,Nat.zero_le _,rfl,by rw[HS0.out];exact HO.out,⟨rfl,rfl,rfl,Nat.le_refl _,fun _ _ _=>rfl⟩⟩
 case round=>
  clear HO
  obtain⟨k,hk,rfl,ho,hg⟩:=hrel
  obtain⟨s,hs⟩:∃s,s=2^k:=⟨_,rfl⟩
  rw[←hs]
  have HX:=hid (And.intro ho hg)
  clear ho hg
  by_cases hlt:k<n
  ·obtain⟨hp1,hp2⟩:=HN.out k hlt
   rw[←hs]at hp1
   have hpi:(s:Int)<(N:Int):=by omega
   have h0k:0<s:=by rw[hs];exact Nat.two_pow_pos k
   have HSK:=hid (HSS.out k)
   have HB:=hid (HSB.out k hk)
   have hk7:k≤7:=by omega
   have HBP:Hid ((2:Int)^k≤128):=hid (by
    have h1:2^k≤128:=Nat.le_trans (Nat.pow_le_pow_right (n:=2) (by omega) hk7) (by decide)
    have h2:((2^k:Nat):Int)=(2:Int)^k:=by simp
    omega)
   have HTR:=hid (fun i (hi:i<N)=>(show(i&&&s=0→Nat.testBit i k=false∧i|||s=i+s)∧(i&&&s≠0→Nat.testBit i k=true)from by rw[hs];exact bit_or k (by omega) i (by omega)))
   have HINK:=hid (fun i (hi:i<N) (hb:Nat.testBit i k=false)=>(show i+s<N from by rw[hs];exact HIN.out k hlt i hi hb))
   have HS2:Hid ((2^(k+1):Nat)=s*2):=hid (by rw[hs];exact Nat.pow_succ 2 k)
   have HTK:=hid (fun i=>HTB.out k i _ (SP k) hlt HB.out)
   generalize SP k=F at*
   have HFT:=hid (fun i (hb:Nat.testBit i k=false) (hi:i+s<N)=>(show((fnL N (stF k i F)).set i (stF k i F i+stF k i F (i+s))).set (i+s) (stF k i F i-stF k i F (i+s))=fnL N (stF k (i+1) F)from by rw[hs]at hi⊢;exact fnL_turn hb hi))
   have HFS:=hid (fun i (hb:Nat.testBit i k=true)=>stF_skip (f:=F) hb)
   have HF0:=hid (stF_zero k F)
   clear hs
   go_wp2
   go_loopw [14] (fun iv wq=>∃i:Nat,i≤N∧iv= .int .i64 i∧OI B wq (.slice (some ⟨g,0,none⟩) N c) (fnL N (stF k i F))∧w.grownBy wq (some g)) (fun iv _=>N-(intOf iv).toNat)
   case atStart=>exact⟨0,Nat.zero_le _,rfl,by rw[HF0.out];exact HX.out.1,HX.out.2⟩
   case round=>
    clear HX
    obtain⟨i,hi,rfl,ho,hg⟩:=hrel
    by_cases hiN:i<N
    ·have hii:(i:Int)<(N:Int):=by omega
     have hand:=and_i64 i s (by omega) (by omega)
     have hor:=or_i64 i s (by omega) (by omega)
     obtain⟨t1,t2⟩:=HTR.out i hiN
     by_cases hb:i&&&s=0
     ·obtain⟨b1,b2⟩:=t1 hb
      have hin:=HINK.out i hiN b1
      rw[b2]at hor
      rw[hb]at hand
      have hca0:=ho.cell i (by rw[fnL_len];exact hiN)
      have hcb0:=ho.cell (i+s) (by rw[fnL_len];exact hin)
      rw[fnL_get _ hiN]at hca0
      rw[fnL_get _ hin]at hcb0
      have hf00:=ho.frozen i
      have hf01:=ho.frozen (i+s)
      have ho:=ho.drew
      have hca:=ho.cell i (by rw[fnL_len];exact hiN)
      have hcb:=ho.cell (i+s) (by rw[fnL_len];exact hin)
      rw[fnL_get _ hiN]at hca
      rw[fnL_get _ hin]at hcb
      have hba:=HTK.out i i hiN
      have hbb:=HTK.out i (i+s) hin
      have h128:=HBP.out
      have hst1:=ho.stored i (stF k i F i+stF k i F (i+s))
      have hst2:=hst1.1.stored (i+s) (stF k i F i-stF k i F (i+s))
      have HNX:=hid (And.intro (hst2.1.cast (HFT.out i b1 hin)) (grown_transB (grown_transB (grown_drewB hg 1) hst1.2) hst2.2))
      have hfr:=ho.frozen i
      have hfr0:=ho.frozen (i+s)
      have hfr1:=hst1.1.frozen (i+s)
      have hca1:=hst1.1.cell (i+s) (by rw[List.length_set,fnL_len];exact hin)
      have hij:i≠i+s:=by omega
      clear hst1 hst2 ho hg t1 t2
      generalize ((fnL N (stF k i F)).set i (stF k i F i+stF k i F (i+s))).getD (i+s) 0=zz at*
      generalize stF k i F i=x at*
      generalize stF k i F (i+s)=y at*
      clear b2
      generalize i+s=j at*
      have HSM:=hid (fun w1=>sums1_any x y w1 (by omega) (by omega))
      go_wp2
      go_region_law (first|(go_simp;go_at_call 290;refine(HSM.out _).mono ?_;rintro e w2 ⟨rfl,rfl⟩))
      all_goals
       go_wp2
       go_roundw
       case rel=>exact⟨i+1,by omega,by go_num,HNX.out.1,HNX.out.2⟩
       case measure=>simp[intOf]<;>omega
     ·have hbt:=t2 hb
      have hne:(((i&&&s:Nat):Int)==0)=false:=by rw[beq_eq_false_iff_ne];omega
      have HNX:=hid (And.intro (ho.cast (congrArg (fnL N) (HFS.out i hbt).symm)) hg)
      clear ho hg t1 t2 hb
      generalize i&&&s=q at*
      go_wp2
      go_roundw
      case rel=>exact⟨i+1,by omega,by go_num,HNX.out.1,HNX.out.2⟩
      case measure=>simp[intOf]<;>omega
    ·obtain rfl:i=N:=by omega
     have hii:¬(i:Int)<(i:Int):=by omega
     have HNX:=hid (And.intro (ho.cast (congrArg (fnL i) HSK.out.symm)) hg)
     have HS3:=HS2.out
     clear ho hg
     go_wp2
     go_roundw
     case rel=>exact⟨k+1,by omega,by rw[HS3];go_num,HNX.out.1,HNX.out.2⟩
     case measure=>simp[intOf]<;>omega
  ·obtain rfl:k=n:=by omega
   have hsN:s=N:=by rw[hs,HNN.out]
   have hii:¬(s:Int)<(N:Int):=by omega
   clear hs hsN
   go_wp2
   go_end0
   exact⟨⟨_,rfl⟩,HX.out.1,HX.out.2⟩
end Go.Proofs.YtnnaadmegeeinaaGreatDoor
