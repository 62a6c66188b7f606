/-
  Part 15 of a proof: what it proves stands in the last text.
-/
import Derived.Test.YtnnaadmegeeinaaGreatDoorZn
import Derived.Test.YtnnaadmegeeinaaGreatDoorZc
import Derived.Shelf.Strings.OnBuilder
import Derived.Shelf.Strconv.Itoa3
import Derived.Test.YtnnaadmegeeinaaGreatDoorZe
import Derived.Test.YtnnaadmegeeinaaGreatDoorZj
import Derived.BigRegion
set_option linter.unusedVariables false
set_option maxHeartbeats 8000000
set_option maxRecDepth 100000
namespace Go.Proofs.YtnnaadmegeeinaaGreatDoor
open Go.RowKit Go.Shelf
theorem mul64_any (x y:Nat) (w:World) (hx:x<18446744073709551616) (hy:y<18446744073709551616):
 Calls Tryz.prog 293 #[.int .u64 x,.int .u64 y] w fun e w'=>e= .returned (.tuple #[.int .u64 (x*y/18446744073709551616:Nat),.int .u64 (x*y%18446744073709551616:Nat)])∧w=w':=by
 refine(show Calls Tryz.prog 293 #[.int .u64 x,.int .u64 y] w _ from Any.bits_Mul64 mulLays x y hx hy w).mono ?_
 rintro e w' ⟨rfl,rfl⟩
 exact⟨rfl,rfl⟩
def cut60 (x:Nat):Nat:=if x≤1152921504606846976 then x else 1152921504606846976
theorem diag_up (d:Nat):∀j,bin (d+j) j≤bin (d+(j+1)) (j+1):=by
 intro j
 have h:=bin_absorb (d+j) j
 have h2:bin (d+j) j*(j+1)≤bin (d+j) j*(d+j+1):=Nat.mul_le_mul_left _ (by omega)
 rw[←h]at h2
 exact Nat.le_of_mul_le_mul_right h2 (by omega)
theorem diag_mono (d:Nat) {a b:Nat} (h:a≤b):bin (d+a) a≤bin (d+b) b:=by
 induction b with
 |zero=>rw[show a=0 by omega];exact Nat.le_refl _
 |succ b ih=>
  by_cases e:a=b+1
  ·rw[e];exact Nat.le_refl _
  ·exact Nat.le_trans (ih (by omega)) (diag_up d b)
theorem cut_small {x:Nat} (h:x≤1152921504606846976):cut60 x=x:=if_pos h
theorem cut_big {x:Nat} (h:1152921504606846976≤x):cut60 x=1152921504606846976:=by
 unfold cut60
 by_cases e:x≤1152921504606846976
 ·rw[if_pos e];omega
 ·rw[if_neg e]
theorem div_hi (p i:Nat) (hi:0<i) (h:i≤p/18446744073709551616) (q:Nat) (hq:p=q*i):1152921504606846976≤q:=by
 have h1:i*18446744073709551616≤p:=(Nat.le_div_iff_mul_le (by omega)).1 h
 rw[hq,Nat.mul_comm]at h1
 have:=Nat.le_of_mul_le_mul_right h1 hi
 omega
theorem ways_any (n k:Nat) (w:World) (hn:n≤1000000031) (hk:k≤30):
 Calls Tryz.prog 272 #[.int .i64 n,.int .i64 k] w fun e w'=>e= .returned (.int .i64 (cut60 (bin n k):Nat))∧∃q,w'=w.drewN q:=by
 by_cases hnk:n<k
 ·rw[bin_none n k hnk]
  go_enter Tryz.func272,Tryz.ntmps272
  go_wp2
  go_ret
  exact⟨rfl,0,rfl⟩
 ·obtain⟨d,hd⟩:∃d,n=d+k:=⟨n-k,by omega⟩
  have hnd:(n:Int)-(k:Int)=(d:Int):=by omega
  have HM:=hid (fun(x y:Nat) (w:World)=>mul64_any x y w)
  have HD:=hid (fun(x y z:Nat) (w:World)=>div64_any x y z w)
  obtain⟨B,hB⟩:∃B:Nat→Nat,B=fun j=>bin (d+j) j:=⟨_,rfl⟩
  have HA':Hid (∀j,B j*(d+j+1)=B (j+1)*(j+1)):=hid (fun j=>by rw[hB];exact(bin_absorb (d+j) j).symm)
  have HMO:Hid (∀a b,a≤b→B a≤B b):=hid (fun a b h=>by rw[hB];exact diag_mono d h)
  have H0':Hid (B 0=1):=hid (by rw[hB];exact bin_zero _)
  have HK':bin n k=B k:=by rw[hB,hd]
  rw[HK']
  have hdk:d≤1000000031:=by omega
  have HDK:=hid hd
  clear HK' hB hd
  obtain⟨R,hR⟩:∃R,R=cut60 (B k):=⟨_,rfl⟩
  have HBIG:Hid (1152921504606846976≤B k→R=1152921504606846976):=hid (fun h=>by rw[hR];exact cut_big h)
  have HSM:Hid (B k≤1152921504606846976→R=B k):=hid (fun h=>by rw[hR];exact cut_small h)
  rw[←hR]
  clear hR
  go_enter Tryz.func272,Tryz.ntmps272
  go_wp2
  go_loopw [5,6] (fun o i wr=>∃j q:Nat,j≤k∧i= .int .i64 ((j:Int)+1)∧o= .int .u64 (B j:Nat)∧B j≤1152921504606846976∧wr=w.drewN q) (fun _ i _=>k+2-(intOf i).toNat)
  case atStart=>exact⟨0,0,Nat.zero_le _,rfl,by rw[H0'.out];rfl,by rw[H0'.out];omega,rfl⟩
  case round=>
   obtain⟨j,q,hj,rfl,rfl,hbj,rfl⟩:=hrel
   by_cases hlt:j<k
   ·have hA:=HA'.out j
    have hM:=HM.out (B j) (d+j+1) (w.drewN q) (by omega) (by omega)
    rw[hA]at hM
    rw[show((d+j+1:Nat):Int)=(d:Int)+((j:Int)+1)by omega]at hM
    have hpb:B (j+1)*(j+1)<340282366920938463463374607431768211456:=by
     rw[←hA]
     have:B j*(d+j+1)≤1152921504606846976*1000000062:=Nat.mul_le_mul hbj (by omega)
     omega
    obtain⟨p,hp⟩:∃p,p=B (j+1)*(j+1):=⟨_,rfl⟩
    rw[←hp]at hM hpb
    obtain⟨h,hh⟩:∃h,h=p/18446744073709551616:=⟨_,rfl⟩
    obtain⟨lo,hlo⟩:∃lo,lo=p%18446744073709551616:=⟨_,rfl⟩
    have hlb:lo<18446744073709551616:=by rw[hlo];exact Nat.mod_lt _ (by omega)
    have hhb:h<18446744073709551616:=by omega
    rw[←hh,←hlo]at hM
    have HMM:=hid hM
    have HBK:=hid (HMO.out (j+1) k (by omega))
    by_cases hhi:j+1≤h
    ·have HR:Hid (R=1152921504606846976):=hid (HBIG.out (Nat.le_trans (div_hi p (j+1) (by omega) (by rw[←hh];exact hhi) _ hp) HBK.out))
     clear hM hA hpb hp hh hlo
     go_wp2_with fail
     refine HMM.out.mono ?_
     rintro e w1 ⟨rfl,rfl⟩
     go_wp2
     go_ret
     exact⟨by rw[HR.out];rfl,q,rfl⟩
    ·have hD:=HD.out h lo (j+1) (w.drewN q) (by omega) (by omega) hlb
     rw[show h*18446744073709551616+lo=p by rw[hh,hlo,Nat.mul_comm];exact Nat.div_add_mod _ _,hp,Nat.mul_div_cancel _ (by omega)]at hD
     rw[show((j+1:Nat):Int)=(j:Int)+1 by omega]at hD
     have hqb:B (j+1)<18446744073709551616:=by
      have h1:p<(j+1)*18446744073709551616:=(Nat.div_lt_iff_lt_mul (by omega)).1 (by rw[←hh];omega)
      rw[hp,Nat.mul_comm (j+1)]at h1
      exact Nat.lt_of_mul_lt_mul_right h1
     have HDD:=hid hD
     have hhi':¬(j:Int)+1≤(h:Int):=by omega
     by_cases hbig:1152921504606846976<B (j+1)
     ·have HR:Hid (R=1152921504606846976):=hid (HBIG.out (Nat.le_trans (Nat.le_of_lt hbig) HBK.out))
      have hbig':(1152921504606846976:Int)<(B (j+1):Int):=by omega
      clear hM hA hpb hp hh hlo hD hbig
      generalize B (j+1)=b1 at*
      go_wp2_with fail
      refine HMM.out.mono ?_
      rintro e w1 ⟨rfl,rfl⟩
      go_wp2_with fail
      refine HDD.out.mono ?_
      rintro e w1 ⟨⟨r,rfl⟩,q2,rfl⟩
      go_wp2
      go_ret
      exact⟨by rw[HR.out];rfl,q+q2,by simp⟩
     ·have hsm:B (j+1)≤1152921504606846976:=by omega
      have hsm':¬(1152921504606846976:Int)<(B (j+1):Int):=by omega
      clear hM hA hpb hp hh hlo hD hbig
      have HB1:=hid hsm
      obtain⟨b1,hb1⟩:∃b1,b1=B (j+1):=⟨_,rfl⟩
      rw[←hb1]at HDD hsm hsm' hqb
      have HB2:=hid hb1
      clear hb1
      go_wp2_with fail
      refine HMM.out.mono ?_
      rintro e w1 ⟨rfl,rfl⟩
      go_wp2_with fail
      refine HDD.out.mono ?_
      rintro e w1 ⟨⟨r,rfl⟩,q2,rfl⟩
      go_wp2
      go_roundw
      case rel=>exact⟨j+1,q+q2,by omega,by go_num,by rw[HB2.out],HB1.out,rfl⟩
      case measure=>simp[intOf]<;>omega
   ·obtain rfl:j=k:=by omega
    have HR:=hid (HSM.out hbj)
    go_wp2
    go_ret
    exact⟨by rw[HR.out];rfl,q,rfl⟩
def lJoinRen:Ren:=⟨fun x=>match x with|156=>101|165=>180|166=>8|169=>10|240=>13|241=>233|276=>24|277=>277|n=>n,fun x=>match x with|31=>37|9=>9|3=>3|4=>4|0=>0|20=>20|72=>28|76=>33|70=>25|37=>26|75=>32|127=>43|164=>55|5=>5|80=>35|n=>n,fun n=>n⟩
theorem lJoin:Lays.n156 Tryz.prog lJoinRen where
 mixed:=by kernel_rfl
 f156:=Tryz.func101.trans (congrArg some (by kernel_rfl))
 f165:=Tryz.func180.trans (congrArg some (by kernel_rfl))
 f166:=Tryz.func8.trans (congrArg some (by kernel_rfl))
 f169:=Tryz.func10.trans (congrArg some (by kernel_rfl))
 f240:=Tryz.func13.trans (congrArg some (by kernel_rfl))
 f241:=Tryz.func233.trans (congrArg some (by kernel_rfl))
 f276:=Tryz.func24.trans (congrArg some (by kernel_rfl))
 f277:=Tryz.func277.trans (congrArg some (by kernel_rfl))
 t0:=Tryz.underlying0
 a0:=Tryz.isAgg0
 z0:=Tryz.sizeOf0
 v0:=Tryz.zeroValue0
 t3:=Tryz.underlying3
 a3:=Tryz.isAgg3
 z3:=Tryz.sizeOf3
 v3:=Tryz.zeroValue3
 t4:=Tryz.underlying4
 a4:=Tryz.isAgg4
 z4:=Tryz.sizeOf4
 v4:=Tryz.zeroValue4
 t9:=Tryz.underlying9
 a9:=Tryz.isAgg9
 z9:=Tryz.sizeOf9
 v9:=Tryz.zeroValue9
 t20:=Tryz.underlying20
 a20:=Tryz.isAgg20
 z20:=Tryz.sizeOf20
 v20:=Tryz.zeroValue20
 t31:=Tryz.underlying37
 a31:=Tryz.isAgg37
 z31:=Tryz.sizeOf37
 v31:=Tryz.zeroValue37
 t37:=Tryz.underlying26
 a37:=Tryz.isAgg26
 z37:=Tryz.sizeOf26
 v37:=Tryz.zeroValue26
 t70:=Tryz.underlying25
 a70:=Tryz.isAgg25
 z70:=Tryz.sizeOf25
 v70:=Tryz.zeroValue25
 t72:=Tryz.underlying28
 a72:=Tryz.isAgg28
 z72:=Tryz.sizeOf28
 v72:=Tryz.zeroValue28
 t75:=Tryz.underlying32
 a75:=Tryz.isAgg32
 z75:=Tryz.sizeOf32
 v75:=Tryz.zeroValue32
 t76:=Tryz.underlying33
 a76:=Tryz.isAgg33
 z76:=Tryz.sizeOf33
 v76:=Tryz.zeroValue33
 t127:=Tryz.underlying43
 a127:=Tryz.isAgg43
 z127:=Tryz.sizeOf43
 v127:=Tryz.zeroValue43
 t164:=Tryz.underlying55
 a164:=Tryz.isAgg55
 z164:=Tryz.sizeOf55
 v164:=Tryz.zeroValue55
theorem xJoin:Builder.Extra Tryz.prog lJoinRen where
 sizeBuilder:=by kernel_rfl
 liesBuilder:=by kernel_rfl
 t5:=Tryz.underlying5
 a5:=Tryz.isAgg5
 z5:=Tryz.sizeOf5
 v5:=Tryz.zeroValue5
 infoByte:=by kernel_rfl
 cellsByte:=by kernel_rfl
 sizeByte:=by kernel_rfl
 neB5:=by decide
def lItoaRen:Ren:=⟨fun x=>match x with|171=>99|243=>179|246=>232|283=>273|284=>274|285=>275|286=>276|129=>296|317=>295|318=>297|319=>298|320=>299|337=>330|338=>331|n=>n,fun x=>match x with|3=>3|9=>9|2=>2|4=>4|171=>245|0=>0|53=>188|37=>26|5=>5|173=>248|212=>270|51=>160|20=>20|213=>271|46=>126|232=>305|233=>306|n=>n,fun x=>match x with|17=>6|18=>9|19=>10|n=>n⟩
theorem lItoa:Lays.n171 Tryz.prog lItoaRen where
 mixed:=by kernel_rfl
 f129:=Tryz.func296.trans (congrArg some (by kernel_rfl))
 f171:=Tryz.func99.trans (congrArg some (by kernel_rfl))
 f243:=Tryz.func179.trans (congrArg some (by kernel_rfl))
 f246:=Tryz.func232.trans (congrArg some (by kernel_rfl))
 f283:=Tryz.func273.trans (congrArg some (by kernel_rfl))
 f284:=Tryz.func274.trans (congrArg some (by kernel_rfl))
 f285:=Tryz.func275.trans (congrArg some (by kernel_rfl))
 f286:=Tryz.func276.trans (congrArg some (by kernel_rfl))
 f317:=Tryz.func295.trans (congrArg some (by kernel_rfl))
 f318:=Tryz.func297.trans (congrArg some (by kernel_rfl))
 f319:=Tryz.func298.trans (congrArg some (by kernel_rfl))
 f320:=Tryz.func299.trans (congrArg some (by kernel_rfl))
 f337:=Tryz.func330.trans (congrArg some (by kernel_rfl))
 f338:=Tryz.func331.trans (congrArg some (by kernel_rfl))
 t0:=Tryz.underlying0
 a0:=Tryz.isAgg0
 z0:=Tryz.sizeOf0
 v0:=Tryz.zeroValue0
 t2:=Tryz.underlying2
 a2:=Tryz.isAgg2
 z2:=Tryz.sizeOf2
 v2:=Tryz.zeroValue2
 t3:=Tryz.underlying3
 a3:=Tryz.isAgg3
 z3:=Tryz.sizeOf3
 v3:=Tryz.zeroValue3
 t4:=Tryz.underlying4
 a4:=Tryz.isAgg4
 z4:=Tryz.sizeOf4
 v4:=Tryz.zeroValue4
 t5:=Tryz.underlying5
 a5:=Tryz.isAgg5
 z5:=Tryz.sizeOf5
 v5:=Tryz.zeroValue5
 t9:=Tryz.underlying9
 a9:=Tryz.isAgg9
 z9:=Tryz.sizeOf9
 v9:=Tryz.zeroValue9
 t20:=Tryz.underlying20
 a20:=Tryz.isAgg20
 z20:=Tryz.sizeOf20
 v20:=Tryz.zeroValue20
 t37:=Tryz.underlying26
 a37:=Tryz.isAgg26
 z37:=Tryz.sizeOf26
 v37:=Tryz.zeroValue26
 t46:=Tryz.underlying126
 a46:=Tryz.isAgg126
 z46:=Tryz.sizeOf126
 v46:=Tryz.zeroValue126
 t51:=Tryz.underlying160
 a51:=Tryz.isAgg160
 z51:=Tryz.sizeOf160
 v51:=Tryz.zeroValue160
 t53:=Tryz.underlying188
 a53:=Tryz.isAgg188
 z53:=Tryz.sizeOf188
 v53:=Tryz.zeroValue188
 t171:=Tryz.underlying245
 a171:=Tryz.isAgg245
 z171:=Tryz.sizeOf245
 v171:=Tryz.zeroValue245
 t173:=Tryz.underlying248
 a173:=Tryz.isAgg248
 z173:=Tryz.sizeOf248
 v173:=Tryz.zeroValue248
 t212:=Tryz.underlying270
 a212:=Tryz.isAgg270
 z212:=Tryz.sizeOf270
 v212:=Tryz.zeroValue270
 t213:=Tryz.underlying271
 a213:=Tryz.isAgg271
 z213:=Tryz.sizeOf271
 t232:=Tryz.underlying305
 a232:=Tryz.isAgg305
 z232:=Tryz.sizeOf305
 v232:=Tryz.zeroValue305
 t233:=Tryz.underlying306
 a233:=Tryz.isAgg306
 z233:=Tryz.sizeOf306
 v233:=Tryz.zeroValue306
 g17:=by kernel_rfl
 g18:=by kernel_rfl
 g19:=by kernel_rfl
theorem join_laid (bk o c:Nat) (xs:List ByteArray) (sep:ByteArray) (w:World) (hcells:∀(j:Nat) x,xs[j]? =some x→w.cell? ⟨bk,o+j,none⟩=some (.string x)) (hbk:bk<w.heap.size) (hN:xs.length≤1000) (hcap:xs.length≤c) (hlen:(Lib.join (xs.map (·.data.toList)) sep.data.toList).length≤1000000):
 Calls Tryz.prog 101 #[.slice (some ⟨bk,o,none⟩) xs.length c,.string sep] w fun e w'=>e= .returned (.string ⟨(Lib.join (xs.map (·.data.toList)) sep.data.toList).toArray⟩)∧Below w.heap.size w w':=
 Any.strings_Join lJoin xJoin bk o c xs sep w hcells hbk (by omega) hcap (by omega)
theorem itoa_laid (i:Nat) (hi:i<100) (w:World):Calls Tryz.prog 99 #[.int .i64 i] w fun e w'=>e= .returned (.string ⟨(Lib.decDigits i).toArray⟩)∧w'=w:=Any.strconv_Itoa_small lItoa i hi w
end Go.Proofs.YtnnaadmegeeinaaGreatDoor
namespace Go.Proofs.YtnnaadmegeeinaaGreatDoor
open Go.RowKit
theorem isNaN_any (a:Int) (w:World):
 Calls Tryz.prog 311 #[.int .i64 a] w fun e w'=>e= .returned (.bool false)∧w'=w:=by
 have h:(a !=a)=false:=by simp
 go_enter Tryz.func311,Tryz.ntmps311
 go_wp2
 go_ret
 exact⟨rfl,rfl⟩
theorem less_any (a b:Int) (w:World):
 Calls Tryz.prog 326 #[.int .i64 a,.int .i64 b] w fun e w'=>e= .returned (.bool (decide (a<b)))∧w'=w:=by
 have HN:=hid isNaN_any
 go_enter Tryz.func326,Tryz.ntmps326
 go_wp2_with fail
 refine(HN.out _ _).mono ?_
 rintro e w2 ⟨rfl,rfl⟩
 go_wp2
 go_ret
 exact⟨rfl,rfl⟩
theorem grown_trans1 {w w1 w2:World} {g:Nat} (h1:w.grownBy w1 (some g)) (h2:w1.grownBy w2 (some g)):w.grownBy w2 (some g):=
 ⟨h2.os.trans h1.os,h2.tape.trans h1.tape,h2.output.trans h1.output,Nat.le_trans h1.size h2.size,fun k hk hne=>(h2.block k (Nat.lt_of_lt_of_le hk h1.size) hne).trans (h1.block k hk hne)⟩
theorem grown_drewN {w w1:World} {r:Option Nat} (h1:w.grownBy w1 r) (n:Nat):w.grownBy (w1.drewN n) r:=⟨h1.os,h1.tape,h1.output,h1.size,h1.block⟩
theorem grown_refl (w:World) (r:Option Nat):w.grownBy w r:=⟨rfl,rfl,rfl,Nat.le_refl _,fun _ _ _=>rfl⟩
def ltI (a b:Int):Bool:=decide (a<b)
def swpL (Y:List Int) (j:Nat):List Int:=(Y.set (j+1) (Y.getD j 0)).set j (Y.getD (j+1) 0)
theorem insJ_yes {Y:List Int} {j:Nat} (h:Y.getD (j+1) 0<Y.getD j 0):insJ ltI 0 (j+1) Y=insJ ltI 0 j (swpL Y j):=by rw[insJ,if_pos (show ltI _ _=true from decide_eq_true h)];rfl
theorem insJ_no {Y:List Int} {j:Nat} (h:¬Y.getD (j+1) 0<Y.getD j 0):insJ ltI 0 (j+1) Y=Y:=by rw[insJ,if_neg (by unfold ltI;rw[decide_eq_false h];decide)]
theorem swpL_len (Y:List Int) (j:Nat):(swpL Y j).length=Y.length:=by simp[swpL]
theorem insort_ok (B g N c:Nat) (l:List Int) (w:World) (hO:OI B w (.slice (some ⟨g,0,none⟩) N c) l) (hl:l.length=N) (hN1:1≤N) (hN:N≤12):
 Calls Tryz.prog 320 #[.slice (some ⟨g,0,none⟩) N c,.int .i64 0,.int .i64 N] w fun e w'=>e= .returned (.tuple #[])∧OI B w' (.slice (some ⟨g,0,none⟩) N c) (insI ltI 0 N l)∧w.grownBy w' (some g):=by
 have HL:=hid less_any
 have HI1:=hid (insI_one ltI (0:Int) l)
 have HIL:Hid (∀k,(insI ltI 0 k l).length=N):=hid (fun k=>by rw[insI_len,hl])
 have HIS:Hid (∀k,insI ltI 0 (k+1) l=insJ ltI 0 k (insI ltI 0 k l)):=hid (fun k=>rfl)
 have HLN:=hid hl
 have HO:=hid hO
 generalize insI ltI 0=II at*
 clear hO hl
 go_enter Tryz.func320,Tryz.ntmps320
 go_wp2
 go_loopw [6,7] (fun x _ wr=>∃i:Nat,x= .int .i64 i∧1≤i∧i≤N∧OI B wr (.slice (some ⟨g,0,none⟩) N c) (II i l)∧w.grownBy wr (some g)) (fun x _ _=>N-(intOf x).toNat)
 case atStart=>exact⟨1,rfl,Nat.le_refl _,hN1,by rw[HI1.out];exact HO.out,grown_refl _ _⟩
 case round=>
  obtain⟨i,rfl,hi1,hiN,hO,hG⟩:=hrel
  by_cases hlt:i<N
  ·have hlti:(i:Int)<(N:Int):=by omega
   have HX:=hid (And.intro hO hG)
   have HISi:=hid (HIS.out i)
   have HILi:=hid (HIL.out i)
   clear hO hG
   go_wp2_with fail
   go_loopw [7] (fun x wq=>∃(j:Nat) (Y:List Int),x= .int .i64 j∧j≤i∧Hid (Y.length=N)∧Hid (insJ ltI 0 j Y=II (i+1) l)∧OI B wq (.slice (some ⟨g,0,none⟩) N c) Y∧w.grownBy wq (some g)) (fun x _=>(intOf x).toNat)
   case atStart=>exact⟨i,II i l,rfl,Nat.le_refl _,HILi,hid HISi.out.symm,HX.out.1,HX.out.2⟩
   case round=>
    clear HX
    obtain⟨j,Y,rfl,hji,HYN,HYI,hO,hG⟩:=hrel
    cases j with
    |zero=>
     have h0:decide ((0:Int)<((0:Nat):Int))=false:=by simp
     have HF:Hid (Y=II (i+1) l):=hid HYI.out
     have HX:=hid (And.intro hO (grown_drewN hG))
     clear hO hG
     go_wp2
     go_quiet (fail)
     go_wp2
     go_roundw
     case rel=>exact⟨i+1,by go_num,by omega,by omega,by rw[←HF.out];exact HX.out.1.drewN _,HX.out.2 _⟩
     case measure=>simp[intOf]<;>omega
    |succ j=>
     have hp:decide ((0:Int)<((j+1:Nat):Int))=true:=by simp
     have hpp:(0:Int)<((j+1:Nat):Int):=by omega
     have hjm:((j+1:Nat):Int)-1=(j:Int):=by omega
     have hj1:=hO.cell (j+1) (by rw[HYN.out];omega)
     have hj0:=hO.cell j (by rw[HYN.out];omega)
     by_cases hyy:Y.getD (j+1) 0<Y.getD j 0
     ·have HN2:=hid ((insJ_yes hyy).symm.trans HYI.out)
      have hdy:decide (Y.getD (j+1) 0<Y.getD j 0)=true:=decide_eq_true hyy
      have HX:=hid (fun n=>show OI B (((wr.drewN n).setCell ⟨g,j+1,none⟩ (.int .i64 (Y.getD j 0))).setCell ⟨g,j,none⟩ (.int .i64 (Y.getD (j+1) 0))) (.slice (some ⟨g,0,none⟩) N c) (swpL Y j)∧w.grownBy (((wr.drewN n).setCell ⟨g,j+1,none⟩ (.int .i64 (Y.getD j 0))).setCell ⟨g,j,none⟩ (.int .i64 (Y.getD (j+1) 0))) (some g)from by
       have hs1:=(hO.drewN n).stored (j+1) (Y.getD j 0)
       have hs2:=hs1.1.stored j (Y.getD (j+1) 0)
       exact⟨hs2.1,grown_trans1 (grown_trans1 (grown_drewN hG n) hs1.2) hs2.2⟩)
      have hf1:=hO.frozen (j+1)
      have hf0:=hO.frozen j
      have HLL:=hid (fun w1=>less_any (Y.getD (j+1) 0) (Y.getD j 0) w1)
      rw[hdy]at HLL
      have HYL2:Hid ((swpL Y j).length=N):=hid (by rw[swpL_len,HYN.out])
      clear hO hG hyy hdy
      generalize swpL Y j=Y2 at*
      generalize Y.getD (j+1) 0=y1 at*
      generalize Y.getD j 0=y0 at*
      have hjn:(j:Int)<(N:Int):=by omega
      have hjn1:((j+1:Nat):Int)<(N:Int):=by omega
      have hjj:j<j+1:=by omega
      generalize hj1e:j+1=j1 at*
      have hpn:decide (0<j1)=true:=by simp;omega
      have hw:=IntWalk.i64_in (j:Int) (by omega)
      go_wp2
      go_quiet ((go_at_call 326;exact Calls.quiet_of_same (HLL.out _)))
      go_wp2
      go_region
      go_wp2
      go_roundw
      case rel=>exact⟨j,Y2,by go_num,by omega,HYL2,HN2,(HX.out _).1,(HX.out _).2⟩
      case measure=>simp[intOf]<;>omega
     ·have HN2:Hid (Y=II (i+1) l):=hid ((insJ_no hyy).symm.trans HYI.out)
      have HX:=hid (And.intro hO (grown_drewN hG))
      have hdn:decide (Y.getD (j+1) 0<Y.getD j 0)=false:=decide_eq_false hyy
      have HLL:=hid (fun w1=>less_any (Y.getD (j+1) 0) (Y.getD j 0) w1)
      rw[hdn]at HLL
      clear hO hG hyy hdn
      generalize Y.getD (j+1) 0=y1 at*
      generalize Y.getD j 0=y0 at*
      have hjn:(j:Int)<(N:Int):=by omega
      have hjn1:((j+1:Nat):Int)<(N:Int):=by omega
      generalize hj1e:j+1=j1 at*
      have hpn:decide (0<j1)=true:=by simp;omega
      have hw:=IntWalk.i64_in (j:Int) (by omega)
      go_wp2
      go_quiet ((go_at_call 326;exact Calls.quiet_of_same (HLL.out _)))
      go_wp2
      go_roundw
      case rel=>exact⟨i+1,by go_num,by omega,by omega,by rw[←HN2.out];exact HX.out.1.drewN _,HX.out.2 _⟩
      case measure=>simp[intOf]<;>omega
  ·obtain rfl:i=N:=by omega
   have hlti:¬(i:Int)<(i:Int):=by omega
   have HX:=hid (And.intro hO hG)
   clear hO hG
   go_wp2
   go_end0
   exact⟨rfl,HX.out.1,HX.out.2⟩
def pv (l:List Nat):List Value:=l.map fun x:Nat=>Value.int .i64 (x:Int)
theorem pv_len (l:List Nat):(pv l).length=l.length:=by simp[pv]
theorem pv_get {l:List Nat} {i:Nat} (h:i<l.length):(pv l)[i]? =some (.int .i64 ((l.getD i 0:Nat):Int)):=by
 simp[pv,List.getD_eq_getElem?_getD,h]
theorem pv_set (l:List Nat) (i x:Nat):(pv l).set i (.int .i64 (x:Int))=pv (l.set i x):=by simp[pv,List.map_set]
theorem pv_one (l:List Nat):(pv l).toArray.all (·.oneCell')=true:=all_oneCell_toArray fun v hv=>by
 simp only[pv,List.mem_map]at hv
 obtain⟨x,_,rfl⟩:=hv
 rfl
def dg (P n j:Nat):Nat:=n/P^j%P
def dgT (P n k:Nat):List Nat:=(List.range 7).map fun j=>if j<k then dg P n j else 0
def dgL (P n m:Nat):List Nat:=(List.range m).map (dg P n)
theorem dgT_len (P n k:Nat):(dgT P n k).length=7:=by simp[dgT]
theorem dgT_zero (P n:Nat):dgT P n 0=List.replicate 7 0:=by simp[dgT];rfl
theorem dgT_step (P n:Nat) {k:Nat} (hk:k<7):(dgT P n k).set k (dg P n k)=dgT P n (k+1):=by
 apply List.ext_getElem?
 intro j
 rw[List.getElem?_set]
 simp only[dgT_len]
 by_cases e:k=j
 ·subst e
  rw[if_pos rfl,if_pos hk]
  simp[dgT,hk]
 ·rw[if_neg e]
  by_cases hj:j<7
  ·simp only[dgT,List.getElem?_map,List.getElem?_range hj,Option.map_some]
   congr 1
   by_cases h2:j<k
   ·rw[if_pos h2,if_pos (by omega)]
   ·rw[if_neg h2,if_neg (by omega)]
  ·simp[dgT,hj]
theorem dgT_end {P n k:Nat} (h:n/P^k=0) (hP:1≤P):dgT P n k=dgL P n 7:=by
 unfold dgT dgL
 apply List.map_congr_left
 intro j _
 by_cases h2:j<k
 ·rw[if_pos h2]
 ·rw[if_neg h2]
  unfold dg
  have hpos:0<P^k:=Nat.pow_pos hP
  have h3:n/P^j=0:=by
   rw[Nat.div_eq_zero_iff]at h⊢
   have:=Nat.pow_le_pow_right hP (show k≤j by omega)
   omega
  rw[h3,Nat.zero_mod]
theorem digits_ok (P n:Nat) (w:World) (hP:2≤P) (hP2:P≤64) (hn:n<128):
 Calls Tryz.prog 182 #[.int .i64 P,.int .i64 n] w fun e w'=>e= .returned (.agg (pv (dgL P n 7)).toArray)∧Below w.heap.size w w':=by
 have HLEN:=hid (dgT_len P n)
 have HSTEP:=hid (fun k hk=>dgT_step P n (k:=k) hk)
 have HEND:=hid (fun k h=>dgT_end (P:=P) (n:=n) (k:=k) h (by omega))
 have HZ:=hid (dgT_zero P n)
 have H7:Hid (128≤P^7):=hid (Nat.le_trans (by decide) (Nat.pow_le_pow_left hP 7))
 have HDG:Hid (∀k,dg P n k=n/P^k%P):=hid fun k=>rfl
 have HDV:Hid (∀k,n/P^(k+1)=n/P^k/P):=hid (fun k=>by rw[Nat.pow_succ,Nat.div_div_eq_div_mul])
 have HD0:Hid (n/P^0=n):=hid (by simp)
 have HMON:Hid (∀k,7≤k→n/P^k=0):=hid (fun k hk=>by
  rw[Nat.div_eq_zero_iff]
  right
  exact Nat.lt_of_lt_of_le hn (Nat.le_trans (Nat.le_trans (by decide) (Nat.pow_le_pow_left hP 7)) (Nat.pow_le_pow_right (by omega) hk)))
 have HLE:Hid (∀k,n/P^k≤n):=hid fun k=>Nat.div_le_self _ _
 have hA1:Arr ((w.alloc (.cells (pv (List.replicate 7 0)).toArray 168)).alloc (.cells (pv (List.replicate 7 0)).toArray 168)) w.heap.size 168 (pv (List.replicate 7 0)):=(Arr.new w _ _).alloc _
 have hA2:Arr ((w.alloc (.cells (pv (List.replicate 7 0)).toArray 168)).alloc (.cells (pv (List.replicate 7 0)).toArray 168)) (w.alloc (.cells (pv (List.replicate 7 0)).toArray 168)).heap.size 168 (pv (List.replicate 7 0)):=Arr.new _ _ _
 rw[World.size_alloc]at hA2
 have HS:=hid (And.intro hA1 (And.intro hA2 (((Below.refl w.heap.size w).alloc (Nat.le_refl _) (.cells (pv (List.replicate 7 0)).toArray 168)).alloc (by simp) (.cells (pv (List.replicate 7 0)).toArray 168))))
 clear hA1 hA2
 obtain⟨T,hT⟩:∃T,T=dgT P n:=⟨_,rfl⟩
 obtain⟨q,hq⟩:∃q:Nat→Nat,q=fun k=>n/P^k:=⟨_,rfl⟩
 have HT:Hid (∀k,dgT P n k=T k):=hid (fun k=>by rw[hT])
 have HQ:Hid (∀k,n/P^k=q k):=hid (fun k=>by rw[hq])
 clear hT hq
 generalize dgL P n 7=R at*
 go_enter Tryz.func182,Tryz.ntmps182
 go_wp2
 go_loopw [1,6] (fun m i wr=>∃k:Nat,k≤7∧i= .int .i64 k∧m= .int .i64 (q k:Nat)∧Arr wr w.heap.size 168 (pv (List.replicate 7 0))∧Arr wr (w.heap.size+1) 168 (pv (T k))∧Below w.heap.size w wr) (fun _ i _=>7-(intOf i).toNat)
 case atStart=>exact⟨0,by omega,rfl,by rw[←HQ.out,HD0.out],HS.out.1,by rw[←HT.out,HZ.out];exact HS.out.2.1,HS.out.2.2⟩
 case round=>
  clear HS
  obtain⟨k,hk,rfl,rfl,hA,hB,hb⟩:=hrel
  by_cases hpos:0<q k
  ·have hk7:k<7:=by
    rcases Nat.lt_or_ge k 7 with h|h
    ·exact h
    ·have:=HMON.out k h
     rw[HQ.out]at this
     omega
   have hle:=HLE.out k
   rw[HQ.out]at hle
   have hdg:=HDG.out k
   rw[HQ.out]at hdg
   have hdv:=HDV.out k
   rw[HQ.out,HQ.out]at hdv
   have hst:=HSTEP.out k hk7
   rw[HT.out,HT.out,hdg]at hst
   have hln:(T k).length=7:=by rw[←HT.out];exact HLEN.out k
   have hcell:=hB.cell k
   rw[pv_get (by omega)]at hcell
   have hfz:=hB.frozen k
   have hst2:=Arr.stored (w:=wr.drew) hB k (.int .i64 ((q k%P:Nat):Int))
   rw[pv_set,hst]at hst2
   have m1:(q k:Int).tmod (P:Int)=((q k%P:Nat):Int):=(Int.ofNat_tmod _ _).symm
   have m2:(q k:Int).tdiv (P:Int)=((q (k+1):Nat):Int):=by rw[hdv];exact(Int.ofNat_tdiv _ _).symm
   have hl1:q k%P<P:=Nat.mod_lt _ (by omega)
   have hl2:q (k+1)≤q k:=by rw[hdv];exact Nat.div_le_self _ _
   have hci:(0:Int)<(q k:Int):=by omega
   have HX:=hid (And.intro (Arr.kept (w:=wr.drew) hA hst2.2 (by simp)) (And.intro hst2.1 ((hb.drew).grown hst2.2 hb.size (fun k h=>by cases h;omega))))
   have hcd:wr.drew.cell? ⟨w.heap.size+1,k,none⟩=_:=hcell
   have hfd:wr.drew.frozen? ⟨w.heap.size+1,k,none⟩=false:=hfz
   clear hA hB hb hst hst2 hdg hdv hln hpos hcell hfz
   obtain⟨y',hy'⟩:∃y',y'=q (k+1):=⟨_,rfl⟩
   rw[←hy']at m2 hl2
   have HY:=hid hy'
   clear hy'
   generalize hqk:q k=x at*
   clear hqk
   generalize x%P=r at*
   generalize (T k).getD k 0=old at*
   go_wp2
   go_region
   go_wp2
   go_roundw
   case rel=>exact⟨k+1,by omega,by go_num,by rw[HY.out],HX.out.1,HX.out.2.1,HX.out.2.2⟩
   case measure=>simp[intOf]<;>omega
  ·have hz:q k=0:=by omega
   have hE:=HEND.out k (by rw[HQ.out];exact hz)
   rw[HT.out]at hE
   rw[hE]at hB
   have hRl:R.length=7:=by rw[←hE,←HT.out];exact HLEN.out k
   rw[hz]
   clear hpos hz hE
   have r2:=hB.range
   have t1:=hA.there
   rw[pv_len,List.length_replicate]at t1
   have hA':Arr wr w.heap.size 168 ([]++pv (List.replicate 7 0)):=hA
   have hr1:=Arr.setCells (pv R) [] (pv (List.replicate 7 0)) wr hA' (by rw[pv_len,pv_len,hRl,List.length_replicate])
   have hg1:=grown_setCells (b:=w.heap.size) (pv R) 0 wr
   have HX:=hid (And.intro hr1 (hb.grown hg1 hb.size (fun b e=>by cases e;exact Nat.le_refl _)))
   have i1:(Tryz.prog.info? 168).map (·.size)=some (pv R).length:=by rw[pv_len,hRl];kernel_rfl
   have t2:wr.there w.heap.size 0 (pv R).toArray.size:=by
    rw[show(pv R).toArray.size=7 from List.size_toArray.trans ((pv_len R).trans hRl)]
    exact t1
   have i2:(Tryz.prog.info? 168).map (·.size)=some (pv R).toArray.size:=by rw[show(pv R).toArray.size=(pv R).length from List.size_toArray];exact i1
   clear hA hA' hB hb hr1 hg1 t1
   go_wp2_with (first
    |(refine wpList_load_mid rfl 168 _ rfl (w.heap.size+1) 0 rfl (pv R) _ r2 Tryz.underlying168 rfl i1 ?_)
    |(refine wpList_store_mid rfl 168 _ _ rfl w.heap.size 0 (pv R).toArray rfl rfl t2 i2 (pv_one R) ?_))
   have hrd:(wr.setCells w.heap.size 0 (pv R)).rangeAt w.heap.size 0 (pv R):=HX.out.1.range
   have hld:=run_loadVar_mid (P:=Tryz.prog) _ _ _ 168 _ _ hrd Tryz.underlying168 rfl i1
   refine⟨rfl,.agg (pv R).toArray,?_,rfl,HX.out.2⟩
   show((results _ _).run _ _)=_
   simp only[Act.put]
   simp[results,Tryz.f182,asAddr,hld]
theorem dgL_len (P n k:Nat):(dgL P n k).length=k:=by simp[dgL]
end Go.Proofs.YtnnaadmegeeinaaGreatDoor
