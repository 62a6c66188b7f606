/-
  Part 29 of a proof: what it proves stands in the last text.
-/
import Derived.Test.YtnnaadmegeeinaaGreatDoorZab
set_option linter.unusedVariables false
set_option maxHeartbeats 8000000
set_option maxRecDepth 100000
namespace Go.Proofs.YtnnaadmegeeinaaGreatDoor
open Go.RowKit
def r3 (f:Nat→Nat×Nat×Nat) (i:Nat):List (Nat×Nat×Nat):=(List.range i).map f
theorem r3_snoc (f:Nat→Nat×Nat×Nat) (i:Nat):r3 f i++[f i]=r3 f (i+1):=by unfold r3;rw[List.range_succ,List.map_append];rfl
theorem r3_len (f:Nat→Nat×Nat×Nat) (i:Nat):(r3 f i).length=i:=by simp[r3]
def boI (m x y h i:Nat):Nat×Nat×Nat:=(x+m*i,y+m*i,h+m*((i+1)%3))
def boY (g:Nat→Nat→Nat) (m x:Nat):Nat→List (Nat×Nat×Nat)
 |0=>[]
 |j+1=>boY g m x j++r3 (boI m x (x+1+j) (g x (x+1+j))) 3
theorem boY_len (g:Nat→Nat→Nat) (m x:Nat):∀j,(boY g m x j).length=3*j
 |0=>rfl
 |j+1=>by rw[boY,List.length_append,boY_len g m x j,r3_len];omega
def boH (t m x y:Nat):Nat:=(x+y)*(t+1)%m
def boX (t m:Nat):Nat→List (Nat×Nat×Nat)
 |0=>[]
 |x+1=>(boX t m x++[(x,x+m,x+2*m)])++boY (boH t m) m x (m-(x+1))
theorem boX_len (t m:Nat) (hm:m≤11):∀x,x≤m→(boX t m x).length≤40*x
 |0,_=>Nat.zero_le _
 |x+1,h=>by
  rw[boX,List.length_append,List.length_append,boY_len]
  have:=boX_len t m hm x (by omega)
  simp
  omega
def skI (t m x i:Nat):Nat×Nat×Nat:=(6*t,x+t+m*i,x+m*((i+1)%3))
def skX (t m:Nat):Nat→List (Nat×Nat×Nat)
 |0=>[]
 |x+1=>(skX t m x++[(x,x+m,x+2*m)])++r3 (skI t m x) 3
theorem skX_len (t m:Nat):∀x,(skX t m x).length=4*x
 |0=>rfl
 |x+1=>by
  rw[skX,List.length_append,List.length_append,r3_len,skX_len t m x]
  simp
  omega
def skH (t m x y:Nat):Nat:=if(x+y)%m%2=0 then(x+y)%m/2 else((x+y)%m-1)/2+t
def skY (t m:Nat):Nat→List (Nat×Nat×Nat)
 |0=>skX t m t
 |x+1=>skY t m x++boY (skH t m) m x (m-(x+1))
theorem skY_len (t m:Nat) (hm:m≤11) (ht:t≤5):∀x,x≤m→(skY t m x).length≤40*x+20
 |0,_=>by rw[skY,skX_len];omega
 |x+1,h=>by
  rw[skY,List.length_append,boY_len]
  have:=skY_len t m hm ht x (by omega)
  omega
theorem bose_any (W0:World) (b t:Nat) (v:Int) (w:World) (ht:t≤5) (hb0:W0.heap.size≤b) (h:TS W0 b v [] w):
 Calls Tryz.prog 205 #[.pointer (some ⟨b,0,none⟩),.int .i64 t] w fun e w'=>(∃r,e= .returned r)∧TS W0 b v (boX t (2*t+1) (2*t+1)) w':=by
 obtain⟨m,hm⟩:∃m,m=2*t+1:=⟨_,rfl⟩
 rw[←hm]
 have hmi:2*(t:Int)+1=(m:Int):=by omega
 have hm11:m≤11:=by omega
 have hm1':1≤m:=by omega
 have HXS:Hid (∀x,boX t m (x+1)=(boX t m x++[(x,x+m,x+2*m)])++boY (boH t m) m x (m-(x+1))):=hid (fun x=>rfl)
 have HXL:=hid (boX_len t m hm11)
 have HT0:=hid h
 have HX0:Hid (boX t m 0=[]):=hid rfl
 generalize boX t m=BX at*
 clear h hm
 have ht0:(0:Int)≤(t:Int):=by omega
 go_enter Tryz.func205,Tryz.ntmps205
 go_wp2
 go_loopw [13] (fun xv wr=>∃x:Nat,x≤m∧xv= .int .i64 x∧TS W0 b v (BX x) wr) (fun xv _=>m-(intOf xv).toNat)
 case atStart=>exact⟨0,Nat.zero_le _,rfl,by rw[HX0.out];exact HT0.out⟩
 case round=>
  clear HT0
  obtain⟨x,hx,rfl,hts⟩:=hrel
  by_cases hxm:x<m
  ·have hxi:(x:Int)<(m:Int):=by omega
   have hlb:=HXL.out x hx
   have HLB0:Hid ((BX x++[(x,x+m,x+2*m)]).length≤500):=hid (by rw[List.length_append];simp;omega)
   have HXX:=hid (HXS.out x)
   have hx2:2*(m:Int)=((2*m:Nat):Int):=by omega
   obtain⟨A,hA⟩:∃A,A=x+m:=⟨_,rfl⟩
   obtain⟨Bq,hB⟩:∃Bq,Bq=x+2*m:=⟨_,rfl⟩
   have hAi:(x:Int)+(m:Int)=(A:Int):=by omega
   have hBi:(x:Int)+2*(m:Int)=(Bq:Int):=by omega
   have hAb:A≤1000:=by omega
   have hBb:Bq≤1000:=by omega
   have HABC:Hid ((x,x+m,x+2*m)=(x,A,Bq)):=hid (by rw[hA,hB])
   clear hA hB hx2
   have HAD:=hid (add_any W0 b x A Bq v _ wr (by omega) hb0 hts)
   rw[←HABC.out]at HAD
   clear hts
   go_wp2_with fail
   refine HAD.out.mono ?_
   rintro e w2 ⟨⟨r,rfl⟩,hts2⟩
   have HTS:=hid hts2
   clear hts2 HAD
   generalize BX x++[(x,x+m,x+2*m)]=L1 at*
   go_wp2
   go_loopw [6] (fun yv wr=>∃y j:Nat,y=x+1+j∧yv= .int .i64 y∧y≤m∧TS W0 b v (L1++boY (boH t m) m x j) wr) (fun yv _=>m-(intOf yv).toNat)
   case atStart=>exact⟨x+1,0,rfl,by go_num,by omega,by rw[show L1++boY (boH t m) m x 0=L1 from List.append_nil _];exact HTS.out⟩
   case round=>
    clear HTS
    obtain⟨y,j,hyj,rfl,hym,hts⟩:=hrel
    have HYJ:=hid hyj
    have hxy:x+1≤y:=by omega
    clear hyj
    by_cases hyl:y<m
    ·have hyi:(y:Int)<(m:Int):=by omega
     have HY0:Hid (boY (boH t m) m x (j+1)=boY (boH t m) m x j++r3 (boI m x y ((boH t m) x y)) 3):=hid (by rw[HYJ.out];rfl)
     have HLB:Hid ((L1++boY (boH t m) m x j).length≤1000):=hid (by rw[List.length_append,boY_len];have:=HLB0.out;have:=HYJ.out;omega)
     have HYS:Hid ((L1++boY (boH t m) m x j)++r3 (boI m x y ((boH t m) x y)) 3=L1++boY (boH t m) m x (j+1)):=hid (by rw[HY0.out,List.append_assoc])
     have hsum:(x:Int)+(y:Int)=((x+y:Nat):Int):=by omega
     have hprod:((x+y:Nat):Int)*((t:Int)+1)=(((x+y)*(t+1):Nat):Int):=by rw[show(t:Int)+1=((t+1:Nat):Int)by omega];exact(Int.natCast_mul _ _).symm
     have hpb:(x+y)*(t+1)≤22*6:=Nat.mul_le_mul (by omega) (by omega)
     have hmd:(((x+y)*(t+1):Nat):Int).tmod (m:Int)=((boH t m x y:Nat):Int):=(Int.ofNat_tmod _ _).symm
     have hhb:boH t m x y<m:=Nat.mod_lt _ (by omega)
     have hmz:¬(m:Int)=0:=by omega
     generalize (x+y)*(t+1)=PR at*
     obtain⟨sm,hsm⟩:∃sm,x+y=sm:=⟨_,rfl⟩
     rw[hsm]at hsum hprod
     have hsb:sm≤22:=by omega
     clear hsm
     have HTS:=hid hts
     clear hts HY0
     generalize L1++boY (boH t m) m x j=L2 at*
     generalize (boH t m) x y=h at*
     go_wp2
     go_loopw [43] (fun iv wq=>∃i:Nat,i≤3∧iv= .int .i64 i∧TS W0 b v (L2++r3 (boI m x y h) i) wq) (fun iv _=>3-(intOf iv).toNat)
     case atStart=>exact⟨0,Nat.zero_le _,rfl,by rw[show L2++r3 (boI m x y h) 0=L2 from List.append_nil _];exact HTS.out⟩
     case round=>
      clear HTS
      obtain⟨i,hi,rfl,hts⟩:=hrel
      by_cases hi3:i<3
      ·have hii:(i:Int)<3:=by omega
       have hm1:(m:Int)*(i:Int)=((m*i:Nat):Int):=(Int.natCast_mul _ _).symm
       have hmod:((i:Int)+1).tmod 3=(((i+1)%3:Nat):Int):=by
        rw[show(i:Int)+1=((i+1:Nat):Int)by omega]
        exact(Int.ofNat_tmod _ _).symm
       have hm2:(m:Int)*(((i+1)%3:Nat):Int)=((m*((i+1)%3):Nat):Int):=(Int.natCast_mul _ _).symm
       have hb1:m*i≤11*3:=Nat.mul_le_mul hm11 hi
       have hb2:m*((i+1)%3)≤11*3:=Nat.mul_le_mul hm11 (by omega)
       have HSN:=hid (r3_snoc (boI m x y h) i)
       have HFI:Hid ((boI m x y h) i=(x+m*i,y+m*i,h+m*((i+1)%3))):=hid rfl
       have hLL:(L2++r3 (boI m x y h) i).length≤100000:=by rw[List.length_append,r3_len];have:=HLB.out;omega
       generalize (i+1)%3=p3 at*
       generalize m*p3=P3 at*
       generalize m*i=P1 at*
       obtain⟨A,hA⟩:∃A,A=x+P1:=⟨_,rfl⟩
       obtain⟨Bq,hB⟩:∃Bq,Bq=y+P1:=⟨_,rfl⟩
       obtain⟨Cq,hC⟩:∃Cq,Cq=h+P3:=⟨_,rfl⟩
       have hAi:(x:Int)+(P1:Int)=(A:Int):=by omega
       have hBi:(y:Int)+(P1:Int)=(Bq:Int):=by omega
       have hCi:(h:Int)+(P3:Int)=(Cq:Int):=by omega
       have HABC:Hid ((x+P1,y+P1,h+P3)=(A,Bq,Cq)):=hid (by rw[hA,hB,hC])
       have hAb:A≤1000:=by omega
       have hBb:Bq≤1000:=by omega
       have hCb:Cq≤1000:=by omega
       clear hA hB hC
       have HAD:=hid (add_any W0 b A Bq Cq v _ wr hLL hb0 hts)
       have HAPP:Hid ((L2++r3 (boI m x y h) i)++[(A,Bq,Cq)]=L2++r3 (boI m x y h) (i+1)):=hid (by rw[List.append_assoc,←HSN.out,HFI.out,HABC.out])
       clear hts
       go_wp2_with fail
       refine HAD.out.mono ?_
       rintro e w2 ⟨⟨r,rfl⟩,hts2⟩
       rw[HAPP.out]at hts2
       have HT2:=hid hts2
       clear hts2
       go_wp2
       go_roundw
       case rel=>exact⟨i+1,by omega,by go_num,HT2.out⟩
       case measure=>simp[intOf]<;>omega
      ·obtain rfl:i=3:=by omega
       have hii:¬((3:Nat):Int)<3:=by omega
       rw[HYS.out]at hts
       have HT2:=hid hts
       clear hts
       go_wp2
       go_roundw
       case rel=>exact⟨y+1,j+1,by have:=HYJ.out;omega,by go_num,by omega,HT2.out⟩
       case measure=>simp[intOf]<;>omega
    ·have hyi:¬(y:Int)<(m:Int):=by omega
     have HT2:=hid hts
     rw[show j=m-(x+1)by have:=HYJ.out;omega]at HT2
     clear hts
     rw[←HXX.out]at HT2
     go_wp2
     go_roundw
     case rel=>exact⟨x+1,by omega,by go_num,HT2.out⟩
     case measure=>simp[intOf]<;>omega
  ·obtain rfl:x=m:=by omega
   have hxi:¬(x:Int)<(x:Int):=by omega
   have HT2:=hid hts
   clear hts
   go_wp2
   go_end0
   exact⟨⟨_,rfl⟩,HT2.out⟩
theorem skolem_any (W0:World) (b t:Nat) (v:Int) (w:World) (ht:t≤5) (hb0:W0.heap.size≤b) (h:TS W0 b v [] w):
 Calls Tryz.prog 206 #[.pointer (some ⟨b,0,none⟩),.int .i64 t] w fun e w'=>(∃r,e= .returned r)∧TS W0 b v (skY t (2*t) (2*t)) w':=by
 obtain⟨m,hm⟩:∃m,m=2*t:=⟨_,rfl⟩
 rw[←hm]
 have hmi:2*(t:Int)=(m:Int):=by omega
 have hm11:m≤11:=by omega
 have htm:t≤m:=by omega
 have HXS:Hid (∀x,skX t m (x+1)=(skX t m x++[(x,x+m,x+2*m)])++r3 (skI t m x) 3):=hid (fun x=>rfl)
 have HXL:=hid (skX_len t m)
 have HYL:=hid (skY_len t m hm11 ht)
 have HYS':Hid (∀x,skY t m (x+1)=skY t m x++boY (skH t m) m x (m-(x+1))):=hid (fun x=>rfl)
 have HY0':Hid (skY t m 0=skX t m t):=hid rfl
 have HT0:=hid h
 have HX0:Hid (skX t m 0=[]):=hid rfl
 generalize skX t m=BX at*
 generalize skY t m=BY at*
 clear h hm
 have ht0:(0:Int)≤(t:Int):=by omega
 go_enter Tryz.func206,Tryz.ntmps206
 go_wp2
 go_loopw [14] (fun xv wr=>∃x:Nat,x≤t∧xv= .int .i64 x∧TS W0 b v (BX x) wr) (fun xv _=>t-(intOf xv).toNat)
 case atStart=>exact⟨0,Nat.zero_le _,rfl,by rw[HX0.out];exact HT0.out⟩
 case round=>
  clear HT0
  obtain⟨x,hx,rfl,hts⟩:=hrel
  by_cases hxm:x<t
  ·have hxi:(x:Int)<(t:Int):=by omega
   have hlb:=HXL.out x
   have HLB:Hid ((BX x++[(x,x+m,x+2*m)]).length≤1000):=hid (by rw[List.length_append];simp;omega)
   have HXX:=hid (HXS.out x)
   have hx2:2*(m:Int)=((2*m:Nat):Int):=by omega
   obtain⟨A,hA⟩:∃A,A=x+m:=⟨_,rfl⟩
   obtain⟨Bq,hB⟩:∃Bq,Bq=x+2*m:=⟨_,rfl⟩
   have hAi:(x:Int)+(m:Int)=(A:Int):=by omega
   have hBi:(x:Int)+2*(m:Int)=(Bq:Int):=by omega
   have hAb:A≤1000:=by omega
   have hBb:Bq≤1000:=by omega
   have HABC:Hid ((x,x+m,x+2*m)=(x,A,Bq)):=hid (by rw[hA,hB])
   clear hA hB hx2
   have HAD:=hid (add_any W0 b x A Bq v _ wr (by omega) hb0 hts)
   rw[←HABC.out]at HAD
   clear hts
   go_wp2_with fail
   refine HAD.out.mono ?_
   rintro e w2 ⟨⟨r,rfl⟩,hts2⟩
   have HTS:=hid hts2
   clear hts2 HAD
   generalize BX x++[(x,x+m,x+2*m)]=L1 at*
   go_wp2
   go_loopw [29] (fun iv wq=>∃i:Nat,i≤3∧iv= .int .i64 i∧TS W0 b v (L1++r3 (skI t m x) i) wq) (fun iv _=>3-(intOf iv).toNat)
   case atStart=>exact⟨0,Nat.zero_le _,rfl,by rw[show L1++r3 (skI t m x) 0=L1 from List.append_nil _];exact HTS.out⟩
   case round=>
    clear HTS
    obtain⟨i,hi,rfl,hts⟩:=hrel
    by_cases hi3:i<3
    ·have hii:(i:Int)<3:=by omega
     have hm1:(m:Int)*(i:Int)=((m*i:Nat):Int):=(Int.natCast_mul _ _).symm
     have hmod:((i:Int)+1).tmod 3=(((i+1)%3:Nat):Int):=by
      rw[show(i:Int)+1=((i+1:Nat):Int)by omega]
      exact(Int.ofNat_tmod _ _).symm
     have hm2:(m:Int)*(((i+1)%3:Nat):Int)=((m*((i+1)%3):Nat):Int):=(Int.natCast_mul _ _).symm
     have hb1:m*i≤11*3:=Nat.mul_le_mul hm11 hi
     have hb2:m*((i+1)%3)≤11*3:=Nat.mul_le_mul hm11 (by omega)
     have HSN:=hid (r3_snoc (skI t m x) i)
     have HFI:Hid ((skI t m x) i=(6*t,x+t+m*i,x+m*((i+1)%3))):=hid rfl
     have hLL:(L1++r3 (skI t m x) i).length≤100000:=by rw[List.length_append,r3_len];have:=HLB.out;omega
     generalize (i+1)%3=p3 at*
     generalize m*p3=P3 at*
     generalize m*i=P1 at*
     obtain⟨A,hA⟩:∃A,A=6*t:=⟨_,rfl⟩
     obtain⟨Bq,hB⟩:∃Bq,Bq=x+t+P1:=⟨_,rfl⟩
     obtain⟨Cq,hC⟩:∃Cq,Cq=x+P3:=⟨_,rfl⟩
     have hAi:6*(t:Int)=(A:Int):=by omega
     have hBi:(x:Int)+(t:Int)+(P1:Int)=(Bq:Int):=by omega
     have hCi:(x:Int)+(P3:Int)=(Cq:Int):=by omega
     have HABC:Hid ((6*t,x+t+P1,x+P3)=(A,Bq,Cq)):=hid (by rw[hA,hB,hC])
     have hAb:A≤1000:=by omega
     have hBb:Bq≤1000:=by omega
     have hCb:Cq≤1000:=by omega
     clear hA hB hC
     have HAD:=hid (add_any W0 b A Bq Cq v _ wr hLL hb0 hts)
     have HAPP:Hid ((L1++r3 (skI t m x) i)++[(A,Bq,Cq)]=L1++r3 (skI t m x) (i+1)):=hid (by rw[List.append_assoc,←HSN.out,HFI.out,HABC.out])
     clear hts
     go_wp2_with fail
     refine HAD.out.mono ?_
     rintro e w2 ⟨⟨r,rfl⟩,hts2⟩
     rw[HAPP.out]at hts2
     have HT2:=hid hts2
     clear hts2
     go_wp2
     go_roundw
     case rel=>exact⟨i+1,by omega,by go_num,HT2.out⟩
     case measure=>simp[intOf]<;>omega
    ·obtain rfl:i=3:=by omega
     have hii:¬((3:Nat):Int)<3:=by omega
     rw[←HXX.out]at hts
     have HT2:=hid hts
     clear hts
     go_wp2
     go_roundw
     case rel=>exact⟨x+1,by omega,by go_num,HT2.out⟩
     case measure=>simp[intOf]<;>omega
  ·have hxt:x=t:=by omega
   have hxi:¬(x:Int)<(t:Int):=by omega
   have HT2:=hid hts
   rw[hxt]at HT2
   clear hxt
   rw[←HY0'.out]at HT2
   clear hts HXL HXS HX0 HY0'
   go_wp2
   go_loopw [55] (fun xv wr=>∃z:Nat,z≤m∧xv= .int .i64 z∧TS W0 b v (BY z) wr) (fun xv _=>m-(intOf xv).toNat)
   case atStart=>exact⟨0,Nat.zero_le _,rfl,HT2.out⟩
   case round=>
    clear HT2
    clear hx hxm hxi
    obtain⟨x,hx,rfl,hts⟩:=hrel
    by_cases hxm:x<m
    ·have hxi:(x:Int)<(m:Int):=by omega
     have hlb:=HYL.out x hx
     have HLB0:Hid ((BY x).length≤500):=hid (by omega)
     have HYS'X:=hid (HYS'.out x)
     have HTS:=hid hts
     clear hts
     go_wp2
     go_loopw [8] (fun yv wr=>∃y j:Nat,y=x+1+j∧yv= .int .i64 y∧y≤m∧TS W0 b v ((BY x)++boY (skH t m) m x j) wr) (fun yv _=>m-(intOf yv).toNat)
     case atStart=>exact⟨x+1,0,rfl,by go_num,by omega,by rw[show(BY x)++boY (skH t m) m x 0=(BY x)from List.append_nil _];exact HTS.out⟩
     case round=>
      clear HTS
      obtain⟨y,j,hyj,rfl,hym,hts⟩:=hrel
      have HYJ:=hid hyj
      have hxy:x+1≤y:=by omega
      clear hyj
      by_cases hyl:y<m
      ·have hyi:(y:Int)<(m:Int):=by omega
       have HY0:Hid (boY (skH t m) m x (j+1)=boY (skH t m) m x j++r3 (boI m x y ((skH t m) x y)) 3):=hid (by rw[HYJ.out];rfl)
       have HLB:Hid (((BY x)++boY (skH t m) m x j).length≤1000):=hid (by rw[List.length_append,boY_len];have:=HLB0.out;have:=HYJ.out;omega)
       have HYS:Hid (((BY x)++boY (skH t m) m x j)++r3 (boI m x y ((skH t m) x y)) 3=(BY x)++boY (skH t m) m x (j+1)):=hid (by rw[HY0.out,List.append_assoc])
       have hsum:(x:Int)+(y:Int)=((x+y:Nat):Int):=by omega
       have hmd:((x+y:Nat):Int).tmod (m:Int)=(((x+y)%m:Nat):Int):=(Int.ofNat_tmod _ _).symm
       have hqb:(x+y)%m<m:=Nat.mod_lt _ (by omega)
       have hmz:¬(m:Int)=0:=by omega
       have HSK:Hid (skH t m x y=if(x+y)%m%2=0 then(x+y)%m/2 else((x+y)%m-1)/2+t):=hid rfl
       generalize (x+y)%m=q at*
       obtain⟨sm,hsm⟩:∃sm,x+y=sm:=⟨_,rfl⟩
       rw[hsm]at hsum hmd
       have hsb:sm≤22:=by omega
       clear hsm
       have HTS:=hid hts
       clear hts HY0
       generalize (BY x)++boY (skH t m) m x j=L2 at*
       generalize (skH t m) x y=h at*
       have hq2:(q:Int).tmod 2=((q%2:Nat):Int):=(Int.ofNat_tmod _ _).symm
       by_cases hev:q%2=0
       ·have hq0:(q:Int).tmod 2=0:=by rw[hq2,hev];rfl
        have hh:h=q/2:=by have:=HSK.out;rwa [if_pos hev]at this
        have hdv:(q:Int).tdiv 2=(h:Int):=by rw[Int.tdiv_eq_ediv_of_nonneg (by omega),hh];rfl
        have hhb:h<m:=by omega
        clear hq2 hev hh HSK
        go_wp2
        go_loopw [80] (fun iv wq=>∃i:Nat,i≤3∧iv= .int .i64 i∧TS W0 b v (L2++r3 (boI m x y h) i) wq) (fun iv _=>3-(intOf iv).toNat)
        case atStart=>exact⟨0,Nat.zero_le _,rfl,by rw[show L2++r3 (boI m x y h) 0=L2 from List.append_nil _];exact HTS.out⟩
        case round=>
         clear HTS
         obtain⟨i,hi,rfl,hts⟩:=hrel
         by_cases hi3:i<3
         ·have hii:(i:Int)<3:=by omega
          have hm1:(m:Int)*(i:Int)=((m*i:Nat):Int):=(Int.natCast_mul _ _).symm
          have hmod:((i:Int)+1).tmod 3=(((i+1)%3:Nat):Int):=by
           rw[show(i:Int)+1=((i+1:Nat):Int)by omega]
           exact(Int.ofNat_tmod _ _).symm
          have hm2:(m:Int)*(((i+1)%3:Nat):Int)=((m*((i+1)%3):Nat):Int):=(Int.natCast_mul _ _).symm
          have hb1:m*i≤11*3:=Nat.mul_le_mul hm11 hi
          have hb2:m*((i+1)%3)≤11*3:=Nat.mul_le_mul hm11 (by omega)
          have HSN:=hid (r3_snoc (boI m x y h) i)
          have HFI:Hid ((boI m x y h) i=(x+m*i,y+m*i,h+m*((i+1)%3))):=hid rfl
          have hLL:(L2++r3 (boI m x y h) i).length≤100000:=by rw[List.length_append,r3_len];have:=HLB.out;omega
          generalize (i+1)%3=p3 at*
          generalize m*p3=P3 at*
          generalize m*i=P1 at*
          obtain⟨A,hA⟩:∃A,A=x+P1:=⟨_,rfl⟩
          obtain⟨Bq,hB⟩:∃Bq,Bq=y+P1:=⟨_,rfl⟩
          obtain⟨Cq,hC⟩:∃Cq,Cq=h+P3:=⟨_,rfl⟩
          have hAi:(x:Int)+(P1:Int)=(A:Int):=by omega
          have hBi:(y:Int)+(P1:Int)=(Bq:Int):=by omega
          have hCi:(h:Int)+(P3:Int)=(Cq:Int):=by omega
          have HABC:Hid ((x+P1,y+P1,h+P3)=(A,Bq,Cq)):=hid (by rw[hA,hB,hC])
          have hAb:A≤1000:=by omega
          have hBb:Bq≤1000:=by omega
          have hCb:Cq≤1000:=by omega
          clear hA hB hC
          have HAD:=hid (add_any W0 b A Bq Cq v _ wr hLL hb0 hts)
          have HAPP:Hid ((L2++r3 (boI m x y h) i)++[(A,Bq,Cq)]=L2++r3 (boI m x y h) (i+1)):=hid (by rw[List.append_assoc,←HSN.out,HFI.out,HABC.out])
          clear hts
          go_wp2_with fail
          refine HAD.out.mono ?_
          rintro e w2 ⟨⟨r,rfl⟩,hts2⟩
          rw[HAPP.out]at hts2
          have HT2:=hid hts2
          clear hts2
          go_wp2
          go_roundw
          case rel=>exact⟨i+1,by omega,by go_num,HT2.out⟩
          case measure=>simp[intOf]<;>omega
         ·obtain rfl:i=3:=by omega
          have hii:¬((3:Nat):Int)<3:=by omega
          rw[HYS.out]at hts
          have HT2:=hid hts
          clear hts
          go_wp2
          go_roundw
          case rel=>exact⟨y+1,j+1,by have:=HYJ.out;omega,by go_num,by omega,HT2.out⟩
          case measure=>simp[intOf]<;>omega
       ·have hq1:(q:Int).tmod 2=1:=by rw[hq2,show q%2=1 by omega];rfl
        have hq0:((q:Int).tmod 2==0)=false:=by rw[hq1];rfl
        have hh:h=(q-1)/2+t:=by have:=HSK.out;rwa [if_neg hev]at this
        obtain⟨q1,hq1e⟩:∃q1,(q-1)/2=q1:=⟨_,rfl⟩
        have hdv:((q:Int)-1).tdiv 2=(q1:Int):=by rw[Int.tdiv_eq_ediv_of_nonneg (by omega),←hq1e];omega
        have hadd:(q1:Int)+(t:Int)=(h:Int):=by omega
        have hhb:h≤20:=by omega
        have hq1b:q1≤20:=by omega
        clear hq2 hev hh HSK hq1e hq0
        have hqm:¬(q:Int).tmod 2=0:=by rw[hq1];decide
        go_wp2
        go_loopw [80] (fun iv wq=>∃i:Nat,i≤3∧iv= .int .i64 i∧TS W0 b v (L2++r3 (boI m x y h) i) wq) (fun iv _=>3-(intOf iv).toNat)
        case atStart=>exact⟨0,Nat.zero_le _,rfl,by rw[show L2++r3 (boI m x y h) 0=L2 from List.append_nil _];exact HTS.out⟩
        case round=>
         clear HTS
         obtain⟨i,hi,rfl,hts⟩:=hrel
         by_cases hi3:i<3
         ·have hii:(i:Int)<3:=by omega
          have hm1:(m:Int)*(i:Int)=((m*i:Nat):Int):=(Int.natCast_mul _ _).symm
          have hmod:((i:Int)+1).tmod 3=(((i+1)%3:Nat):Int):=by
           rw[show(i:Int)+1=((i+1:Nat):Int)by omega]
           exact(Int.ofNat_tmod _ _).symm
          have hm2:(m:Int)*(((i+1)%3:Nat):Int)=((m*((i+1)%3):Nat):Int):=(Int.natCast_mul _ _).symm
          have hb1:m*i≤11*3:=Nat.mul_le_mul hm11 hi
          have hb2:m*((i+1)%3)≤11*3:=Nat.mul_le_mul hm11 (by omega)
          have HSN:=hid (r3_snoc (boI m x y h) i)
          have HFI:Hid ((boI m x y h) i=(x+m*i,y+m*i,h+m*((i+1)%3))):=hid rfl
          have hLL:(L2++r3 (boI m x y h) i).length≤100000:=by rw[List.length_append,r3_len];have:=HLB.out;omega
          generalize (i+1)%3=p3 at*
          generalize m*p3=P3 at*
          generalize m*i=P1 at*
          obtain⟨A,hA⟩:∃A,A=x+P1:=⟨_,rfl⟩
          obtain⟨Bq,hB⟩:∃Bq,Bq=y+P1:=⟨_,rfl⟩
          obtain⟨Cq,hC⟩:∃Cq,Cq=h+P3:=⟨_,rfl⟩
          have hAi:(x:Int)+(P1:Int)=(A:Int):=by omega
          have hBi:(y:Int)+(P1:Int)=(Bq:Int):=by omega
          have hCi:(h:Int)+(P3:Int)=(Cq:Int):=by omega
          have HABC:Hid ((x+P1,y+P1,h+P3)=(A,Bq,Cq)):=hid (by rw[hA,hB,hC])
          have hAb:A≤1000:=by omega
          have hBb:Bq≤1000:=by omega
          have hCb:Cq≤1000:=by omega
          clear hA hB hC
          have HAD:=hid (add_any W0 b A Bq Cq v _ wr hLL hb0 hts)
          have HAPP:Hid ((L2++r3 (boI m x y h) i)++[(A,Bq,Cq)]=L2++r3 (boI m x y h) (i+1)):=hid (by rw[List.append_assoc,←HSN.out,HFI.out,HABC.out])
          clear hts
          go_wp2_with fail
          refine HAD.out.mono ?_
          rintro e w2 ⟨⟨r,rfl⟩,hts2⟩
          rw[HAPP.out]at hts2
          have HT2:=hid hts2
          clear hts2
          go_wp2
          go_roundw
          case rel=>exact⟨i+1,by omega,by go_num,HT2.out⟩
          case measure=>simp[intOf]<;>omega
         ·obtain rfl:i=3:=by omega
          have hii:¬((3:Nat):Int)<3:=by omega
          rw[HYS.out]at hts
          have HT2:=hid hts
          clear hts
          go_wp2
          go_roundw
          case rel=>exact⟨y+1,j+1,by have:=HYJ.out;omega,by go_num,by omega,HT2.out⟩
          case measure=>simp[intOf]<;>omega
      ·have hyi:¬(y:Int)<(m:Int):=by omega
       have HT2:=hid hts
       rw[show j=m-(x+1)by have:=HYJ.out;omega]at HT2
       clear hts
       rw[←HYS'X.out]at HT2
       go_wp2
       go_roundw
       case rel=>exact⟨x+1,by omega,by go_num,HT2.out⟩
       case measure=>simp[intOf]<;>omega
    ·obtain rfl:x=m:=by omega
     have hxi:¬(x:Int)<(x:Int):=by omega
     have HT2:=hid hts
     clear hts
     go_wp2
     go_end0
     exact⟨⟨_,rfl⟩,HT2.out⟩
end Go.Proofs.YtnnaadmegeeinaaGreatDoor
