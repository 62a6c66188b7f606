/-
  Part 7 of a proof: what it proves stands in the last text.
-/
import Derived.Test.YtnnaadmegeeinaaGreatDoorZd
import Derived.Test.YtnnaadmegeeinaaGreatDoorZf
set_option linter.unusedVariables false
set_option maxHeartbeats 8000000
set_option maxRecDepth 100000
namespace Go.Proofs.YtnnaadmegeeinaaGreatDoor
open Go.RowKit
def smallB (p:Int):Bool:=decide (p=2)||decide (p=3)||decide (p=5)||decide (p=7)
theorem small_cases {p:Int} (h:smallB p=true):p=2∨p=3∨p=5∨p=7:=by
 simp only[smallB,Bool.or_eq_true,decide_eq_true_eq]at h
 omega
theorem small_any (p:Int) (w:World):
 Calls Tryz.prog 149 #[.int .i64 p] w fun e w'=>e= .returned (.bool (smallB p))∧w=w':=by
 by_cases h2:p=2
 ·subst h2;go_enter Tryz.func149,Tryz.ntmps149;go_wp2;go_ret;exact⟨rfl,rfl⟩
 by_cases h3:p=3
 ·subst h3;go_enter Tryz.func149,Tryz.ntmps149;go_wp2;go_ret;exact⟨rfl,rfl⟩
 by_cases h5:p=5
 ·subst h5;go_enter Tryz.func149,Tryz.ntmps149;go_wp2;go_ret;exact⟨rfl,rfl⟩
 by_cases h7:p=7
 ·subst h7;go_enter Tryz.func149,Tryz.ntmps149;go_wp2;go_ret;exact⟨rfl,rfl⟩
 have HB:Hid (smallB p=false):=hid (by simp[smallB,h2,h3,h5,h7])
 have e2:(p==2)=false:=by simpa using h2
 have e3:(p==3)=false:=by simpa using h3
 have e5:(p==5)=false:=by simpa using h5
 have e7:(p==7)=false:=by simpa using h7
 clear h2 h3 h5 h7
 go_enter Tryz.func149,Tryz.ntmps149
 go_wp2
 go_ret
 exact⟨by rw[HB.out];rfl,rfl⟩
theorem modulo_any (p:Int) (w:World):
 Calls Tryz.prog 108 #[.int .i64 p] w fun e w'=>e= .returned (.bool (smallB p))∧w=w':=by
 by_cases h2:p=2
 ·subst h2;go_enter Tryz.func108,Tryz.ntmps108;go_wp2;go_ret;exact⟨rfl,rfl⟩
 by_cases h3:p=3
 ·subst h3;go_enter Tryz.func108,Tryz.ntmps108;go_wp2;go_ret;exact⟨rfl,rfl⟩
 by_cases h5:p=5
 ·subst h5;go_enter Tryz.func108,Tryz.ntmps108;go_wp2;go_ret;exact⟨rfl,rfl⟩
 by_cases h7:p=7
 ·subst h7;go_enter Tryz.func108,Tryz.ntmps108;go_wp2;go_ret;exact⟨rfl,rfl⟩
 have HB:Hid (smallB p=false):=hid (by simp[smallB,h2,h3,h5,h7])
 have e2:(p==2)=false:=by simpa using h2
 have e3:(p==3)=false:=by simpa using h3
 have e5:(p==5)=false:=by simpa using h5
 have e7:(p==7)=false:=by simpa using h7
 clear h2 h3 h5 h7
 go_enter Tryz.func108,Tryz.ntmps108
 go_wp2
 go_ret
 exact⟨by rw[HB.out];rfl,rfl⟩
def offB (p x:Int):Bool:=decide (x<0)||decide (p≤x)
def fitB (p:Int) (l:List Int):Bool:= !l.any (offB p)
theorem fit_mem {p:Int} {l:List Int} (h:fitB p l=true):∀x∈l,0≤x∧x<p:=by
 intro x hx
 simp only[fitB,Bool.not_eq_true',List.any_eq_false]at h
 have:=h x hx
 simp[offB]at this
 omega
theorem fit1_any (p x:Int) (b:Nat) (w:World) (hc:w.cell? ⟨b,0,none⟩=some (.int .i64 p)):
 Calls Tryz.prog 191 #[.int .i64 x,.pointer (some ⟨b,0,none⟩)] w fun e w'=>e= .returned (.bool (offB p x))∧w=w':=by
 by_cases h1:x<0
 ·have HB:Hid (offB p x=true):=hid (by simp[offB,h1])
  go_enter Tryz.func191,Tryz.ntmps191
  go_wp2
  go_ret
  exact⟨by rw[HB.out];rfl,rfl⟩
 ·have HB:Hid (offB p x=decide (p≤x)):=hid (by simp[offB,h1])
  go_enter Tryz.func191,Tryz.ntmps191
  go_wp2
  go_ret
  exact⟨by rw[HB.out];rfl,rfl⟩
theorem fit1_tests (p:Int) (b:Nat) (w:World) (hc:w.cell? ⟨b,0,none⟩=some (.int .i64 p)):Tests 191 #[.pointer (some ⟨b,0,none⟩)] (offB p) w where
 enter:=run_callFunc_own Tryz.func191 (by kernel_rfl) (by kernel_rfl)
 calls:=fun x _=>fit1_any p x b w hc
theorem fit_any (p:Int) (v:Value) (l:List Int) (w:World) (hl:Sl w v l) (hb:∀x∈l,I64 x):
 Calls Tryz.prog 109 #[.int .i64 p,v] w fun e w'=>e= .returned (.bool (fitB p l))∧Below w.heap.size w w':=by
 have hb1:Below w.heap.size w (w.alloc (.cells #[.int .i64 p] 3)):=(Below.refl _ _).alloc (Nat.le_refl _) _
 have H:=hid (containsFunc_any _ _ _ v l _ (hl.below hb1) hb (fit1_tests p w.heap.size _ (lit_cell _ _ _)))
 have HB:Hid (fitB p l= !l.any (offB p)):=hid rfl
 generalize l.any (offB p)=z at*
 have HB1:=hid hb1
 clear hl hb1
 go_enter Tryz.func109,Tryz.ntmps109
 go_wp2_with fail
 refine H.out.mono ?_
 rintro e w' ⟨rfl,rfl⟩
 go_wp2
 go_ret
 exact⟨by rw[HB.out];rfl,HB1.out⟩
theorem below_any (p:Int) (v:Value) (l:List Int) (w:World) (hl:Sl w v l):
 Calls Tryz.prog 148 #[v,.int .i64 p] w fun e w'=>e= .returned (.bool (fitB p l))∧∃n,w'=w.drewN n:=by
 obtain⟨a,k,N,rfl,hN,hl1,hl2⟩:=hl.open
 have HT:Hid (∀k:Nat,k<N→offB p (l[k]?.getD 0)=true→fitB p l=false):=by
  intro k hk hp
  unfold fitB
  rw[any_true (by rw[hN.out];exact hk) hp]
  rfl
 have HF:Hid ((∀k:Nat,k<N→offB p (l[k]?.getD 0)=false)→fitB p l=true):=by
  intro h
  unfold fitB
  rw[any_false (by rw[hN.out];exact h)]
  rfl
 clear hl
 go_enter Tryz.func148,Tryz.ntmps148
 go_wp2
 go_loop [5] (fun i=>∃k:Nat,k≤N∧i= .int .i64 k∧Hid (∀j:Nat,j<k→offB p (l[j]?.getD 0)=false)) (fun i=>N-(intOf i).toNat)
 case atStart=>exact⟨0,Nat.zero_le _,rfl,hid (fun j hj=>by omega)⟩
 case round=>
  obtain⟨k,hk,rfl,hno⟩:=hrel
  by_cases hlt:k<N
  ·obtain⟨b,off,rfl,hb,hc⟩:=hl2 (by omega)
   have c1:=hc k hlt
   clear hc hl2
   by_cases h1:l[k]?.getD 0<0
   ·have HP:=hid (HT.out k hlt (by simp[offB,h1]))
    go_wp2
    go_ret
    exact⟨by rw[HP.out];rfl,0,rfl⟩
   by_cases h2:p≤l[k]?.getD 0
   ·have HP:=hid (HT.out k hlt (by simp[offB];omega))
    go_wp2
    go_ret
    exact⟨by rw[HP.out];rfl,0,rfl⟩
   ·have HP:Hid (offB p (l[k]?.getD 0)=false):=hid (by simp only[offB,Bool.or_eq_false_iff,decide_eq_false_iff_not];omega)
    go_wp2
    go_round
    case rel=>exact⟨k+1,by omega,by go_num,hid (fun j hj=>by
     by_cases e:j=k
     ·rw[e];exact HP.out
     ·exact hno.out j (by omega))⟩
    case measure=>simp[intOf]<;>omega
  ·obtain rfl:k=N:=by omega
   have HP:=hid (HF.out hno.out)
   go_wp2
   go_ret
   exact⟨by rw[HP.out];rfl,0,rfl⟩
def tapsE (p:Int) (l:List Int):Int:=if smallB p=false then 1 else if l.length=0∨8<l.length then 2 else if fitB p l=false then 1 else 0
def runE (p:Int) (l m:List Int):Int:=if tapsE p l≠0 then tapsE p l else if m.length≠l.length then 2 else if fitB p m=false then 1 else 0
theorem tapsfault_any (p:Int) (v:Value) (l:List Int) (w:World) (hl:Sl w v l):
 Calls Tryz.prog 147 #[.int .i64 p,v] w fun e w'=>e= .returned (.int .i64 (tapsE p l))∧∃n,w'=w.drewN n:=by
 have HS:=hid (small_any p w)
 have HBL:=hid (below_any p v l w hl)
 obtain⟨a,k,N,rfl,hN,hl1,hl2⟩:=hl.open
 have HE:=hid (show tapsE p l=if smallB p=false then 1 else if N=0∨8<N then 2 else if fitB p l=false then 1 else 0 by rw[←hN.out];rfl)
 clear hl hl2
 generalize tapsE p l=z at*
 generalize smallB p=s at*
 generalize fitB p l=f at*
 cases s with
 |false=>
  obtain rfl:=HE.out
  go_enter Tryz.func147,Tryz.ntmps147
  go_wp2_with fail
  refine HS.out.mono ?_
  rintro e w' ⟨rfl,rfl⟩
  go_wp2
  go_ret
  exact⟨rfl,0,rfl⟩
 |true=>
  by_cases h0:N=0
  ·subst h0
   obtain rfl:=HE.out
   go_enter Tryz.func147,Tryz.ntmps147
   go_wp2_with fail
   refine HS.out.mono ?_
   rintro e w' ⟨rfl,rfl⟩
   go_wp2
   go_ret
   exact⟨rfl,0,rfl⟩
  have hn0:((N:Int)==0)=false:=by simp;omega
  by_cases h8:8<N
  ·have HZ:Hid (z=2):=hid (by rw[HE.out];simp[h8])
   clear h0
   go_enter Tryz.func147,Tryz.ntmps147
   go_wp2_with fail
   refine HS.out.mono ?_
   rintro e w' ⟨rfl,rfl⟩
   go_wp2
   go_ret
   exact⟨by rw[HZ.out];rfl,0,rfl⟩
  ·cases f with
   |false=>
    have HZ:Hid (z=1):=hid (by rw[HE.out];simp[h8,h0])
    clear h0
    go_enter Tryz.func147,Tryz.ntmps147
    go_wp2_with fail
    refine HS.out.mono ?_
    rintro e w' ⟨rfl,rfl⟩
    go_wp2_with fail
    refine HBL.out.mono ?_
    rintro e w' ⟨rfl,n,rfl⟩
    go_wp2
    go_ret
    exact⟨by rw[HZ.out];rfl,n,rfl⟩
   |true=>
    have HZ:Hid (z=0):=hid (by rw[HE.out];simp[h8,h0])
    clear h0
    go_enter Tryz.func147,Tryz.ntmps147
    go_wp2_with fail
    refine HS.out.mono ?_
    rintro e w' ⟨rfl,rfl⟩
    go_wp2_with fail
    refine HBL.out.mono ?_
    rintro e w' ⟨rfl,n,rfl⟩
    go_wp2
    go_ret
    exact⟨by rw[HZ.out];rfl,n,rfl⟩
theorem rcheck_any (p:Int) (v:Value) (l:List Int) (w:World) (hl:Sl w v l) (hb:∀x∈l,I64 x):
 Calls Tryz.prog 186 #[.int .i64 p,v] w fun e w'=>e= .returned (.int .i64 (tapsE p l))∧Below w.heap.size w w':=by
 have HS:=hid (modulo_any p w)
 have HBL:=hid (fit_any p v l w hl hb)
 obtain⟨a,k,N,rfl,hN,hl1,hl2⟩:=hl.open
 have HE:=hid (show tapsE p l=if smallB p=false then 1 else if N=0∨8<N then 2 else if fitB p l=false then 1 else 0 by rw[←hN.out];rfl)
 clear hl hl2
 generalize tapsE p l=z at*
 generalize smallB p=s at*
 generalize fitB p l=f at*
 cases s with
 |false=>
  obtain rfl:=HE.out
  go_enter Tryz.func186,Tryz.ntmps186
  go_wp2_with fail
  refine HS.out.mono ?_
  rintro e w' ⟨rfl,rfl⟩
  go_wp2
  go_ret
  exact⟨rfl,Below.refl _ _⟩
 |true=>
  by_cases h0:N=0
  ·subst h0
   obtain rfl:=HE.out
   go_enter Tryz.func186,Tryz.ntmps186
   go_wp2_with fail
   refine HS.out.mono ?_
   rintro e w' ⟨rfl,rfl⟩
   go_wp2
   go_ret
   exact⟨rfl,Below.refl _ _⟩
  have hn0:((N:Int)==0)=false:=by simp;omega
  by_cases h8:8<N
  ·have HZ:Hid (z=2):=hid (by rw[HE.out];simp[h8])
   clear h0
   go_enter Tryz.func186,Tryz.ntmps186
   go_wp2_with fail
   refine HS.out.mono ?_
   rintro e w' ⟨rfl,rfl⟩
   go_wp2
   go_ret
   exact⟨by rw[HZ.out];rfl,Below.refl _ _⟩
  ·cases f with
   |false=>
    have HZ:Hid (z=1):=hid (by rw[HE.out];simp[h8,h0])
    clear h0
    go_enter Tryz.func186,Tryz.ntmps186
    go_wp2_with fail
    refine HS.out.mono ?_
    rintro e w' ⟨rfl,rfl⟩
    go_wp2_with fail
    refine HBL.out.mono ?_
    rintro e w' ⟨rfl,hb1⟩
    go_wp2
    go_ret
    exact⟨by rw[HZ.out];rfl,hb1⟩
   |true=>
    have HZ:Hid (z=0):=hid (by rw[HE.out];simp[h8,h0])
    clear h0
    go_enter Tryz.func186,Tryz.ntmps186
    go_wp2_with fail
    refine HS.out.mono ?_
    rintro e w' ⟨rfl,rfl⟩
    go_wp2_with fail
    refine HBL.out.mono ?_
    rintro e w' ⟨rfl,hb1⟩
    go_wp2
    go_ret
    exact⟨by rw[HZ.out];rfl,hb1⟩
theorem runfault_any (p:Int) (v u:Value) (l m:List Int) (w:World) (hl:Sl w v l) (hm:Sl w u m):
 Calls Tryz.prog 60 #[.int .i64 p,v,u] w fun e w'=>e= .returned (.int .i64 (runE p l m))∧∃n,w'=w.drewN n:=by
 have HT:=hid (fun w' (h:Sl w' v l)=>tapsfault_any p v l w' h)
 have HBL:=hid (fun w' (h:Sl w' u m)=>below_any p u m w' h)
 have HL:=hid hl
 have HM:=hid hm
 obtain⟨a,k,N,rfl,hN,hl1,hl2⟩:=hl.open
 obtain⟨a',k',M,rfl,hM,hm1,hm2⟩:=hm.open
 have HE:=hid (show runE p l m=if tapsE p l≠0 then tapsE p l else if M≠N then 2 else if fitB p m=false then 1 else 0 by rw[←hN.out,←hM.out];rfl)
 clear hl hl2 hm hm2
 generalize runE p l m=z at*
 generalize tapsE p l=t at*
 generalize fitB p m=f at*
 by_cases h0:t=0
 ·subst h0
  by_cases h1:M=N
  ·subst h1
   have hmm:((M:Int) !=(M:Int))=false:=by simp
   cases f with
   |false=>
    have HZ:Hid (z=1):=hid (by rw[HE.out];simp)
    go_enter Tryz.func60,Tryz.ntmps60
    go_wp2_with fail
    refine(HT.out _ HL.out).mono ?_
    rintro e w' ⟨rfl,n,rfl⟩
    go_wp2_with fail
    refine(HBL.out _ (HM.out.drewN _)).mono ?_
    rintro e w' ⟨rfl,n2,rfl⟩
    go_wp2
    go_ret
    exact⟨by rw[HZ.out];rfl,_,rfl⟩
   |true=>
    have HZ:Hid (z=0):=hid (by rw[HE.out];simp)
    go_enter Tryz.func60,Tryz.ntmps60
    go_wp2_with fail
    refine(HT.out _ HL.out).mono ?_
    rintro e w' ⟨rfl,n,rfl⟩
    go_wp2_with fail
    refine(HBL.out _ (HM.out.drewN _)).mono ?_
    rintro e w' ⟨rfl,n2,rfl⟩
    go_wp2
    go_ret
    exact⟨by rw[HZ.out];rfl,_,rfl⟩
  ·have hmm:((M:Int) !=(N:Int))=true:=by simp;omega
   have HZ:Hid (z=2):=hid (by rw[HE.out];simp[h1])
   clear h1
   go_enter Tryz.func60,Tryz.ntmps60
   go_wp2_with fail
   refine(HT.out _ HL.out).mono ?_
   rintro e w' ⟨rfl,n,rfl⟩
   go_wp2
   go_ret
   exact⟨by rw[HZ.out];rfl,n,rfl⟩
 ·have HZ:Hid (z=t):=hid (by rw[HE.out];simp[h0])
  have hq:(t !=0)=true:=by simpa using h0
  clear h0
  go_enter Tryz.func60,Tryz.ntmps60
  go_wp2_with fail
  refine(HT.out _ HL.out).mono ?_
  rintro e w' ⟨rfl,n,rfl⟩
  go_wp2
  go_ret
  exact⟨by rw[HZ.out];rfl,n,rfl⟩
theorem rcheck2_any (p:Int) (v u:Value) (l m:List Int) (w:World) (hl:Sl w v l) (hm:Sl w u m) (hb:∀x∈l,I64 x) (hb2:∀x∈m,I64 x):
 Calls Tryz.prog 105 #[.int .i64 p,v,u] w fun e w'=>e= .returned (.int .i64 (runE p l m))∧Below w.heap.size w w':=by
 have HT:=hid (fun w' (h:Sl w' v l)=>rcheck_any p v l w' h hb)
 have HBL:=hid (fun w' (h:Sl w' u m)=>fit_any p u m w' h hb2)
 have HL:=hid hl
 have HM:=hid hm
 obtain⟨a,k,N,rfl,hN,hl1,hl2⟩:=hl.open
 obtain⟨a',k',M,rfl,hM,hm1,hm2⟩:=hm.open
 have HE:=hid (show runE p l m=if tapsE p l≠0 then tapsE p l else if M≠N then 2 else if fitB p m=false then 1 else 0 by rw[←hN.out,←hM.out];rfl)
 clear hl hl2 hm hm2 hb hb2
 generalize runE p l m=z at*
 generalize tapsE p l=t at*
 generalize fitB p m=f at*
 by_cases h0:t=0
 ·subst h0
  by_cases h1:M=N
  ·subst h1
   have hmm:((M:Int) !=(M:Int))=false:=by simp
   cases f with
   |false=>
    have HZ:Hid (z=1):=hid (by rw[HE.out];simp)
    go_enter Tryz.func105,Tryz.ntmps105
    go_wp2_with fail
    refine(HT.out _ HL.out).mono ?_
    rintro e w1 ⟨rfl,hb1⟩
    have HM1:=hid (HM.out.below hb1)
    have hz:=hb1.size
    go_wp2_with fail
    refine(HBL.out _ HM1.out).mono ?_
    rintro e w2 ⟨rfl,hb2⟩
    go_wp2
    go_ret
    exact⟨by rw[HZ.out];rfl,hb1.trans (hb2.mono hz)⟩
   |true=>
    have HZ:Hid (z=0):=hid (by rw[HE.out];simp)
    go_enter Tryz.func105,Tryz.ntmps105
    go_wp2_with fail
    refine(HT.out _ HL.out).mono ?_
    rintro e w1 ⟨rfl,hb1⟩
    have HM1:=hid (HM.out.below hb1)
    have hz:=hb1.size
    go_wp2_with fail
    refine(HBL.out _ HM1.out).mono ?_
    rintro e w2 ⟨rfl,hb2⟩
    go_wp2
    go_ret
    exact⟨by rw[HZ.out];rfl,hb1.trans (hb2.mono hz)⟩
  ·have hmm:((M:Int) !=(N:Int))=true:=by simp;omega
   have HZ:Hid (z=2):=hid (by rw[HE.out];simp[h1])
   clear h1
   go_enter Tryz.func105,Tryz.ntmps105
   go_wp2_with fail
   refine(HT.out _ HL.out).mono ?_
   rintro e w1 ⟨rfl,hb1⟩
   go_wp2
   go_ret
   exact⟨by rw[HZ.out];rfl,hb1⟩
 ·have HZ:Hid (z=t):=hid (by rw[HE.out];simp[h0])
  have hq:(t !=0)=true:=by simpa using h0
  clear h0
  go_enter Tryz.func105,Tryz.ntmps105
  go_wp2_with fail
  refine(HT.out _ HL.out).mono ?_
  rintro e w1 ⟨rfl,hb1⟩
  go_wp2
  go_ret
  exact⟨by rw[HZ.out];rfl,hb1⟩
end Go.Proofs.YtnnaadmegeeinaaGreatDoor
namespace Go.Proofs.YtnnaadmegeeinaaGreatDoor
def dbE (P:Nat):List (List Nat)→Int
 |[]=>0
 |b::r=>if(b.any fun n=>decide (P≤n))=true then 1 else if dfRise b=false then 2 else dbE P r
def dsE (P:Nat) (bs:List (List Nat)):Int:=if P<1∨40<P then 1 else if 200<bs.length then 3 else dbE P bs
theorem drop_getD {α:Type} (d:α):∀{l:List α} {i:Nat},i<l.length→l.drop i=l.getD i d::l.drop (i+1)
 |[],_,h=>absurd h (by simp)
 |a::l,0,_=>by simp
 |a::l,i+1,h=>by
  have:=drop_getD d (l:=l) (i:=i) (by simpa using h)
  simpa using this
theorem dbE_at {P:Nat} {bs:List (List Nat)} {i:Nat} (h:i<bs.length):dbE P (bs.drop i)=if((bs.getD i []).any fun n=>decide (P≤n))=true then 1 else if dfRise (bs.getD i [])=false then 2 else dbE P (bs.drop (i+1)):=by
 rw[drop_getD [] h]
 rfl
theorem dbE_zero {P:Nat}:∀{bs:List (List Nat)},dbE P bs=0→∀b∈bs,(∀x∈b,x<P)∧dfRise b=true
 |[],_,b,hb=>absurd hb (by simp)
 |c::r,h,b,hb=>by
  unfold dbE at h
  split at h
  ·cases h
  ·rename_i h1
   split at h
   ·cases h
   ·rename_i h2
    rcases List.mem_cons.1 hb with rfl|hb
    ·exact⟨fun x hx=>Classical.byContradiction fun hc=>h1 (List.any_eq_true.2 ⟨x,hx,decide_eq_true (by omega)⟩),by simpa using h2⟩
    ·exact dbE_zero h b hb
theorem dsE_zero {P:Nat} {bs:List (List Nat)} (h:dsE P bs=0):1≤P∧P≤40∧bs.length≤200∧∀b∈bs,(∀x∈b,x<P)∧dfRise b=true:=by
 unfold dsE at h
 split at h
 ·cases h
 ·split at h
  ·cases h
  ·exact⟨by omega,by omega,by omega,dbE_zero h⟩
theorem dbE_rng (P:Nat):∀bs:List (List Nat),0≤dbE P bs∧dbE P bs≤6
 |[]=>by unfold dbE;decide
 |b::r=>by
  unfold dbE
  have:=dbE_rng P r
  repeat' split
  all_goals first|assumption|decide
theorem dsE_rng (P:Nat) (bs:List (List Nat)):0≤dsE P bs∧dsE P bs≤6:=by
 unfold dsE
 have:=dbE_rng P bs
 repeat' split
 all_goals first|assumption|decide
def mkO (s:Nat) (l:List Nat):Nat:=l.foldl (fun s p=>s|||2^p) s
theorem mkO_lt {s P:Nat} {l:List Nat} (hs:s<2^P) (h:∀x∈l,x<P):mkO s l<2^P:=by
 induction l generalizing s with
 |nil=>exact hs
 |cons a l ih=>
  refine ih (Nat.or_lt_two_pow hs ?_) (fun x hx=>h x (List.mem_cons_of_mem _ hx))
  exact Nat.pow_lt_pow_right (by decide) (h a List.mem_cons_self)
theorem mkO_snoc {s:Nat} {l:List Nat} {i:Nat} (h:i<l.length):mkO s (l.take (i+1))=mkO s (l.take i)|||2^l.getD i 0:=by
 unfold mkO
 rw[List.take_add_one,List.getElem?_eq_getElem h,List.foldl_append,List.getD_eq_getElem?_getD,List.getElem?_eq_getElem h]
 rfl
def chL (P:Nat):Nat→Nat→Nat→List Nat
 |0,_,s=>[s]
 |t+1,a,s=>(List.range (P-t-a)).flatMap fun d=>chL P t (a+d+1) (s|||2^(a+d))
theorem chL_pre {f:Nat→List Nat} {d:Nat}:∀{D:Nat},d≤D→(List.range d).flatMap f<+:(List.range D).flatMap f
 |0,h=>by
  obtain rfl:d=0:=by omega
  exact List.prefix_refl _
 |D+1,h=>by
  by_cases e:d=D+1
  ·subst e
   exact List.prefix_refl _
  ·refine(chL_pre (D:=D) (by omega)).trans ?_
   rw[List.range_succ,List.flatMap_append]
   exact List.prefix_append _ _
theorem chL_pre1 {f:Nat→List Nat} {d D:Nat} {q:List Nat} (h:d<D) (hq:q<+:f d):(List.range d).flatMap f++q<+:(List.range D).flatMap f:=by
 refine List.IsPrefix.trans ?_ (chL_pre (show d+1≤D from h))
 rw[List.range_succ,List.flatMap_append]
 obtain⟨r,hr⟩:=hq
 exact⟨r,by simp[←hr]⟩
theorem chL_len {f:Nat→List Nat} {d D:Nat} (h:d<D):((List.range d).flatMap f).length+(f d).length≤((List.range D).flatMap f).length:=by
 have:=(chL_pre1 (f:=f) h (List.prefix_refl (f d))).length_le
 rwa [List.length_append]at this
theorem chL_snoc (f:Nat→List Nat) (d:Nat):(List.range (d+1)).flatMap f=(List.range d).flatMap f++f d:=by
 rw[List.range_succ,List.flatMap_append]
 simp
def manyO (all:List Nat) (s:Nat):Nat:=all.countP fun b=>b&&&s==s
def okC (all:List Nat) (L:List Nat):Prop:=∀x∈L,∀y∈L,manyO all x=manyO all y
def lamC (all:List Nat) (L:List Nat):Int:=match L.getLast? with|none=> -1|some s=>manyO all s
theorem lamC_nil (all:List Nat):lamC all []= -1:=rfl
theorem lamC_snoc (all L:List Nat) (x:Nat):lamC all (L++[x])=manyO all x:=by simp[lamC]
theorem lamC_mem {all L:List Nat} (h:0≤lamC all L):∃s∈L,lamC all L=manyO all s:=by
 unfold lamC at h⊢
 cases e:L.getLast? with
 |none=>rw[e]at h;simp at h
 |some s=>exact⟨s,List.mem_of_getLast? e,rfl⟩
theorem lamC_neg {all L:List Nat} (h:¬0≤lamC all L):L=[]:=by
 unfold lamC at h
 cases e:L.getLast? with
 |none=>simpa using e
 |some s=>
  rw[e]at h
  exact absurd (Int.natCast_nonneg _) h
theorem okC_nil (all:List Nat):okC all []:=fun x hx=>by simp at hx
theorem okC_first {all:List Nat} (x:Nat):okC all [x]:=fun a ha b hb=>by
 simp at ha hb
 rw[ha,hb]
theorem okC_snoc {all L:List Nat} {x:Nat} (h:okC all L) (h0:¬(0≤lamC all L∧(manyO all x:Int)≠lamC all L)):okC all (L++[x]):=by
 by_cases h1:0≤lamC all L
 ·obtain⟨s,hs,e⟩:=lamC_mem h1
  have hx:manyO all x=manyO all s:=by
   refine Classical.byContradiction fun hc=>h0 ⟨h1,?_⟩
   rw[e]
   omega
  have hA:∀a∈L++[x],manyO all a=manyO all s:=fun a ha=>by
   rcases List.mem_append.1 ha with ha|ha
   ·exact h a ha s hs
   ·simp at ha
    rw[ha,hx]
  exact fun a ha b hb=>by rw[hA a ha,hA b hb]
 ·rw[lamC_neg h1]
  exact okC_first x
theorem okC_bad {all L:List Nat} {x:Nat} (h0:0≤lamC all L) (h1:(manyO all x:Int)≠lamC all L):¬okC all (L++[x]):=fun h=>by
 obtain⟨s,hs,e⟩:=lamC_mem h0
 have:=h x (by simp) s (by simp[hs])
 rw[e,this]at h1
 exact h1 rfl
theorem okC_pre {all L M:List Nat} (h:okC all M) (hp:L<+:M):okC all L:=fun x hx y hy=>h x (hp.subset hx) y (hp.subset hy)
theorem manyO_len (all:List Nat) (s:Nat):manyO all s≤all.length:=List.countP_le_length
theorem manyO_take {all:List Nat} {s j:Nat} (h:j<all.length):manyO (all.take (j+1)) s=manyO (all.take j) s+if(all.getD j 0&&&s==s)=true then 1 else 0:=by
 unfold manyO
 rw[List.take_add_one,List.getElem?_eq_getElem h,List.countP_append,List.getD_eq_getElem?_getD,List.getElem?_eq_getElem h]
 simp[List.countP_cons]
def lvS (bs:List (List Nat)):List Nat:=bs.map (mkO 0)
def lvK (bs:List (List Nat)):Nat:=(bs.getD 0 []).length
noncomputable def lvE (P:Nat) (bs:List (List Nat)) (t:Nat):Int:=by
 classical exact if dsE P bs≠0 then dsE P bs else if 4<t∨P<t then 1 else if bs.length=0 then 4 else if(bs.any fun b=>decide (b.length≠lvK bs))=true then 4 else if okC (lvS bs) (chL P t 0 0)then 0 else 4
noncomputable def lvX1 (P:Nat) (bs:List (List Nat)) (t:Nat):Int:=by
 classical exact if lvE P bs t=0 then lvK bs else 0
noncomputable def lvX2 (P:Nat) (bs:List (List Nat)) (t:Nat):Int:=by
 classical exact if lvE P bs t=0 then lamC (lvS bs) (chL P t 0 0)else 0
end Go.Proofs.YtnnaadmegeeinaaGreatDoor
namespace Go.Proofs.YtnnaadmegeeinaaGreatDoor
open Go.RowKit
def tmN (a b:Nat):Nat:=if 0<a∧1000000000000000000/a<b then 1000000000000000001 else a*b
theorem tmN_bd (a b:Nat):tmN a b≤1000000000000000001:=by
 unfold tmN
 split
 ·exact Nat.le_refl _
 ·rename_i h
  rcases Nat.eq_zero_or_pos a with rfl|ha
  ·simp
  ·have h1:b≤1000000000000000000/a:=by
    rcases Nat.lt_or_ge (1000000000000000000/a) b with h2|h2
    ·exact absurd ⟨ha,h2⟩ h
    ·exact h2
   have h2:=Nat.mul_le_mul_left a h1
   have h3:=Nat.mul_div_le 1000000000000000000 a
   omega
theorem times_any (a b:Nat) (w:World) (ha:a≤1000000000000000001) (hb:b≤1000000000):
 Calls Tryz.prog 265 #[.int .i64 a,.int .i64 b] w fun e w'=>e= .returned (.int .i64 (tmN a b))∧w=w':=by
 have hbd:=tmN_bd a b
 by_cases h0:0<a
 ·have hai:(0:Int)<(a:Int):=by omega
  have hne:¬(a:Int)=0:=by omega
  have hq:(1000000000000000000:Int).tdiv (a:Int)=((1000000000000000000/a:Nat):Int):=by
   rw[Int.tdiv_eq_ediv_of_nonneg (by decide)]
   rfl
  have hql:1000000000000000000/a≤1000000000000000000:=Nat.div_le_self _ _
  by_cases h1:1000000000000000000/a<b
  ·have e1:tmN a b=1000000000000000001:=if_pos ⟨h0,h1⟩
   rw[e1]
   generalize 1000000000000000000/a=q at*
   have h1i:(q:Int)<(b:Int):=by omega
   clear e1 hbd h1 h0
   go_enter Tryz.func265,Tryz.ntmps265
   go_wp2
   go_ret
   exact⟨rfl,rfl⟩
  ·have e1:tmN a b=a*b:=if_neg (fun h=>h1 h.2)
   rw[e1]at hbd⊢
   have hm:(a:Int)*(b:Int)=((a*b:Nat):Int):=by push_cast;rfl
   generalize a*b=m at*
   generalize 1000000000000000000/a=q at*
   have h1i:¬(q:Int)<(b:Int):=by omega
   clear e1 h1 h0
   go_enter Tryz.func265,Tryz.ntmps265
   go_wp2
   go_ret
   exact⟨rfl,rfl⟩
 ·obtain rfl:a=0:=by omega
  have e1:tmN 0 b=0:=by simp[tmN]
  rw[e1]
  clear e1 hbd h0
  go_enter Tryz.func265,Tryz.ntmps265
  go_wp2
  go_ret
  exact⟨rfl,rfl⟩
def trC (n:Nat):Nat→Nat
 |0=>1
 |i+1=>trC n i*(n-i)/(i+1)
theorem trC_all:∀n,n≤30→∀i,i≤15→trC n i≤155117520:=by decide+kernel
def trP (a c:Nat):Nat→Nat
 |0=>c
 |j+1=>tmN (trP a c j) a
theorem trP_bd {a c:Nat} (h:c≤1000000000000000001):∀j,trP a c j≤1000000000000000001
 |0=>h
 |j+1=>tmN_bd _ _
theorem term_any (a p n c:Nat) (w:World) (ha:a≤1000) (hp:p≤1000) (hn:n≤30) (hc:c≤15) (hcn:c≤n):
 Calls Tryz.prog 213 #[.int .i64 a,.int .i64 p,.int .i64 n,.int .i64 c] w fun e w'=>e= .returned (.int .i64 (trP a (trC n c) p))∧Below w.heap.size w w':=by
 have HT:=hid (fun(x:Nat) (w1:World) (hx:x≤1000000000000000001)=>times_any x a w1 hx (by omega))
 have HC:=hid (trC_all n hn)
 have HP:=hid (trP_bd (a:=a) (c:=trC n c) (by have:=trC_all n hn c hc;omega))
 have HPS:Hid (∀j,trP a (trC n c) (j+1)=tmN (trP a (trC n c) j) a):=hid (fun j=>rfl)
 have HP0:Hid (trP a (trC n c) 0=trC n c):=hid rfl
 have HCS:Hid (∀i,trC n (i+1)=trC n i*(n-i)/(i+1)):=hid (fun i=>rfl)
 have HC0:Hid (trC n 0=1):=hid rfl
 generalize trP a (trC n c)=PF at*
 generalize trC n=CF at*
 go_enter Tryz.func213,Tryz.ntmps213
 go_wp2
 go_loopw [9,10,12] (fun ov _ iv wr=>∃i:Nat,iv= .int .i64 i∧i≤c∧ov= .int .i64 (CF i)∧Below w.heap.size w wr) (fun _ _ iv _=>c-(intOf iv).toNat)
 case atStart=>exact⟨0,rfl,Nat.zero_le _,by rw[HC0.out];rfl,Below.refl _ _⟩
 case round=>
  obtain⟨i,rfl,hi,rfl,hb⟩:=hrel
  by_cases hic:i<c
  ·have hii:(i:Int)<(c:Int):=by omega
   have hb1:=HC.out i (by omega)
   have hs:=HCS.out i
   have hm:(CF i:Int)*((n:Int)-(i:Int))=((CF i*(n-i):Nat):Int):=by rw[Int.natCast_mul,Int.ofNat_sub (by omega)]
   have hmb:CF i*(n-i)≤155117520*30:=Nat.mul_le_mul hb1 (by omega)
   have hq:(((CF i*(n-i):Nat):Int)).tdiv ((i:Int)+1)=(CF (i+1):Int):=by
    rw[hs,Int.tdiv_eq_ediv_of_nonneg (by omega)]
    rfl
   have hne:¬((i:Int)+1=0):=by omega
   have hle:=HC.out (i+1) (by omega)
   have HB:=hid hb
   obtain⟨Z,hZ⟩:∃Z,CF (i+1)=Z:=⟨_,rfl⟩
   rw[hZ]at hq hle
   have HZ:=hid hZ
   clear hs hb hZ
   generalize CF i*(n-i)=M at*
   generalize CF i=Y at*
   go_wp2
   go_roundw
   case rel=>exact⟨i+1,by go_num,by omega,by rw[HZ.out],HB.out⟩
   case measure=>simp[intOf]<;>omega
  ·obtain rfl:i=c:=by omega
   have hii:¬(i:Int)<(i:Int):=by omega
   have hcb:=HC.out i hc
   have HCP:=hid HP0.out.symm
   rw[HCP.out]
   have HB:=hid hb
   clear hb
   go_wp2
   go_loopw [9,25] (fun ov iv wr=>∃j:Nat,iv= .int .i64 j∧j≤p∧ov= .int .i64 (PF j)∧Below w.heap.size w wr) (fun _ iv _=>p-(intOf iv).toNat)
   case atStart=>exact⟨0,rfl,Nat.zero_le _,rfl,HB.out⟩
   case round=>
    obtain⟨j,rfl,hj,rfl,hb⟩:=hrel
    by_cases hjp:j<p
    ·have hji:(j:Int)<(p:Int):=by omega
     have HTT:=hid (HT.out (PF j) wr (HP.out j))
     have hs:=HPS.out j
     have HB:=hid hb
     rw[←hs]at HTT
     clear hs hb
     go_wp2_with fail
     refine HTT.out.mono ?_
     rintro e w2 ⟨rfl,rfl⟩
     go_wp2
     go_roundw
     case rel=>exact⟨j+1,by go_num,by omega,rfl,HB.out⟩
     case measure=>simp[intOf]<;>omega
    ·obtain rfl:j=p:=by omega
     have hji:¬(j:Int)<(j:Int):=by omega
     have HB:=hid hb
     clear hb
     go_wp2
     go_ret
     exact⟨rfl,HB.out⟩
end Go.Proofs.YtnnaadmegeeinaaGreatDoor
