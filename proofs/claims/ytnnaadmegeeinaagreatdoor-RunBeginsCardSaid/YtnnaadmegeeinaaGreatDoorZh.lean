/-
  Part 8 of a proof: what it proves stands in the last text.
-/
import Derived.Test.YtnnaadmegeeinaaGreatDoorZg
import Derived.Test.YtnnaadmegeeinaaGreatDoorZa
import Derived.Test.YtnnaadmegeeinaaGreatDoorZc
import Derived.Test.YtnnaadmegeeinaaGreatDoorZe
import Derived.Deep.LoopGhost
import Derived.BigQuiet
import Derived.Deep.Matrix
set_option linter.unusedVariables false
set_option maxHeartbeats 8000000
set_option maxRecDepth 100000
namespace Go.Proofs.YtnnaadmegeeinaaGreatDoor
open Go.RowKit
def raoS (k s:Nat):Nat→Nat
 |0=>0
 |i+1=>min (raoS k s i+trP (s-1) (trC k i) i) 1000000000000000001
theorem raoS_bd (k s:Nat):∀i,raoS k s i≤1000000000000000001
 |0=>Nat.zero_le _
 |i+1=>Nat.min_le_right _ _
def raoT (k s t:Nat):Nat:=raoS k s (t/2+1)+if t%2=1 then trP (s-1) (trC (k-1) (t/2)) (t/2+1)else 0
def raoB (k s t:Nat):Prop:=k<1∨30<k∨s<2∨64<s∨k<t
instance (k s t:Nat):Decidable (raoB k s t):=by unfold raoB;infer_instance
def raoE (k s t:Nat):Int:=if raoB k s t then 1 else if 1000000000000000000<raoT k s t then 3 else 0
def raoX (k s t:Nat):Int:=if raoE k s t=0 then(raoT k s t:Nat)else 0
theorem Rao_bad (k s t:Nat) (w:World) (hk:k<1000000000) (hs:s<1000000000) (ht:t<1000000000) (h:raoB k s t):
 Calls Tryz.prog 131 #[.int .i64 k,.int .i64 s,.int .i64 t] w fun e w'=>e= .returned (.tuple #[.int .i64 0,.int .i64 1])∧w=w':=by
 unfold raoB at h
 have n0:¬(t:Int)<0:=by omega
 by_cases h1:k<1
 ·have i1:(k:Int)<1:=by omega
  clear h h1
  go_enter Tryz.func131,Tryz.ntmps131
  go_wp2
  go_ret2
  exact⟨rfl,rfl⟩
 have i1:¬(k:Int)<1:=by omega
 by_cases h2:30<k
 ·have i2:(30:Int)<(k:Int):=by omega
  clear h h1 h2
  go_enter Tryz.func131,Tryz.ntmps131
  go_wp2
  go_ret2
  exact⟨rfl,rfl⟩
 have i2:¬(30:Int)<(k:Int):=by omega
 by_cases h3:s<2
 ·have i3:(s:Int)<2:=by omega
  clear h h1 h2 h3
  go_enter Tryz.func131,Tryz.ntmps131
  go_wp2
  go_ret2
  exact⟨rfl,rfl⟩
 have i3:¬(s:Int)<2:=by omega
 by_cases h4:64<s
 ·have i4:(64:Int)<(s:Int):=by omega
  clear h h1 h2 h3 h4
  go_enter Tryz.func131,Tryz.ntmps131
  go_wp2
  go_ret2
  exact⟨rfl,rfl⟩
 have i4:¬(64:Int)<(s:Int):=by omega
 have i5:(k:Int)<(t:Int):=by omega
 clear h h1 h2 h3 h4
 go_enter Tryz.func131,Tryz.ntmps131
 go_wp2
 go_ret2
 exact⟨rfl,rfl⟩
theorem Rao_ok (k s t:Nat) (w:World) (h:¬raoB k s t):
 Calls Tryz.prog 131 #[.int .i64 k,.int .i64 s,.int .i64 t] w fun e w'=>e= .returned (.tuple #[.int .i64 (raoX k s t),.int .i64 (raoE k s t)])∧Below w.heap.size w w':=by
 have hE:raoE k s t=if 1000000000000000000<raoT k s t then 3 else 0:=if_neg h
 unfold raoB at h
 have hk1:1≤k:=by omega
 have hk30:k≤30:=by omega
 have hs2:2≤s:=by omega
 have hs64:s≤64:=by omega
 have htk:t≤k:=by omega
 have hX:raoX k s t=if raoE k s t=0 then((raoT k s t:Nat):Int)else 0:=rfl
 have HT:Hid (raoT k s t=raoS k s (t/2+1)+if t%2=1 then trP (s-1) (trC (k-1) (t/2)) (t/2+1)else 0):=hid rfl
 have HTM:=hid (fun(i:Nat) (w1:World) (hi:i≤t/2)=>term_any (s-1) i k i w1 (by omega) (by omega) hk30 (by omega) (by omega))
 have HTM2:=hid (fun(w1:World) (h1:t%2=1)=>term_any (s-1) (t/2+1) (k-1) (t/2) w1 (by omega) (by omega) (by omega) (by omega) (by omega))
 have HTB:=hid (fun(i:Nat) (hi:i≤t/2)=>trP_bd (a:=s-1) (c:=trC k i) (by have:=trC_all k hk30 i (by omega);omega) i)
 have HTB2:=hid (fun(h1:t%2=1)=>trP_bd (a:=s-1) (c:=trC (k-1) (t/2)) (by have:=trC_all (k-1) (by omega) (t/2) (by omega);omega) (t/2+1))
 have HSB:=hid (raoS_bd k s)
 have HSS:Hid (∀i,raoS k s (i+1)=min (raoS k s i+trP (s-1) (trC k i) i) 1000000000000000001):=hid (fun i=>rfl)
 have HS0:Hid (raoS k s 0=0):=hid rfl
 have j1:¬(k:Int)<1:=by omega
 have j2:¬(30:Int)<(k:Int):=by omega
 have j3:¬(s:Int)<2:=by omega
 have j4:¬(64:Int)<(s:Int):=by omega
 have j5:¬(t:Int)<0:=by omega
 have j6:¬(k:Int)<(t:Int):=by omega
 have HS1:Hid ((s:Int)-1=((s-1:Nat):Int)):=hid (by omega)
 have HK1:Hid ((k:Int)-1=((k-1:Nat):Int)):=hid (by omega)
 have hq:(t:Int).tdiv 2=((t/2:Nat):Int):=by rw[Int.tdiv_eq_ediv_of_nonneg (by omega)];rfl
 have hm:(t:Int).tmod 2=((t%2:Nat):Int):=by rw[Int.tmod_eq_emod_of_nonneg (by omega)];rfl
 have hm2:t%2<2:=Nat.mod_lt _ (by decide)
 have HXE:=hid (And.intro hE hX)
 clear hE hX h
 generalize raoE k s t=EE at*
 generalize raoX k s t=XX at*
 generalize raoT k s t=TT at*
 generalize raoS k s=SS' at*
 obtain⟨u,hu⟩:∃u,t/2=u:=⟨_,rfl⟩
 have hu15:u≤15:=by omega
 rw[hu]at HT HTM HTM2 HTB HTB2 hq
 clear hu
 go_enter Tryz.func131,Tryz.ntmps131
 go_wp2
 go_loopw [9,10,38] (fun ov _ iv wr=>∃i:Nat,iv= .int .i64 i∧i≤u+1∧ov= .int .i64 (SS' i)∧Below w.heap.size w wr) (fun _ _ iv _=>u+1-(intOf iv).toNat)
 case atStart=>exact⟨0,rfl,Nat.zero_le _,by rw[HS0.out];rfl,Below.refl _ _⟩
 case round=>
  obtain⟨i,rfl,hi,rfl,hb⟩:=hrel
  by_cases hic:i<u+1
  ·have hii:(i:Int)<(u:Int)+1:=by omega
   have HTT:=hid (HTM.out i wr (by omega))
   have hb1:=HTB.out i (by omega)
   have hb2:=HSB.out i
   have hs:=HSS.out i
   have HMN:Hid ((if(1000000000000000001:Int)<(SS' i:Int)+((trP (s-1) (trC k i) i:Nat):Int)then 1000000000000000001 else(SS' i:Int)+((trP (s-1) (trC k i) i:Nat):Int))=(SS' (i+1):Int)):=hid (by rw[hs];split<;>omega)
   have HB:=hid hb
   clear hs hb
   generalize trP (s-1) (trC k i) i=M at*
   go_wp2_with fail
   rw[HS1.out]
   refine HTT.out.mono ?_
   rintro e w2 ⟨rfl,hb2'⟩
   have HB2:=hid (HB.out.trans (hb2'.mono HB.out.size))
   clear hb2'
   go_wp2
   go_roundw
   case rel=>exact⟨i+1,by go_num,by omega,by rw[HMN.out],HB2.out⟩
   case measure=>simp[intOf]<;>omega
  ·obtain rfl:i=u+1:=by omega
   have hii:¬(((u+1:Nat):Int)<(u:Int)+1):=by omega
   have HB:=hid hb
   have hb2:=HSB.out (u+1)
   clear hb
   by_cases ht:t%2=1
   ·have hm1:(t:Int).tmod 2=1:=by rw[hm,ht];rfl
    have HTT:=hid (HTM2.out wr ht)
    have hb1:=HTB2.out ht
    have HT2:=HT.out
    rw[if_pos ht]at HT2
    have HT3:=hid HT2
    clear HT2 HT HTM HTM2 HTB HTB2 hm
    generalize trP (s-1) (trC (k-1) u) (u+1)=M at*
    generalize SS' (u+1)=Y at*
    have HU1:Hid ((u:Int)+1=((u+1:Nat):Int)):=hid (by omega)
    go_wp2_with fail
    rw[HS1.out,HK1.out,HU1.out]
    refine HTT.out.mono ?_
    rintro e w2 ⟨rfl,hb2'⟩
    have HB2:=hid (HB.out.trans (hb2'.mono HB.out.size))
    have HTI:(Y:Int)+(M:Int)=(TT:Int):=by rw[HT3.out];omega
    have hTT:TT≤2000000000000000002:=by omega
    clear hb2'
    by_cases hc:1000000000000000000<TT
    ·have hci:(1000000000000000000:Int)<(TT:Int):=by omega
     obtain⟨e1,e2⟩:=HXE.out
     rw[if_pos hc]at e1
     subst e1
     rw[if_neg (by decide)]at e2
     subst e2
     clear HXE HT3
     go_wp2
     go_ret2
     exact⟨rfl,HB2.out⟩
    ·have hci:¬(1000000000000000000:Int)<(TT:Int):=by omega
     obtain⟨e1,e2⟩:=HXE.out
     rw[if_neg hc]at e1
     subst e1
     rw[if_pos rfl]at e2
     subst e2
     clear HXE HT3
     go_wp2
     go_ret2
     exact⟨rfl,HB2.out⟩
   ·have hm1:((t:Int).tmod 2==1)=false:=by rw[hm,beq_eq_false_iff_ne];omega
    have HT2:=HT.out
    rw[if_neg ht,Nat.add_zero]at HT2
    rw[←HT2]at hb2⊢
    clear HT2 HT HTM HTM2 HTB HTB2 hm
    by_cases hc:1000000000000000000<TT
    ·have hci:(1000000000000000000:Int)<(TT:Int):=by omega
     obtain⟨e1,e2⟩:=HXE.out
     rw[if_pos hc]at e1
     subst e1
     rw[if_neg (by decide)]at e2
     subst e2
     clear HXE
     go_wp2
     go_ret2
     exact⟨rfl,HB.out⟩
    ·have hci:¬(1000000000000000000:Int)<(TT:Int):=by omega
     obtain⟨e1,e2⟩:=HXE.out
     rw[if_neg hc]at e1
     subst e1
     rw[if_pos rfl]at e2
     subst e2
     clear HXE
     go_wp2
     go_ret2
     exact⟨rfl,HB.out⟩
theorem small_bd {p:Int} (h:smallB p=true):2≤p∧p≤7:=by
 rcases small_cases h with rfl|rfl|rfl|rfl<;>omega
theorem getD_q (l:List Int) (i:Nat):l.getD i 0=l[i]?.getD 0:=List.getD_eq_getElem?_getD
structure Recur (p:Int) (taps seed:List Int):Prop where
 p2:2≤p
 p7:p≤7
 k1:1≤taps.length
 k8:taps.length≤8
 len:seed.length=taps.length
 ft:∀x∈taps,0≤x∧x<p
 fs:∀x∈seed,0≤x∧x<p
theorem runE_ok {p:Int} {taps seed:List Int} (h:runE p taps seed=0):Recur p taps seed:=by
 by_cases h1:smallB p=false
 ·have e:tapsE p taps=1:=by unfold tapsE;rw[if_pos h1]
  unfold runE at h
  rw[e]at h
  simp at h
 have hs:smallB p=true:=by simpa using h1
 by_cases h2:taps.length=0∨8<taps.length
 ·have e:tapsE p taps=2:=by unfold tapsE;rw[if_neg h1,if_pos h2]
  unfold runE at h
  rw[e]at h
  simp at h
 by_cases h3:fitB p taps=false
 ·have e:tapsE p taps=1:=by unfold tapsE;rw[if_neg h1,if_neg h2,if_pos h3]
  unfold runE at h
  rw[e]at h
  simp at h
 have hf:fitB p taps=true:=by simpa using h3
 have e:tapsE p taps=0:=by unfold tapsE;rw[if_neg h1,if_neg h2,if_neg h3]
 unfold runE at h
 rw[e]at h
 rw[if_neg (by simp)]at h
 by_cases h4:seed.length=taps.length
 ·rw[if_neg (by simpa using h4)]at h
  by_cases h5:fitB p seed=false
  ·rw[if_pos h5]at h;omega
  ·have:=small_bd hs
   exact⟨this.1,this.2,by omega,by omega,h4,fit_mem hf,fit_mem (by simpa using h5)⟩
 ·rw[if_pos h4]at h;omega
end Go.Proofs.YtnnaadmegeeinaaGreatDoor
namespace Go.Proofs.YtnnaadmegeeinaaGreatDoor
def apI (b:Nat):List Nat→List Nat→Option (List Nat)
 |[],S=>some S
 |a::ps,S=>if decide (b-a∈S)then none else apI b ps ((b-a)::S)
def apG:List Nat→List Nat→List Nat→Bool
 |_,[],_=>true
 |ps,b::bs,S=>match apI b ps S with
  |some S'=>apG (ps++[b]) bs S'
  |none=>false
def apB (l:List Nat):Bool:=apG [] l []
def rbC (e k:Nat) (x:Nat):List Nat:=if k=1 then(if x+1≤e then[e]else[])else List.range' (x+1) (e+1-k-x)
def rbF (e:Nat):Nat→List Nat→Option (List Nat)
 |0,l=>if l.getLastD 0=e then some l else none
 |k+1,l=>(rbC e (k+1) (l.getLastD 0)).findSome? fun m=>if apB (l++[m])then rbF e k (l++[m])else none
def rulN (n:Nat):Nat:=if n=1 then 0 else if n=2 then 1 else if n=3 then 3 else if n=4 then 6 else if n=5 then 11 else if n=6 then 17 else 25
theorem rul_found:∀n,n<8→1≤n→(rbF (rulN n) (n-1) [0]).isSome=true:=by decide+kernel
end Go.Proofs.YtnnaadmegeeinaaGreatDoor
namespace Go.Proofs.YtnnaadmegeeinaaGreatDoor
open Go.RowKit
def SmK (k:Int) (l:List Int):Prop:=∀x∈l,0≤x∧x≤k-1
theorem SmK.small {k:Int} {l:List Int} (h:SmK k l) (hk:k≤10):SmallL l:=fun x hx=>by have:=h x hx;omega
theorem SmK.round {k:Int} {l:List Int} (h:SmK k l) (hk:1≤k) (m:Nat):SmK k (round' l m):=by
 intro x hx
 simp only[round',List.mem_map]at hx
 obtain⟨i,_,rfl⟩:=hx
 rw[List.getD_eq_getElem?_getD]
 cases hi:l[i%l.length]? with
 |none=>simp;omega
 |some y=>simpa using h y (List.mem_of_getElem? hi)
theorem trim_mem {x y:Int} {l:List Int} (h:y∈trim x l):y∈l:=by
 simp only[trim,List.mem_reverse]at h
 have:=(List.dropWhile_sublist (·==x)).subset h
 simpa using this
theorem trim_end {x:Int} {l r:List Int} {y:Int} (h:trim x l=r++[y]):y≠x:=by
 have h1:(l.reverse.dropWhile (·==x))=y::r.reverse:=by
  have:=congrArg List.reverse h
  simpa [trim]using this
 intro e
 have h2:=List.head?_dropWhile_not (·==x) l.reverse
 rw[h1]at h2
 simp[e]at h2
theorem SmK.next {k:Int} {l:List Int} (h:SmK k l) (hk:1≤k) (m:Nat):SmK k (nextL k l m):=by
 unfold nextL
 have h1:=h.round hk m
 generalize round' l m=R at*
 cases hr:(trim (k-1) R).reverse with
 |nil=>
  have:bump (trim (k-1) R)=[]:=by unfold bump;rw[hr]
  rw[this];intro x hx;simp at hx
 |cons y r=>
  have e:trim (k-1) R=r.reverse++[y]:=by
   have:=congrArg List.reverse hr
   simpa using this
  have hy:=trim_end e
  rw[e,bump_snoc]
  intro x hx
  rcases List.mem_append.1 hx with hx|hx
  ·exact h1 x (trim_mem (by rw[e];simp[hx]))
  ·have h2:=h1 y (trim_mem (x:=k-1) (by rw[e];simp))
   simp at hx
   omega
theorem nextL_len (k:Int) (l:List Int) (m:Nat):(nextL k l m).length≤m:=by
 unfold nextL bump trim
 have h1:=round_len l m
 generalize round' l m=R at*
 cases hr:((List.dropWhile (·==k-1) R.reverse).reverse).reverse with
 |nil=>simp
 |cons x r=>
  have h2:=(List.dropWhile_sublist (fun y=>y==k-1) (l:=R.reverse)).length_le
  simp at hr
  rw[hr]at h2
  simp at h2⊢
  omega
theorem brRun_le {k:Int} {n:Nat}:∀{f:Nat} {w out R:List Int},brRun k n f w out=some R→out.length≤R.length
 |0,_,_,_,h=>by cases h
 |f+1,w,out,R,h=>by
  simp only[brRun]at h
  split at h
  ·have:=Option.some.inj h;rw[this];exact Nat.le_refl _
  ·have:=brRun_le h
   split at this
   ·rw[List.length_append]at this;omega
   ·exact this
theorem greedy_len (k all:Nat):∀(f code seen:Nat) (out:List Int),(greedy k all f code seen out).length≤out.length+f
 |0,_,_,out=>by simp[greedy]
 |f+1,code,seen,out=>by
  simp only[greedy]
  split
  ·rename_i x _
   have:=greedy_len k all f ((code*k+x)%all) (seen|||2^((code*k+x)%all)) ((x:Int)::out)
   rw[List.length_cons]at this
   omega
  ·have:=greedy_len k all f code seen out
   omega
theorem greed_len {k n:Nat} (h:k^n≤4096):(greed k n).length≤4096:=by
 unfold greed
 rw[List.length_reverse]
 have:=greedy_len k (k^n) (k^n) (k^n-1) 0 []
 simp at this
 omega
theorem Bruijn_range (k n:Int) (w:World) (h:k<1∨10<k∨n<1):
 Calls Tryz.prog 137 #[.int .i64 k,.int .i64 n] w fun e w'=>e= .returned (.tuple #[.slice none 0 0,.int .i64 1])∧w=w':=by
 by_cases h1:k<1
 ·go_enter Tryz.func137,Tryz.ntmps137
  go_wp2
  all_goals (go_ret2;exact⟨rfl,rfl⟩)
 by_cases h2:10<k
 ·go_enter Tryz.func137,Tryz.ntmps137
  go_wp2
  all_goals (go_ret2;exact⟨rfl,rfl⟩)
 ·have h3:n<1:=by omega
  go_enter Tryz.func137,Tryz.ntmps137
  go_wp2
  all_goals (go_ret2;exact⟨rfl,rfl⟩)
theorem Bruijn_long (k n:Int) (w:World) (h1:1≤k) (h2:k≤10) (h:12<n):
 Calls Tryz.prog 137 #[.int .i64 k,.int .i64 n] w fun e w'=>e= .returned (.tuple #[.slice none 0 0,.int .i64 3])∧w=w':=by
 go_enter Tryz.func137,Tryz.ntmps137
 go_wp2
 all_goals (go_ret2;exact⟨rfl,rfl⟩)
theorem Bruijn_full (k n:Nat) (w:World) (h1:1≤k) (h2:k≤10) (h3:1≤n) (h4:n≤12) (h:4096<k^n):
 Calls Tryz.prog 137 #[.int .i64 k,.int .i64 n] w fun e w'=>e= .returned (.tuple #[.slice none 0 0,.int .i64 3])∧w=w':=by
 have H:=hid h
 clear h
 go_enter Tryz.func137,Tryz.ntmps137
 go_wp2_with fail
 refine(power_no k n _ w h1 (by decide) (by decide) (by omega) (by have:=H.out;omega)).mono ?_
 rintro e w' ⟨rfl,rfl⟩
 go_wp2
 go_ret2
 exact⟨rfl,rfl⟩
theorem Bruijn_ok (k n:Nat) (w:World) (h1:1≤k) (h2:k≤10) (h3:1≤n) (h4:n≤12) (h:k^n≤4096):
 Calls Tryz.prog 137 #[.int .i64 k,.int .i64 n] w fun e w'=>(∃u,e= .returned (.tuple #[u,.int .i64 0])∧OI w.heap.size w' u (greed k n))∧Below w.heap.size w w':=by
 have H:=hid h
 have HR:=hid (bru_eq h1 h2 h3 h4 h)
 have HL:=greed_len h
 generalize greed k n=R at*
 clear h
 go_enter Tryz.func137,Tryz.ntmps137
 go_wp2_with fail
 refine(power_ok k n _ w h1 (by decide) (by decide) (by omega) (by have:=H.out;omega)).mono ?_
 rintro e w' ⟨rfl,rfl⟩
 go_wp2
 go_loopg [8,9] 5000 (fun f vo vw wr=>∃(a:Option Addr) (N c:Nat) (wl out:List Int),vw= .slice a N c∧Hid (wl.length=N)∧N≤12∧OI w.heap.size wr (.slice a N c) wl∧OI w.heap.size wr vo out∧Apart vo (.slice a N c)∧Hid (brRun k n f wl out=some R)∧SmK k wl∧Below w.heap.size w wr)
 case atStart=>
  refine⟨_,1,1,[0],[],rfl,hid rfl,by omega,OI.lit1 _ w 0 (Nat.le_refl _),OI.nil _ _,Apart.nil _,HR,fun x hx=> ?_,(Below.refl _ _).alloc (Nat.le_refl _) _⟩
  simp at hx;omega
 case round=>
  obtain⟨a,N,c,wl,out,rfl,hN,hN12,how,hoo,hap,hrun,hsm,hb⟩:=hrel
  have hB:=hb.size
  cases gk with
  |zero=>exfalso;have:=hrun.out;cases this
  |succ f=>
   have hr:=hrun.out
   simp only[brRun]at hr
   rw[hN.out]at hr
   by_cases h0:N=0
   ·subst h0
    rw[if_pos rfl]at hr
    obtain rfl:out=R:=Option.some.inj hr
    clear hr hrun
    go_wp2
    go_ret2
    exact⟨⟨_,rfl,hoo⟩,hb⟩
   have hpn:0<N:=by omega
   rw[if_neg h0]at hr
   have hsl:=how.sl (by rw[hN.out];omega)
   have hnl:=nextL_len k wl n
   have hsn:=hsm.next (by omega) n
   by_cases hd:n%N=0
   ·have hb1:(((n:Int)%(N:Int))==0)=true:=by simp;exact_mod_cast hd
    rw[if_pos hd]at hr
    have hlo:=brRun_le hr
    rw[List.length_append,hN.out]at hlo
    have HRn:=hid hr
    clear hr hrun hd
    go_wp2_with (at_builtin;refine wpList_apps (w:=wr) _ _ 45 3 (.int .i64 0) 8 rfl rfl Tryz.underlying45 Tryz.info3 rfl (by decide) w.heap.size _ _ _ _ rfl hoo rfl hsl (by intro x hx;simp only[List.mem_map]at hx;obtain⟨y,_,rfl⟩:=hx;rfl) (by simp only[List.length_map];rw[hN.out];omega) hB ?_;intro v' w1 ho1 hg1 hg2)
    have ho1':=OI.ofApp ho1
    have how1:=how.keptA hoo hg1 hap
    have hb1:=hoo.grown hb hg1 hB
    have hsl1:=how1.sl (by rw[hN.out];omega)
    clear ho1 how hoo hap hg2 hg1 hsl
    go_wp2_with fail
    refine(next_any k n _ wl _ hsl1 (by rw[hN.out];exact hpn) (hsm.small (by omega)) (by omega) (by omega) (by omega)).mono ?_
    rintro e w2 ⟨⟨u,rfl,hou⟩,hbu⟩
    obtain⟨a2,c2,hu⟩:=hou.len
    subst hu
    go_wp2
    go_roundg f
    case measure=>omega
    case rel=>exact⟨a2,_,c2,nextL k wl n,_,rfl,hid rfl,by omega,hou.mono hb1.size,ho1'.below hbu,Apart.fresh ho1' hou,HRn,hsn,hb1.trans (hbu.mono hb1.size)⟩
   ·have hb1:(((n:Int)%(N:Int))==0)=false:=by simp;exact_mod_cast hd
    rw[if_neg hd]at hr
    have HRn:=hid hr
    clear hr hrun hd
    go_wp2_with fail
    refine(next_any k n _ wl _ hsl (by rw[hN.out];exact hpn) (hsm.small (by omega)) (by omega) (by omega) (by omega)).mono ?_
    rintro e w2 ⟨⟨u,rfl,hou⟩,hbu⟩
    obtain⟨a2,c2,hu⟩:=hou.len
    subst hu
    go_wp2
    go_roundg f
    case measure=>omega
    case rel=>exact⟨a2,_,c2,nextL k wl n,_,rfl,hid rfl,by omega,hou.mono hB,hoo.below hbu,Apart.fresh hoo hou,HRn,hsn,hb.trans (hbu.mono hB)⟩
def RL (w:World) (v:Value) (ll:List (List Int)):Prop:=
 ∃a c,v= .slice a ll.length c∧(ll.length≤17592186044416∧ll.length≤c)∧(0<ll.length→∃g off,a=some ⟨g,off,none⟩∧g<w.heap.size∧∀i,i<ll.length→∃u,w.cell? ⟨g,off+i,none⟩=some u∧Sl w u (ll.getD i []))
theorem RL.open {w:World} {v:Value} {ll:List (List Int)} (h:RL w v ll):∃a c N,v= .slice a N c∧Hid (ll.length=N)∧(N≤17592186044416∧N≤c)∧(0<N→∃g off,a=some ⟨g,off,none⟩∧g<w.heap.size∧∀i,i<N→∃u,w.cell? ⟨g,off+i,none⟩=some u∧Sl w u (ll.getD i [])):=by
 obtain⟨a,c,h1,h2,h3⟩:=h
 exact⟨a,c,ll.length,h1,hid rfl,h2,h3⟩
theorem OL.rl {B U:Nat} {w:World} {v:Value} {ll:List (List Int)} (h:OL B U w v ll) (h1:ll.length≤1000000000000) (h2:∀i,i<ll.length→(ll.getD i []).length≤17592186044416):RL w v ll:=by
 obtain⟨vs,o1,o2,o3,o4⟩:=h
 obtain⟨a,c,e⟩:=o1.len
 subst e
 refine⟨a,c,by rw[o3],⟨by omega,by have:=o1.cap.1;omega⟩,fun hp=> ?_⟩
 obtain⟨g,c',e,hg1,hg2⟩:=o1.form (by omega)
 simp only[Value.slice.injEq]at e
 obtain⟨rfl,_,rfl⟩:=e
 refine⟨g,0,rfl,hg2,fun i hi=> ?_⟩
 refine⟨vs.getD i undef,?_,(o4 i hi).1.sl (h2 i hi)⟩
 rw[Nat.zero_add,o1.cell i (by omega)]
 simp[show i<vs.length by omega]
theorem RL.below {w w':World} {v:Value} {ll:List (List Int)} (h:RL w v ll) (hb:Below w.heap.size w w'):RL w' v ll:=by
 obtain⟨a,c,h1,h2,h3⟩:=h
 refine⟨a,c,h1,h2,fun hp=> ?_⟩
 obtain⟨g,off,e,hg,hc⟩:=h3 hp
 have hsz:=hb.size
 refine⟨g,off,e,by omega,fun i hi=> ?_⟩
 obtain⟨u,hu,hs⟩:=hc i hi
 exact⟨u,by rw[hb.cell hg];exact hu,hs.below hb⟩
end Go.Proofs.YtnnaadmegeeinaaGreatDoor
namespace Go.Proofs.YtnnaadmegeeinaaGreatDoor
open Go.RowKit
def PR (w:World) (v:Value) (l:List (Nat×Nat)):Prop:=
 ∃a c,v= .slice a l.length c∧(l.length≤1000∧l.length≤c)∧(0<l.length→∃b,a=some ⟨b,0,none⟩∧b<w.heap.size∧∀i,i<l.length→w.cell? ⟨b,i*2,none⟩=some (.int .i64 ((l.getD i (0,0)).1:Int))∧w.cell? ⟨b,i*2+1,none⟩=some (.int .i64 ((l.getD i (0,0)).2:Int)))
theorem PR.below {w w':World} {v:Value} {l:List (Nat×Nat)} (h:PR w v l) (hb:Below w.heap.size w w'):PR w' v l:=by
 obtain⟨a,c,h1,h2,h3⟩:=h
 refine⟨a,c,h1,h2,fun hp=> ?_⟩
 obtain⟨b,e,hg,hc⟩:=h3 hp
 exact⟨b,e,Nat.lt_of_lt_of_le hg hb.size,fun i hi=>⟨(hb.cell (p:=⟨b,i*2,none⟩) hg).trans (hc i hi).1,(hb.cell (p:=⟨b,i*2+1,none⟩) hg).trans (hc i hi).2⟩⟩
theorem PR.open {w:World} {v:Value} {l:List (Nat×Nat)} (h:PR w v l):∃a c N,v= .slice a N c∧Hid (l.length=N)∧(N≤1000∧N≤c)∧(0<N→∃b,a=some ⟨b,0,none⟩∧b<w.heap.size∧∀i,i<N→w.cell? ⟨b,i*2,none⟩=some (.int .i64 ((l.getD i (0,0)).1:Int))∧w.cell? ⟨b,i*2+1,none⟩=some (.int .i64 ((l.getD i (0,0)).2:Int))):=by
 obtain⟨a,c,h1,h2,h3⟩:=h
 exact⟨a,c,l.length,h1,hid rfl,h2,h3⟩
theorem pl0 (w:World) (x y:Value) (t:TypeId):(w.alloc (.cells #[x,y] t)).cell? ⟨w.heap.size,0,none⟩=some x:=by simp
theorem pl1 (w:World) (x y:Value) (t:TypeId):(w.alloc (.cells #[x,y] t)).cell? ⟨w.heap.size,1,none⟩=some y:=by simp
theorem pl_lt (w:World) (o:Obj):w.heap.size<(w.alloc o).heap.size:=by simp
def flP:List (Nat×Nat)→List Value
 |[]=>[]
 |p::l=> .int .i64 (p.1:Int):: .int .i64 (p.2:Int)::flP l
theorem flP_at:∀(l:List (Nat×Nat)) (i:Nat),i<l.length→(flP l)[i*2]? =some (.int .i64 ((l.getD i (0,0)).1:Int))∧(flP l)[i*2+1]? =some (.int .i64 ((l.getD i (0,0)).2:Int))
 |p::l,0,_=>⟨rfl,rfl⟩
 |p::l,i+1,h=>by
  have:=flP_at l i (by simpa using h)
  rw[show(i+1)*2=i*2+1+1 by omega]
  simpa [flP]using this
theorem flP_app:∀(l m:List (Nat×Nat)),flP (l++m)=flP l++flP m
 |[],m=>rfl
 |p::l,m=>by simp[flP,flP_app l m]
def OP (B:Nat) (w:World) (v:Value) (l:List (Nat×Nat)):Prop:=w.ownsRow B 202 2 v l.length (flP l)
section
variable {B:Nat} {w w':World} {v:Value} {l:List (Nat×Nat)}
theorem OP.nil (B:Nat) (w:World):OP B w (.slice none 0 0) []:=World.ownsRow_nil _ _ _ _
theorem OP.lt (h:OP B w v l):∀k,v.ownBlock=some k→B≤k∧k<w.heap.size:=World.ownsRow.lt h
theorem OP.below (h:OP B w v l) (hb:Below w.heap.size w w'):OP B w' v l:=by
 obtain⟨h1,h2⟩:=h
 refine⟨h1,h2.imp id ?_⟩
 rintro⟨g,cap,cur,e,hg,hh,r⟩
 exact⟨g,cap,cur,e,hg,by rw[hb.block g (Array.getElem?_eq_some_iff.1 hh).1];exact hh,r⟩
theorem OP.pr (h:OP B w v l) (hl:l.length≤1000):PR w v l:=by
 rcases h.2 with⟨rfl,h0⟩|⟨g,cap,cur,rfl,hb,hg,hnc,hcm,hcs,htake⟩
 ·exact⟨none,0,by rw[h0],by omega,fun hp=>by omega⟩
 ·refine⟨_,_,rfl,by omega,fun _=>⟨g,rfl,(Array.getElem?_eq_some_iff.1 hg).1,fun i hi=> ?_⟩⟩
  have hc:=World.ownsRow.cells h (g:=g) rfl
  have ha:∀j,(⟨g,0,none⟩:Addr).add j=⟨g,j,none⟩:=fun j=>by unfold Addr.add;split<;>simp_all
  obtain⟨e1,e2⟩:=flP_at l i hi
  have c1:=hc _ _ e1
  have c2:=hc _ _ e2
  rw[ha]at c1 c2
  exact⟨c1,c2⟩
end
theorem Tryz.info202:(Tryz.prog.info? 202).map (fun i=>(i.zero,i.size,i.bytes))=some (some (.agg #[.int .i64 0,.int .i64 0]),2,16):=by kernel_rfl
theorem wpList_appp {P:Program} {ops:Array Oper} {rest:List Oper} {o:Oper} {a:Act} {Q:Exit→Act→World→Prop} {w:World} {H:Nat} (p:Nat×Nat) (w0:World) (s y:Operand) (st:TypeId)
 (hgd:o.guard=none) (ho:o.op= .call {callee:= .builtin .append,args:= #[s,y],argTypes:= #[st,st]})
 (ht:P.underlying st=some (.slice 202)) (hi:(P.info? 202).map (fun i=>(i.zero,i.size,i.bytes))=some (some (.agg #[.int .i64 0,.int .i64 0]),2,16))
 (B:Nat) (v:Value) (l:List (Nat×Nat)) (hs:a.eval s=v) (hown:OP B w0 v l) (hy:a.eval y= .slice (some ⟨H,0,none⟩) 1 1)
 (hlen:l.length≤1000000000000) (hB:B≤w0.heap.size)
 (h:∀g c w',OP B w' (.slice (some ⟨g,0,none⟩) (l.length+1) c) (l++[p])→w0.grownBy w' v.ownBlock→(v.ownBlock=some g∨w0.heap.size≤g)→g<w'.heap.size→wpList P ops Q rest (a.put o.dst (.slice (some ⟨g,0,none⟩) (l.length+1) c)) w')
 (h0:Below w0.heap.size w0 w:=by first|exact(Below.refl _ _).alloc (Nat.le_refl _) _|exact((Below.refl _ _).alloc (Nat.le_refl _) _).drew|exact((Below.refl _ _).drew).alloc (Nat.le_refl _) _)
 (hc0:w.cell? ⟨H,0,none⟩=some (.int .i64 (p.1:Int)):=by first|exact pl0 _ _ _ _|go_simp)
 (hc1:w.cell? ⟨H,1,none⟩=some (.int .i64 (p.2:Int)):=by first|exact pl1 _ _ _ _|go_simp):
 wpList P ops Q (o::rest) a w:=by
 obtain⟨i0,hi1,hz0,hz1,hz2⟩:=info_parts hi
 have hsz:=h0.size
 refine Go.wpList_append_lies (P:=P) (w:=w) hgd s y st ho B 202 i0 (.agg #[.int .i64 0,.int .i64 0]) 2 16 ht hi1 hz0 hz1 hz2 rfl (by decide) v l.length (flP l) hs (hown.below h0) ⟨H,0,none⟩ 1 1 [.int .i64 (p.1:Int),.int .i64 (p.2:Int)] hy rfl ?_ ?_ (by decide) ?_ ?_ (by omega) _ rfl ?_
 ·intro j u hj
  match j,hj with
  |0,hj=>simp at hj;subst hj;simpa [Addr.add]using hc0
  |1,hj=>simp at hj;subst hj;simpa [Addr.add]using hc1
 ·intro u hu
  simp at hu
  rcases hu with rfl|rfl<;>rfl
 ·unfold maxLen;omega
 ·omega
 ·intro g cap w' h1 h2 h3 h4
  refine h g cap w' ?_ ?_ ?_ h4
  ·unfold OP;rw[flP_app,List.length_append];exact h1
  ·exact⟨h2.os.trans h0.os,h2.tape.trans h0.tape,h2.output.trans h0.output,Nat.le_trans hsz h2.size,fun k hk hne=>(h2.block k (by omega) hne).trans (h0.block k hk)⟩
  ·rcases h3 with h3|h3
   ·exact .inl h3
   ·right;omega
end Go.Proofs.YtnnaadmegeeinaaGreatDoor
