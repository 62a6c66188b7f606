/-
  Part 28 of a proof: what it proves stands in the last text.
-/
import Derived.Test.YtnnaadmegeeinaaGreatDoorZo
import Derived.Test.YtnnaadmegeeinaaGreatDoorZe
import Derived.Test.YtnnaadmegeeinaaGreatDoorZj
import Derived.Deep.RegionWith
import Derived.BigQuiet
import Derived.Deep.QuietTactic
import Derived.Test.YtnnaadmegeeinaaGreatDoorZc
import Derived.Test.YtnnaadmegeeinaaGreatDoorZd
import Derived.Test.YtnnaadmegeeinaaGreatDoorZs
set_option linter.unusedVariables false
set_option maxHeartbeats 8000000
set_option maxRecDepth 100000
namespace Go.Proofs.YtnnaadmegeeinaaGreatDoor
open Go.RowKit Go.Shelf
def lenCV:Value→Nat
 | .slice _ n _=>n
 |_=>0
def natC (L:List Nat):List Int:=L.map fun x:Nat=>(x:Int)
theorem natC_snoc (L:List Nat) (x:Nat):natC (L++[x])=natC L++[(x:Int)]:=by simp[natC]
theorem natC_len (L:List Nat):(natC L).length=L.length:=by simp[natC]
def topC (k m:Nat):Nat:=topG k m (m+k)
theorem bin_gt {k:Nat} (hk:1≤k):∀m,m<bin (m+k) k
 |0=>by rw[Nat.zero_add,bin_all];omega
 |m+1=>by
  obtain⟨j,rfl⟩:∃j,k=j+1:=⟨k-1,by omega⟩
  have h1:=bin_gt hk m
  have h2:=bin_pos (m+(j+1)) j (by omega)
  rw[show m+1+(j+1)=(m+(j+1))+1 by omega,bin_succ]
  omega
theorem topC_spec {k m:Nat} (hk:1≤k):bin (topC k m) k≤m∧m<bin (topC k m+1) k∧topC k m<m+k:=by
 obtain⟨h1,h2,h3⟩:=topG_spec (i:=k) (r:=m) hk (m+k)
 have h4:=bin_gt hk m
 have hlt:topC k m<m+k:=by
  rcases Nat.lt_or_ge (topC k m) (m+k)with h|h
  ·exact h
  ·have:=bin_mono h k
   have h1':bin (topC k m) k≤m:=h1
   omega
 exact⟨h1,h3 _ (by show topC k m<topC k m+1;omega) (by omega),hlt⟩
theorem topC_only {k m a:Nat} (hk:1≤k) (h1:bin a k≤m) (h2:m<bin (a+1) k):topC k m=a:=by
 obtain⟨g1,g2,_⟩:=topC_spec (m:=m) hk
 rcases Nat.lt_trichotomy a (topC k m)with h|h|h
 ·have:=bin_mono (show a+1≤topC k m by omega) k;omega
 ·exact h.symm
 ·have:=bin_mono (show topC k m+1≤a by omega) k;omega
def casc:Nat→Nat→List Nat
 |0,_=>[]
 |k+1,m=>if m=0 then[]else topC (k+1) m::casc k (m-bin (topC (k+1) m) (k+1))
theorem casc_nil (k:Nat):casc k 0=[]:=by cases k<;>simp[casc]
theorem casc_step {k m:Nat} (h:0<m):casc (k+1) m=topC (k+1) m::casc k (m-bin (topC (k+1) m) (k+1)):=by simp only[casc];rw[if_neg (by omega)]
theorem casc_rest {k m:Nat} (h:k=0):m-bin (topC (k+1) m) (k+1)=0:=by
 subst h
 obtain⟨h1,h2,_⟩:=topC_spec (k:=1) (m:=m) (by omega)
 have h3:bin (topC 1 m+1) 1=bin (topC 1 m) 0+bin (topC 1 m) 1:=rfl
 rw[h3,bin_zero]at h2
 show m-bin (topC 1 m) 1=0
 omega
theorem casc_len:∀k m,(casc k m).length≤k
 |0,_=>by simp[casc]
 |k+1,m=>by
  simp only[casc]
  split
  ·simp
  ·have:=casc_len k (m-bin (topC (k+1) m) (k+1))
   simp only[List.length_cons]
   omega
theorem cascade1_any (k m n bk bm:Nat) (w:World) (hn:n≤1000000030) (hk:k≤30) (hm:m≤1000000000) (ck:w.cell? ⟨bk,0,none⟩=some (.int .i64 k)) (cm:w.cell? ⟨bm,0,none⟩=some (.int .i64 m)):
 Calls Tryz.prog 271 #[.int .i64 n,.pointer (some ⟨bk,0,none⟩),.pointer (some ⟨bm,0,none⟩)] w fun e w'=>e= .returned (.bool (decide (m<bin (n+1) k)))∧∃q,w'=w.drewN q:=by
 have HW:=hid (fun q=>ways_any (n+1) k (w.drewN q) (by omega) hk)
 have hcast:((n+1:Nat):Int)=(n:Int)+1:=by omega
 rw[hcast]at HW
 have HD:Hid (decide (m<cut60 (bin (n+1) k))=decide (m<bin (n+1) k)):=hid (by
  rw[decide_eq_decide]
  unfold cut60
  split<;>omega)
 clear hcast
 generalize cut60 (bin (n+1) k)=c at*
 generalize bin (n+1) k=b at*
 go_enter Tryz.func271,Tryz.ntmps271
 go_wp2_with fail
 go_quiet ((go_at_call 272;exact Calls.quiet_of (HW.out _)))
 go_wp2
 go_ret
 exact⟨by rw[←HD.out];rfl,nq,rfl⟩
theorem two_cells (W:World) (A B C:Nat) (l:List Int) (u:Value) (x y:Value) {w:World} {x0 y0:Value} (hAB:A≠B) (hC:A<C) (hC2:B<C) (hA:Arr W A 3 [x0]) (hB:Arr W B 3 [y0]) (ho:OI C W u l) (hb:Below w.heap.size w W) (hwA:w.heap.size≤A:=by omega) (hwB:w.heap.size≤B:=by omega):
 Arr ((W.setCell ⟨A,0,none⟩ x).setCell ⟨B,0,none⟩ y) A 3 [x]∧Arr ((W.setCell ⟨A,0,none⟩ x).setCell ⟨B,0,none⟩ y) B 3 [y]∧OI C ((W.setCell ⟨A,0,none⟩ x).setCell ⟨B,0,none⟩ y) u l∧Below w.heap.size w ((W.setCell ⟨A,0,none⟩ x).setCell ⟨B,0,none⟩ y):=by
 obtain⟨a1,a2⟩:=hA.stored 0 x
 have b1:=hB.kept a2 (by simp;omega)
 obtain⟨c1,c2⟩:=b1.stored 0 y
 have a3:=a1.kept c2 (by simp;omega)
 have ne:∀g,g<C→u.ownBlock=none∨u.ownBlock≠some g:=fun g hg=>by
  cases e:u.ownBlock with
  |none=>exact .inl rfl
  |some h=>right;intro e2;cases e2;have:=(ho.lt _ e).1;omega
 exact⟨a3,c1,(ho.kept a2 (ne A hC)).kept c2 (ne B hC2),(hb.grown a2 hb.size (fun k e=>by cases e;exact hwA)).grown c2 (Nat.le_trans hb.size a2.size) (fun k e=>by cases e;exact hwB)⟩
theorem run_callFunc_own' {P:Program} {f:FuncId} {fn:Func} (hf:P.funcs[f]? =some fn) (hn:(fn.name== "runtime.NumGoroutine")=false) (hb:fn.body.isNone=false) (args:Array Value) (w:World):
 (callFunc f args).run P w= .ok (.enter f args) w:=by
 unfold callFunc
 simp only[program,Sem.run_bind]
 simp[hf,hn,hb,Sem.run,Result.andThen]
theorem search_casc (k m bk bm:Nat) (w:World) (hk:1≤k) (hk30:k≤30) (hm:m≤1000000000) (ck:w.cell? ⟨bk,0,none⟩=some (.int .i64 k)) (cm:w.cell? ⟨bm,0,none⟩=some (.int .i64 m)):
 Calls Tryz.prog 270 #[.int .i64 1000000030,.func (.func 271) #[] #[.pointer (some ⟨bk,0,none⟩),.pointer (some ⟨bm,0,none⟩)]] w fun e w'=>e= .returned (.int .i64 (topC k m:Nat))∧∃q,w'=w.drewN q:=by
 obtain⟨g1,g2,g3⟩:=topC_spec (m:=m) hk
 have ht:TestsN 271 #[.pointer (some ⟨bk,0,none⟩),.pointer (some ⟨bm,0,none⟩)] (fun n=>decide (m<bin (n+1) k)) 1000000030 w:=
  ⟨run_callFunc_own' Tryz.func271 (by kernel_rfl) (by kernel_rfl),fun x q hx=>cascade1_any k m x bk bm (w.drewN q) (by omega) hk30 hm ck cm⟩
 exact search_any _ _ _ 1000000030 (topC k m) w (by omega) ht (by omega) (fun x hx=>decide_eq_false (by
  have:=bin_mono (show x+1≤topC k m by omega) k
  omega)) (fun x hx _=>decide_eq_true (by
  have:=bin_mono (show topC k m+1≤x+1 by omega) k
  omega))
theorem Cascade_bad (m k:Int) (w:World) (h:m<0∨k<1∨30<k):
 Calls Tryz.prog 221 #[.int .i64 m,.int .i64 k] w fun e w'=>e= .returned (.tuple #[.slice none 0 0,.int .i64 1])∧Below w.heap.size w w':=by
 have hb:Below w.heap.size w ((w.alloc (.cells #[.int .i64 m] 3)).alloc (.cells #[.int .i64 k] 3)):=((Below.refl _ _).alloc (Nat.le_refl _) _).alloc (by simp) _
 have HB:=hid hb
 clear hb
 by_cases h1:m<0
 ·clear h
  go_enter Tryz.func221,Tryz.ntmps221
  go_wp2
  go_ret2
  exact⟨rfl,HB.out⟩
 by_cases h2:k<1
 ·clear h
  go_enter Tryz.func221,Tryz.ntmps221
  go_wp2
  go_ret2
  exact⟨rfl,HB.out⟩
 ·have h3:30<k:=by omega
  clear h
  go_enter Tryz.func221,Tryz.ntmps221
  go_wp2
  go_ret2
  exact⟨rfl,HB.out⟩
theorem Cascade_ok (m k:Nat) (w:World) (hk:1≤k) (hk30:k≤30) (hm:m≤1000000000):
 Calls Tryz.prog 221 #[.int .i64 m,.int .i64 k] w fun e w'=>(∃u,e= .returned (.tuple #[u,.int .i64 0])∧OI w.heap.size w' u (natC (casc k m)))∧Below w.heap.size w w':=by
 have hA:Arr ((w.alloc (.cells #[.int .i64 m] 3)).alloc (.cells #[.int .i64 k] 3)) w.heap.size 3 [.int .i64 m]:=Arr.alloc (Arr.new w _ [.int .i64 m]) _
 have hB:Arr ((w.alloc (.cells #[.int .i64 m] 3)).alloc (.cells #[.int .i64 k] 3)) (w.heap.size+1) 3 [.int .i64 k]:=by
  have:=Arr.new (w.alloc (.cells #[.int .i64 m] 3)) 3 [.int .i64 k]
  simpa using this
 have hb:Below w.heap.size w ((w.alloc (.cells #[.int .i64 m] 3)).alloc (.cells #[.int .i64 k] 3)):=((Below.refl _ _).alloc (Nat.le_refl _) _).alloc (by simp) _
 have HI:=hid (And.intro hA (And.intro hB hb))
 clear hA hB hb
 go_enter Tryz.func221,Tryz.ntmps221
 go_wp2
 go_loopw [6] (fun o wr=>∃(kk mm:Nat) (L:List Nat),Hid (L++casc kk mm=casc k m∧(kk=0→mm=0)∧L.length+kk≤30∧lenCV o=L.length)∧mm≤1000000000∧Arr wr w.heap.size 3 [.int .i64 mm]∧Arr wr (w.heap.size+1) 3 [.int .i64 kk]∧OI (w.heap.size+2) wr o (natC L)∧Below w.heap.size w wr) (fun o _=>31-lenCV o)
 case atStart=>exact⟨k,m,[],hid ⟨rfl,fun h=>by omega,by simpa using hk30,rfl⟩,hm,HI.out.1,HI.out.2.1,OI.nil _ _,HI.out.2.2⟩
 case round=>
  obtain⟨kk,mm,L,HL,hmm,hA,hB,ho,hb⟩:=hrel
  clear HI
  have cm:=hA.cell 0
  have fm:=hA.frozen 0
  have ck:=hB.cell 0
  have fk:=hB.frozen 0
  rw[List.getElem?_cons_zero]at cm ck
  have hszB:=hB.lt
  by_cases hm0:0<mm
  ·obtain⟨k',rfl⟩:∃k',kk=k'+1:=by
    cases kk with
    |zero=>have:=HL.out.2.1 rfl;omega
    |succ k'=>exact⟨k',rfl⟩
   have hkl:=HL.out.2.2.1
   have HSE:=hid (search_casc (k'+1) mm (w.heap.size+1) w.heap.size wr (by omega) (by omega) hmm ck cm)
   obtain⟨g1,g2,g3⟩:=topC_spec (k:=k'+1) (m:=mm) (by omega)
   have HST:=hid (casc_step (k:=k') hm0)
   have HRE:=hid (casc_rest (k:=k') (m:=mm))
   have HLEN:=hid (show(natC L).length≤1000000000000 by rw[natC_len];omega)
   have HWY:=hid (fun w1=>ways_any (topC (k'+1) mm) (k'+1) w1 (by omega) (by omega))
   rw[cut_small (show bin (topC (k'+1) mm) (k'+1)≤1152921504606846976 by omega)]at HWY
   generalize topC (k'+1) mm=a at*
   obtain⟨b,hbb⟩:∃b,b=bin a (k'+1):=⟨_,rfl⟩
   rw[←hbb]at HWY HST HRE g1
   clear g2 hbb
   have hsz:w.heap.size+2≤wr.heap.size:=hszB
   go_wp2_with fail
   refine HSE.out.mono ?_
   rintro e w1 ⟨rfl,q1,rfl⟩
   have ho1:OI (w.heap.size+2) (wr.drewN q1) _ _:=ho.drewN q1
   go_wp2_with (at_builtin;refine wpList_appi (wr.drewN q1) _ _ 45 rfl rfl Tryz.underlying45 Tryz.info3 (w.heap.size+2) _ _ rfl ho1 rfl HLEN.out hsz ?_;intro g c w4 hown1 hg1 hg2 hg3)
   have hA4:Arr w4 w.heap.size 3 [.int .i64 mm]:=(show Arr (wr.drewN q1) w.heap.size 3 _ from hA).kept hg1 (fun e=>by have:=(ho.lt w.heap.size e.symm).1;omega)
   have hB4:Arr w4 (w.heap.size+1) 3 [.int .i64 ((k'+1:Nat):Int)]:=(show Arr (wr.drewN q1) (w.heap.size+1) 3 _ from hB).kept hg1 (fun e=>by have:=(ho.lt (w.heap.size+1) e.symm).1;omega)
   have hb4:Below w.heap.size w w4:=((ho.drewN q1).mono (show w.heap.size≤w.heap.size+2 by omega)).grown (below_drewN hb q1) hg1 (by show w.heap.size≤wr.heap.size;omega)
   have hs4:w.heap.size+2≤w4.heap.size:=Nat.le_trans hsz hg1.size
   have cm4:=hA4.cell 0
   have fm4:=hA4.frozen 0
   have ck4:=hB4.cell 0
   have fk4:=hB4.frozen 0
   rw[List.getElem?_cons_zero]at cm4 ck4
   have hX4:=hid (And.intro hA4 (And.intro hB4 (And.intro hown1 hb4)))
   have HX5:=hid (fun q=>two_cells (w4.drewN q) w.heap.size (w.heap.size+1) (w.heap.size+2) (natC L++[(a:Int)]) _ (.int .i64 ((mm-b:Nat):Int)) (.int .i64 (k':Int)) (by omega) (by omega) (by omega) hA4 hB4 (hown1.drewN q) (below_drewN hb4 q))
   have HPL:Hid ((L++[a])++casc k' (mm-b)=casc k m∧(k'=0→mm-b=0)∧(L++[a]).length+k'≤30∧lenCV (.slice (some ⟨g,0,none⟩) ((natC L).length+1) c)=(L++[a]).length):=hid ⟨by rw[List.append_assoc,←HL.out.1,HST.out];rfl,HRE.out,by simp;omega,by simp[lenCV,natC_len]⟩
   have HM:Hid (lenCV u6=L.length∧L.length+k'+1≤30):=hid ⟨HL.out.2.2.2,by omega⟩
   clear hA hB ho hb cm fm ck fk hg1 hg2 hg3 hA4 hB4 hown1 hb4 ho1 hsz hszB
   have hsub:((mm:Int)-(b:Int))=((mm-b:Nat):Int):=by omega
   go_wp2_with fail
   go_region_with ((go_at_call 272;refine(HWY.out _).mono ?_;rintro e w5 ⟨rfl,q5,rfl⟩))
   all_goals
    go_wp2
    go_roundw
   all_goals first
    |exact⟨k',mm-b,L++[a],HPL.out,by omega,(HX5.out _).1,(HX5.out _).2.1,(HX5.out _).2.2.1.cast (natC_snoc L a).symm,(HX5.out _).2.2.2⟩
    |(rw[HM.out.1];show 31-((natC L).length+1)<_;rw[natC_len];have:=HM.out.2;omega)
  ·obtain rfl:mm=0:=by omega
   have HFIN:Hid (natC (casc k m)=natC L):=hid (by rw[←HL.out.1,casc_nil,List.append_nil])
   have HX:=hid (And.intro (ho.mono (show w.heap.size≤w.heap.size+2 by omega)) hb)
   clear ho hb
   go_wp2
   go_ret2
   refine⟨⟨_,rfl,?_⟩,HX.out.2⟩
   rw[HFIN.out]
   exact HX.out.1
theorem bin_side:∀(a j:Nat),bin a (j+1)*(j+1)=bin a j*(a-j)
 |0,j=>by rw[bin_none 0 (j+1) (by omega),Nat.zero_sub,Nat.zero_mul,Nat.mul_zero]
 |a+1,0=>by rw[bin_absorb,bin_zero,bin_zero,Nat.sub_zero]
 |a+1,i+1=>by
  rw[bin_absorb]
  have ih:=bin_side a i
  by_cases h:i≤a
  ·rw[bin_succ a i,Nat.add_mul,show a+1-(i+1)=a-i by omega,←ih,←Nat.mul_add]
   congr 1
   omega
  ·rw[bin_none a (i+1) (by omega),bin_none (a+1) (i+1) (by omega),Nat.zero_mul,Nat.zero_mul]
theorem bin_down {a j:Nat} (h:j<a):bin a j≤bin a (j+1)*(j+1):=by
 rw[bin_side]
 exact Nat.le_mul_of_pos_right _ (by omega)
theorem casc_prop:∀(k m i:Nat),m≤1000000000→k≤30→i<(casc k m).length→i<k∧k-i≤(casc k m).getD i 0∧bin ((casc k m).getD i 0) (k-i)≤1000000000∧(casc k m).getD i 0≤1000000030
 |0,m,i,_,_,h=>by simp[casc]at h
 |k+1,m,i,hm,hk,h=>by
  by_cases h0:0<m
  ·rw[casc_step h0]at h⊢
   cases i with
   |zero=>
    obtain⟨g1,g2,g3⟩:=topC_spec (k:=k+1) (m:=m) (by omega)
    refine⟨by omega,?_,by simpa using(by omega:bin (topC (k+1) m) (k+1)≤1000000000),by simpa using(by omega:topC (k+1) m≤1000000030)⟩
    have:k+1≤topC (k+1) m:=by
     rcases Nat.lt_or_ge (topC (k+1) m) (k+1)with h|h
     ·have h4:=bin_mono (show topC (k+1) m+1≤k+1 by omega) (k+1)
      rw[bin_all]at h4
      omega
     ·exact h
    simpa using this
   |succ i=>
    have ih:=casc_prop k (m-bin (topC (k+1) m) (k+1)) i (by omega) (by omega) (by simpa using h)
    rw[List.getD_cons_succ,show k+1-(i+1)=k-i by omega]
    exact⟨by omega,ih.2⟩
  ·obtain rfl:m=0:=by omega
   rw[casc_nil]at h
   simp at h
def lsS (k:Nat) (A:List Nat):Nat→Nat
 |0=>0
 |t+1=>lsS k A t+bin (A.getD t 0) (k-1-t)
theorem ls_term {k m i:Nat} (hm:m≤1000000000) (hk:k≤30) (hi:i<(casc k m).length):bin ((casc k m).getD i 0) (k-1-i)≤30000000000∧k-1-i<(casc k m).getD i 0:=by
 obtain⟨h1,h2,h3,h4⟩:=casc_prop k m i hm hk hi
 have h5:=bin_down (a:=(casc k m).getD i 0) (j:=k-1-i) (by omega)
 rw[show k-1-i+1=k-i by omega]at h5
 have h6:bin ((casc k m).getD i 0) (k-i)*(k-i)≤1000000000*30:=Nat.mul_le_mul h3 (by omega)
 exact⟨by omega,by omega⟩
theorem ls_bd {k m:Nat} (hm:m≤1000000000) (hk:k≤30):∀t,t≤(casc k m).length→lsS k (casc k m) t≤t*30000000000
 |0,_=>by rw[Nat.zero_mul];exact Nat.le_refl 0
 |t+1,h=>by
  have h1:=ls_bd hm hk t (by omega)
  have h2:=(ls_term hm hk (show t<(casc k m).length by omega)).1
  simp only[lsS]
  omega
theorem natC_getD (L:List Nat) (j:Nat) (h:j<L.length):(natC L).getD j 0=((L.getD j 0:Nat):Int):=by simp[natC,List.getD_eq_getElem?_getD,h]
theorem Least_bad (m k:Int) (w:World) (h:m<0∨k<1∨30<k):
 Calls Tryz.prog 222 #[.int .i64 m,.int .i64 k] w fun e w'=>e= .returned (.tuple #[.int .i64 0,.int .i64 1])∧Below w.heap.size w w':=by
 have H:=hid (Cascade_bad m k w h)
 clear h
 go_enter Tryz.func222,Tryz.ntmps222
 go_wp2_with fail
 refine H.out.mono ?_
 rintro e w1 ⟨rfl,hb1⟩
 have HB:=hid hb1
 clear hb1
 go_wp2
 go_ret2
 exact⟨rfl,HB.out⟩
theorem Least_ok (m k:Nat) (w:World) (hk:1≤k) (hk30:k≤30) (hm:m≤1000000000):
 Calls Tryz.prog 222 #[.int .i64 m,.int .i64 k] w fun e w'=>e= .returned (.tuple #[.int .i64 (lsS k (casc k m) (casc k m).length:Nat),.int .i64 0])∧Below w.heap.size w w':=by
 have H:=hid (Cascade_ok m k w hk hk30 hm)
 have HP:=hid (fun i hi=>casc_prop k m i hm hk30 hi)
 have HT:=hid (fun i hi=>ls_term (k:=k) (m:=m) (i:=i) hm hk30 hi)
 have HLB:=hid (ls_bd (k:=k) (m:=m) hm hk30)
 have HL1:Hid (∀t,lsS k (casc k m) (t+1)=lsS k (casc k m) t+bin ((casc k m).getD t 0) (k-1-t)):=hid (fun t=>rfl)
 have HL0:Hid (lsS k (casc k m) 0=0):=hid rfl
 have hlen:=casc_len k m
 have HWY:=hid (fun(n k:Nat) (w:World) (h1:n≤1000000031) (h2:k≤30)=>ways_any n k w h1 h2)
 generalize lsS k (casc k m)=LS at*
 generalize casc k m=A at*
 go_enter Tryz.func222,Tryz.ntmps222
 go_wp2_with fail
 refine H.out.mono ?_
 rintro e w1 ⟨⟨u,rfl,hu⟩,hb1⟩
 have HB:=hid hb1
 obtain⟨a,c,rfl⟩:=hu.len
 have HFO:=hid (fun(h:0<(natC A).length)=>hu.form h)
 have HU:=hid hu
 rw[natC_len]at HU HFO⊢
 obtain⟨N,hN⟩:∃N,N=A.length:=⟨_,rfl⟩
 rw[←hN]at HU HFO HP HT HLB hlen⊢
 have HN:=hid hN
 clear hu hb1 hN
 go_wp2
 go_loopw [8,22] (fun o i wr=>∃t q:Nat,t≤N∧i= .int .i64 t∧o= .int .i64 (LS t:Nat)∧wr=w1.drewN q) (fun _ i _=>N-(intOf i).toNat)
 case atStart=>exact⟨0,0,Nat.zero_le _,rfl,by rw[HL0.out];rfl,rfl⟩
 case round=>
  obtain⟨t,q,ht,rfl,rfl,rfl⟩:=hrel
  by_cases hlt:t<N
  ·obtain⟨g,c0,hge,hg1,hg2⟩:=HFO.out (by omega)
   obtain⟨rfl,rfl⟩:a=some ⟨g,0,none⟩∧c0=c:=by
    simp only[Value.slice.injEq]at hge
    exact⟨hge.1,hge.2.2.symm⟩
   have hcell:=HU.out.cell t (by rw[natC_len,←HN.out];exact hlt)
   rw[natC_getD A t (by rw[←HN.out];exact hlt)]at hcell
   obtain⟨p1,p2,p3,p4⟩:=HP.out t hlt
   obtain⟨t1,t2⟩:=HT.out t hlt
   have hlb:=HLB.out t ht
   have HL1T:=hid (HL1.out t)
   have HWT:=HWY.out (A.getD t 0) (k-1-t) (w1.drewN q) (by omega) (by omega)
   rw[cut_small (show bin (A.getD t 0) (k-1-t)≤1152921504606846976 by omega)]at HWT
   have HWTT:=hid HWT
   have hsub:(k:Int)-1-(t:Int)=((k-1-t:Nat):Int):=by omega
   clear HWT hge p3 t2
   generalize bin (A.getD t 0) (k-1-t)=b at*
   generalize A.getD t 0=x at*
   obtain⟨kt,hkt⟩:∃kt,kt=k-1-t:=⟨_,rfl⟩
   rw[←hkt]at HWTT hsub
   clear hkt p2
   go_wp2_with fail
   refine HWTT.out.mono ?_
   rintro e w2 ⟨rfl,q2,rfl⟩
   go_wp2
   go_roundw
   case rel=>exact⟨t+1,q+q2,by omega,by go_num,by rw[HL1T.out];go_num,by trivial⟩
   case measure=>simp[intOf]<;>omega
  ·obtain rfl:t=N:=by omega
   go_wp2
   go_ret2
   exact⟨by rw[show LS A.length=LS t by rw[HN.out]];rfl,below_drewN HB.out q⟩
end Go.Proofs.YtnnaadmegeeinaaGreatDoor
namespace Go.Proofs.YtnnaadmegeeinaaGreatDoor
open Go.RowKit
def blT (t:Nat×Nat×Nat):List Int:=[(t.1:Int),(t.2.1:Int),(t.2.2:Int)].mergeSort fun x y=>decide (x≤y)
theorem blT_len (t:Nat×Nat×Nat):(blT t).length=3:=by unfold blT;rw[List.length_mergeSort];rfl
def TS (W0:World) (b:Nat) (v:Int) (L:List (Nat×Nat×Nat)) (w:World):Prop:=
 ∃(a:Option Addr) (c:Nat),Arr w b 194 [.slice a L.length c,.int .i64 v]∧OL (b+1) w.heap.size w (.slice a L.length c) (L.map blT)∧Below b W0 w
theorem add_any (W0:World) (b x y z:Nat) (v:Int) (L:List (Nat×Nat×Nat)) (w:World) (hL:L.length≤100000) (hb0:W0.heap.size≤b) (h:TS W0 b v L w):
 Calls Tryz.prog 255 #[.pointer (some ⟨b,0,none⟩),.int .i64 x,.int .i64 y,.int .i64 z] w fun e w'=>(∃r,e= .returned r)∧TS W0 b v (L++[(x,y,z)]) w':=by
 obtain⟨a,c,hA,hO,hbl⟩:=h
 have hbw:=hA.lt
 have hlit:OI w.heap.size (w.alloc (.cells #[.int .i64 x,.int .i64 y,.int .i64 z] 3)) (.slice (some ⟨w.heap.size,0,none⟩) 3 3) [(x:Int),(y:Int),(z:Int)]:=Ow.lit 3 w.heap.size w #[.int .i64 x,.int .i64 y,.int .i64 z] 3 (Nat.le_refl _) rfl (by decide)
 have HS:Hid (Calls Tryz.prog 268 #[.slice (some ⟨w.heap.size,0,none⟩) 3 3] (w.alloc (.cells #[.int .i64 x,.int .i64 y,.int .i64 z] 3)) fun e w'=>e= .returned (.tuple #[])∧OI w.heap.size w' (.slice (some ⟨w.heap.size,0,none⟩) 3 3) (blT (x,y,z))∧(w.alloc (.cells #[.int .i64 x,.int .i64 y,.int .i64 z] 3)).grownBy w' (some w.heap.size)):=hid (sortI_ok [(x:Int),(y:Int),(z:Int)] w.heap.size w.heap.size 3 _ hlit (by simp))
 have HA:=hid (hA.alloc (.cells #[.int .i64 x,.int .i64 y,.int .i64 z] 3))
 have HO:=hid (hO.below ((Below.refl w.heap.size w).alloc (Nat.le_refl _) (.cells #[.int .i64 x,.int .i64 y,.int .i64 z] 3)))
 have HMAP:Hid ((L++[(x,y,z)]).map blT=L.map blT++[blT (x,y,z)]):=hid (by simp)
 have HLL:Hid ((L++[(x,y,z)]).length=L.length+1):=hid (by simp)
 have HB:=hid (hbl.alloc (Nat.le_of_lt hbw) (.cells #[.int .i64 x,.int .i64 y,.int .i64 z] 3))
 generalize blT (x,y,z)=bl at*
 clear hA hO hbl hlit
 go_enter Tryz.func255,Tryz.ntmps255
 go_wp2_with fail
 refine HS.out.mono ?_
 rintro e w2 ⟨rfl,hs2,hg2⟩
 have hA2:=HA.out.kept hg2 (by simp;omega)
 have hO2:=HO.out.kept hg2 (fun k e=>by cases e;exact .inr (Nat.le_refl _))
 have hB2:=HB.out.grown hg2 (by simp;omega) (fun k e=>by cases e;omega)
 have hcl:=hA2.cell 0
 have hsz2:b+1≤w2.heap.size:=by have:=hg2.size;simp at this;omega
 obtain⟨vs,o1,o2,o3,o4⟩:=hO2
 have HA2:=hid hA2
 have HB2:=hid hB2
 have HBL:=hid hs2
 have HO2:=hid o2
 have HO3:=hid o3
 have HO4:=hid o4
 have hvs:vs.length≤1000000000000:=by rw[o3,List.length_map];omega
 have hlen:vs.length=L.length:=by rw[o3,List.length_map]
 have HHL:=hid hlen
 have hbw2:b<w2.heap.size:=by omega
 have hfz:=hA2.frozen 0
 have hcl0:w2.cell? ⟨b,0,none⟩=some (.slice a L.length c):=hcl
 clear hA2 hB2 hs2 o2 o3 o4 hg2 HS HA HB HO hcl hlen
 go_wp2_with (first
  |(at_builtin;refine wpList_app w2 _ _ 46 45 (.slice none 0 0) 24 rfl rfl Tryz.underlying46 Tryz.info45 rfl (by decide) (b+1) _ vs rfl o1 rfl rfl hvs hsz2 ?_
    intro g3 c3 w4 hown1 hg1 hgg hg3
    have hg1:w2.grownBy w4 (Value.slice a L.length c).ownBlock:=hg1
    have hne:some b≠(Value.slice a L.length c).ownBlock:=fun e=>by
     have:=(o1.lt b e.symm).1
     omega
    have hA4:=HA2.out.kept hg1 hne
    have hcl4:=hA4.cell 0
    have hfz4:=hA4.frozen 0)
  |fail)
 have hol:=OL.snoc o1 HO2.out HO3.out HO4.out HBL.out (show b+1≤w.heap.size by omega) hown1 hg1
 have hst:=hA4.stored 0 (.slice (some ⟨g3,0,none⟩) (vs.length+1) c3)
 have hol2:=(hol.kept hst.2 (fun k e=>by cases e;exact .inl (by omega))).mono (Nat.le_refl _) hst.2.size
 have hb4:=HB2.out.grown hg1 (show b≤w2.heap.size by omega) (fun k e=>by have:=(o1.lt k e).1;omega)
 have hb5:=hb4.grown hst.2 (show b≤w4.heap.size by have:=hg1.size;omega) (fun k e=>by cases e;exact Nat.le_refl _)
 rw[←HMAP.out]at hol2
 rw[HHL.out]at hst hol2 hb5⊢
 go_end0
 refine⟨⟨_,rfl⟩,some ⟨g3,0,none⟩,c3,?_,?_,hb5⟩
 ·rw[HLL.out];exact hst.1
 ·rw[HLL.out];exact hol2
end Go.Proofs.YtnnaadmegeeinaaGreatDoor
