/-
  Part 11 of a proof: what it proves stands in the last text.
-/
import Derived.Test.YtnnaadmegeeinaaGreatDoorZj
import Derived.Test.YtnnaadmegeeinaaGreatDoorZa
import Derived.Test.YtnnaadmegeeinaaGreatDoorZc
import Derived.Test.YtnnaadmegeeinaaGreatDoorZb
set_option linter.unusedVariables false
set_option maxHeartbeats 8000000
set_option maxRecDepth 100000
namespace Go.Proofs.YtnnaadmegeeinaaGreatDoor
open Go.RowKit
def fL (l:List Int) (c:Nat):Nat:=(l[c]?.getD 0).toNat
structure PmL (l:List Int) (N:Nat) (f:Nat→Nat):Prop where
 len:l.length=N
 n12:N≤12
 pm:Pm N f
 at':∀c,c<N→l[c]?.getD 0=(f c:Int)
theorem pm_of {l:List Int} (h:permE l=0):PmL l l.length (fL l):=by
 unfold permE at h
 by_cases h1:12<l.length
 ·rw[if_pos h1]at h;simp at h
 rw[if_neg h1]at h
 by_cases h2:l.any (offN l.length)=true
 ·rw[if_pos h2]at h;simp at h
 rw[if_neg h2]at h
 by_cases h3:l.Nodup
 ·have hb:∀c:Nat,c<l.length→0≤l[c]?.getD 0∧l[c]?.getD 0<(l.length:Int):=fun c hc=>by
   have h4:offN l.length (l[c]?.getD 0)=false:=by
    cases e:offN l.length (l[c]?.getD 0)with
    |false=>rfl
    |true=>exact absurd (List.any_eq_true.2 ⟨l[c],List.getElem_mem hc,by simpa [hc]using e⟩) h2
   exact offN_false.1 h4
  refine⟨rfl,by omega,⟨fun i hi=> ?_,fun i j hi hj e=> ?_⟩,fun c hc=> ?_⟩
  ·have:=hb i hi
   unfold fL;omega
  ·have a1:=hb i hi
   have a2:=hb j hj
   have e2:l[i]?.getD 0=l[j]?.getD 0:=by unfold fL at e;omega
   have hp:=(nodup_pairs (l:=l) rfl).1 h3
   rcases Nat.lt_trichotomy i j with h|h|h
   ·exact absurd e2.symm (hp j i hj h)
   ·exact h
   ·exact absurd e2 (hp i j hi h)
  ·have:=hb c hc
   unfold fL;omega
 ·rw[if_neg h3]at h;simp at h
def boolL (S:Nat→Bool):List Value:=(List.range 12).map fun x=> .bool (S x)
theorem boolL_get {S:Nat→Bool} {c:Nat} (h:c<12):(boolL S)[c]? =some (.bool (S c)):=by simp[boolL,h]
theorem boolL_set {S:Nat→Bool} {c:Nat} (h:c<12):(boolL S).set c (.bool true)=boolL (fun x=>x==c||S x):=by
 refine List.ext_getElem? fun i=> ?_
 by_cases e:c=i
 ·subst e
  rw[List.getElem?_set_self (by simpa [boolL]using h),boolL_get h]
  simp
 ·rw[List.getElem?_set_ne e]
  by_cases hi:i<12
  ·rw[boolL_get hi,boolL_get hi]
   have:(i==c)=false:=by simp;omega
   rw[this];rfl
  ·simp[boolL,hi]
def intsL (L:List Nat):List Int:=L.map fun x:Nat=>(x:Int)
theorem intsL_snoc (L:List Nat) (x:Nat):intsL (L++[x])=intsL L++[(x:Int)]:=by simp[intsL]
theorem intsL_len (L:List Nat):(intsL L).length=L.length:=by simp[intsL]
def lenV:Value→Nat
 | .slice _ n _=>n
 |_=>0
theorem cycles_ok (v:Value) (l:List Int) (N:Nat) (f:Nat→Nat) (w:World) (hl:Sl w v l) (P:PmL l N f):
 Calls Tryz.prog 113 #[v] w fun e w'=>(∃u,e= .returned u∧OL w.heap.size w'.heap.size w' u ((cycL f N N).map intsL))∧Below w.heap.size w w':=by
 obtain⟨a,cp,N',rfl,hN,hl1,hl2⟩:=hl.open
 obtain rfl:N'=N:=by rw[←hN.out,P.len]
 have h12:=P.n12
 have HPM:=hid P.pm
 have HAT:=hid P.at'
 have HLT:=hid (fun i (hi:i<N') k=>P.pm.it_lt hi k)
 clear hl P
 go_enter Tryz.func113,Tryz.ntmps113
 go_wp2
 have hA:Arr (w.alloc (.cells (boolL fun _=>false).toArray 178)) w.heap.size 178 (boolL fun _=>false):=Arr.new w _ _
 have hb0:Below w.heap.size w (w.alloc (.cells (boolL fun _=>false).toArray 178)):=(Below.refl _ _).alloc (Nat.le_refl _) _
 go_loopw [3,10] (fun o i wr=>∃(k:Nat) (S:Nat→Bool),k≤N'∧i= .int .i64 k∧Arr wr w.heap.size 178 (boolL S)∧Hid (∀x,x<N'→(S x=true↔∃j,j<k∧Reach f j x))∧OL (w.heap.size+1) wr.heap.size wr o ((cycL f N' k).map intsL)∧Below w.heap.size w wr) (fun _ i _=>N'-(intOf i).toNat)
 case atStart=>exact⟨0,fun _=>false,Nat.zero_le _,rfl,hA,hid (fun x _=>Iff.intro (fun h=>by cases h) (fun⟨j,hj,_⟩=>absurd hj (by omega))),OL.nil _ _ _,hb0⟩
 case round=>
  obtain⟨k,S,hk,rfl,hA',hS,ho,hb⟩:=hrel
  clear hA hb0
  by_cases hlt:k<N'
  ·have hCS:=hid (cycL_succ f N' k)
   cases hlead:leadB f N' k with
   |false=>
    rw[hlead]at hCS
    have hSk:S k=true:=(hS.out k hlt).2 (HPM.out.lead_not hlt hlead)
    have hcell:=hA'.cell k
    rw[boolL_get (by omega),hSk]at hcell
    have HX:=hid (And.intro hA' (And.intro ho hb))
    have HSS:Hid (∀x,x<N'→(S x=true↔∃j,j<k+1∧Reach f j x)):=hid (fun x hx=>by
     rw[hS.out x hx]
     constructor
     ·rintro⟨j,hj,hr⟩;exact⟨j,by omega,hr⟩
     ·rintro⟨j,hj,hr⟩
      by_cases e:j=k
      ·subst e
       obtain⟨j2,hj2,hr2⟩:=(hS.out j hlt).1 hSk
       exact⟨j2,hj2,hr2.trans hr⟩
      ·exact⟨j,by omega,hr⟩)
    clear hA' ho hb hS hSk
    obtain⟨w0,rfl⟩:∃w0,w0=wr:=⟨wr,rfl⟩
    go_wp2
    go_loopw [6,7] (fun q x wq=>q= .slice none 0 0∧x= .int .i64 k∧wq=w0) (fun _ _ _=>0)
    case atStart=>exact⟨rfl,rfl,rfl⟩
    case round=>
     obtain⟨rfl,rfl,rfl⟩:=hrel
     go_wp2
     go_roundw
     case rel=>exact⟨k+1,S,by omega,by go_num,HX.out.1,HSS,by rw[hCS.out];simpa using HX.out.2.1,HX.out.2.2⟩
     case measure=>simp[intOf]<;>omega
   |true=>
    rw[hlead]at hCS
    have hno:=(HPM.out.lead_iff hlt).1 hlead
    obtain⟨-,hm1,hm2,-⟩:=HPM.out.per_spec hlt
    have HBACK:=hid (HPM.out.per_spec hlt).1
    have HUN:=hid (fun a b (hb:b<per f N' k) (hab:a<b)=>HPM.out.it_unlike hlt hb hab)
    have HRE:=hid (fun x (h:Reach f k x)=>HPM.out.reach_small hlt h)
    generalize per f N' k=m at*
    have HOS:=hid (orb_succ f)
    have HOL:=hid (orb_len f)
    have HO0:Hid (orb f 0 k=[]):=hid rfl
    have hbs:=hb.size
    have hlw:=hA'.lt
    obtain⟨w0,rfl⟩:∃w0,w0=wr:=⟨wr,rfl⟩
    have HX:=hid (And.intro hA' (And.intro ho hb))
    clear hA' ho hb
    go_wp2
    go_loopw [6,7] (fun q x wq=>∃(t:Nat) (S':Nat→Bool),t≤m∧x= .int .i64 (it f t k)∧OI w0.heap.size wq q (intsL (orb f t k))∧Arr wq w.heap.size 178 (boolL S')∧Hid (∀y,y<N'→(S' y=true↔(∃j,j<k∧Reach f j y)∨∃a,a<t∧y=it f a k))∧OL (w.heap.size+1) w0.heap.size wq u3 ((cycL f N' k).map intsL)∧Below w.heap.size w wq∧w0.heap.size≤wq.heap.size) (fun q _ _=>m-lenV q)
    case atStart=>exact⟨0,S,Nat.zero_le _,rfl,by rw[HO0.out];exact OI.nil _ _,HX.out.1,hid (fun y hy=>by
     rw[hS.out y hy]
     exact⟨fun h=> .inl h,fun h=>h.resolve_right (fun⟨a,ha,_⟩=>absurd ha (by omega))⟩),HX.out.2.1,HX.out.2.2,Nat.le_refl _⟩
    case round=>
     obtain⟨t,S',ht,rfl,hq,hA,hS',hol,hb,hsz⟩:=hrel
     have hxN:=HLT.out k hlt t
     have hcell:=hA.cell (it f t k)
     rw[boolL_get (by omega)]at hcell
     by_cases htm:t<m
     ·have hSx:S' (it f t k)=false:=by
       cases e:S' (it f t k)with
       |false=>rfl
       |true=>
        exfalso
        rcases(hS'.out _ hxN).1 e with⟨j,hj,hr⟩|⟨a,ha,he⟩
        ·exact hno j hj (hr.trans (HPM.out.reach_symm hlt ⟨t,rfl⟩))
        ·exact HUN.out a t htm ha he.symm
      rw[hSx]at hcell
      have hfz:=hA.frozen (it f t k)
      obtain⟨hA1,hg1⟩:=hA.stored (it f t k) (.bool true)
      rw[boolL_set (by omega)]at hA1
      have hq1:=hq.kept hg1 (by
       cases e:u6.ownBlock with
       |none=>exact .inl rfl
       |some b=>right;intro e2;have:=(hq.lt b e).1;simp at e2;omega)
      have hol1:=hol.kept hg1 (fun b e=>by cases e;exact .inl (by omega))
      have hb1:=hb.grown hg1 hb.size (fun b e=>by cases e;exact Nat.le_refl _)
      have hsz1:w0.heap.size≤(wr.setCell ⟨w.heap.size,it f t k,none⟩ (.bool true)).heap.size:=Nat.le_trans hsz hg1.size
      obtain⟨qa,qc,hqe⟩:=hq1.len
      have hlenq:(intsL (orb f t k)).length=t:=by rw[intsL_len,orb_len]
      have hlq:(intsL (orb f t k)).length≤1000000000000:=by rw[hlenq];omega
      obtain⟨b,off,rfl,hblt,hc⟩:=hl2 (by omega)
      have hca:=hc (it f t k) hxN
      rw[HAT.out _ hxN]at hca
      have HS2:Hid (∀y,y<N'→((y==it f t k||S' y)=true↔(∃j,j<k∧Reach f j y)∨∃a,a<t+1∧y=it f a k)):=hid (fun y hy=>by
       rw[Bool.or_eq_true,hS'.out y hy,beq_iff_eq]
       constructor
       ·rintro(h|h|⟨a,ha,he⟩)
        ·exact .inr ⟨t,by omega,h⟩
        ·exact .inl h
        ·exact .inr ⟨a,by omega,he⟩
       ·rintro(h|⟨a,ha,he⟩)
        ·exact .inr (.inl h)
        ·by_cases e:a=t
         ·subst e;exact .inl he
         ·exact .inr (.inr ⟨a,by omega,he⟩))
      have HOT:=hid (HOS.out t k)
      have HIT:Hid (it f (t+1) k=f (it f t k)):=hid rfl
      have HLQ:=hid hlenq
      clear hq hA hS' hol hg1 hb hSx hc hl2 hlenq
      generalize it f t k=x at*
      go_wp2_with (at_builtin;refine wpList_appi (wr.setCell ⟨w.heap.size,x,none⟩ (.bool true)) _ _ 45 rfl rfl Tryz.underlying45 Tryz.info3 w0.heap.size _ _ rfl hq1 rfl hlq hsz1 ?_;intro g c w1 hown1 hg1 hg2 hg3;have hb2:=(hq1.mono (Nat.le_of_lt hlw)).grown hb1 hg1 (Nat.le_trans (Nat.le_of_lt hlw) hsz1);have c2:=(hb2.cell (p:=⟨b,off+x,none⟩) hblt).trans hca)
      go_roundw
      case rel=>exact⟨t+1,_,by omega,by rw[HIT.out],hown1.cast (by rw[HOT.out,intsL_snoc]),hA1.kept hg1 (by
       intro e
       have:=(hq1.lt w.heap.size e.symm).1
       omega),HS2,hol1.kept hg1 (fun b' e=> .inr (hq1.lt b' e).1),hb2,Nat.le_trans hsz1 hg1.size⟩
      case measure=>rw[hqe];simp only[lenV,HLQ.out];omega
     ·obtain rfl:m=t:=by omega
      have hSx:S' (it f m k)=true:=(hS'.out _ hxN).2 (.inr ⟨0,by omega,HBACK.out⟩)
      rw[hSx]at hcell
      have HSS:Hid (∀y,y<N'→(S' y=true↔∃j,j<k+1∧Reach f j y)):=hid (fun y hy=>by
       rw[hS'.out y hy]
       constructor
       ·rintro(⟨j,hj,hr⟩|⟨a,ha,he⟩)
        ·exact⟨j,by omega,hr⟩
        ·exact⟨k,by omega,a,he⟩
       ·rintro⟨j,hj,hr⟩
        by_cases e:j=k
        ·subst e;exact .inr (HRE.out y hr)
        ·exact .inl ⟨j,by omega,hr⟩)
      obtain⟨qa,qc,hqe⟩:=hq.len
      have hlenq:(intsL (orb f m k)).length=m:=by rw[intsL_len,orb_len]
      rw[hlenq]at hqe
      subst hqe
      have HQ:=hid hq
      have HA:=hid hA
      have HB:=hid hb
      have hco:=hol.len
      have hlc:((cycL f N' k).map intsL).length≤k:=by
       rw[List.length_map]
       unfold cycL
       rw[List.length_map]
       exact Nat.le_trans (List.length_filter_le _ _) (by simp)
      obtain⟨vs,o1,o2,o3,o4⟩:=hol
      have hvs:vs.length≤1000000000000:=by omega
      have HO2:=hid o2
      have HO3:=hid o3
      have HO4:=hid o4
      have hB:w.heap.size+1≤wr.heap.size:=by omega
      have HCS2:Hid (cycL f N' (k+1)=cycL f N' k++[orb f m k]):=hid (by rw[hCS.out];rfl)
      clear hq hA hb hlenq hS' hSx o2 o3 o4 hco hlc hCS
      generalize it f m k=x at*
      go_wp2_with (at_builtin;refine wpList_app wr _ _ 46 45 (.slice none 0 0) 24 rfl rfl Tryz.underlying46 Tryz.info45 rfl (by decide) (w.heap.size+1) _ vs rfl o1 rfl rfl hvs hB ?_;intro g c w1 hown1 hg1 hg2 hg3)
      go_roundw
      case rel=>
       have hol2:=OL.snoc o1 HO2.out HO3.out HO4.out HQ.out (by omega) hown1 hg1
       refine⟨k+1,S',by omega,by go_num,HA.out.kept hg1 ?_,HSS,by rw[HCS2.out,List.map_append];exact hol2,?_⟩
       ·intro e
        have:=(o1.lt w.heap.size e.symm).1
        omega
       ·exact HB.out.grown hg1 HB.out.size (fun b e=>by have:=(o1.lt b e).1;omega)
      case measure=>simp[intOf]<;>omega
  ·obtain rfl:N'=k:=by omega
   have HX:=hid (And.intro ho hb)
   clear hA' ho hb hS
   go_wp2
   go_ret
   exact⟨⟨_,rfl,HX.out.1.mono (by omega) (Nat.le_refl _)⟩,HX.out.2⟩
def ordF (p k:Int):Nat:=if p∈prL∧1≤k∧k≤6∧p.toNat^k.toNat≤64 then p.toNat^k.toNat else 0
theorem pr_range {p:Int} (h:p∈prL):2≤p∧p≤61:=by
 have:∀q∈prL,(2:Int)≤q∧q≤61:=by decide
 exact this p h
theorem pow_le {p:Nat} (hp:1≤p) {i k:Nat} (h:i≤k):p^i≤p^k:=Nat.pow_le_pow_right hp h
theorem ord_no {p k:Int} (h:¬(p∈prL∧1≤k∧k≤6)):ordF p k=0:=by
 unfold ordF
 rw[if_neg]
 exact fun⟨h1,h2,h3,_⟩=>h ⟨h1,h2,h3⟩
theorem ord_big {p k:Nat} {i:Nat} (hp:1≤p) (hi:i≤k) (h:64<p^i):ordF p k=0:=by
 unfold ordF
 rw[if_neg]
 rintro⟨h1,h2,h3,h4⟩
 rw[Int.toNat_natCast,Int.toNat_natCast]at h4
 have:=pow_le hp hi
 omega
theorem ord_ok {p k:Nat} (h1:(p:Int)∈prL) (h2:1≤k) (h3:k≤6) (h4:p^k≤64):ordF p k=p^k:=by
 unfold ordF
 rw[if_pos ⟨h1,by omega,by omega,by rw[Int.toNat_natCast,Int.toNat_natCast];exact h4⟩,Int.toNat_natCast,Int.toNat_natCast]
theorem ord_pos {p k:Int} (h:ordF p k≠0):∃P K:Nat,p=(P:Int)∧k=(K:Int)∧p∈prL∧2≤P∧P≤61∧1≤K∧K≤6∧P^K≤64∧ordF p k=P^K:=by
 unfold ordF at h⊢
 by_cases hc:p∈prL∧1≤k∧k≤6∧p.toNat^k.toNat≤64
 ·have:=pr_range hc.1
  refine⟨p.toNat,k.toNat,by omega,by omega,hc.1,by omega,by omega,by omega,by omega,hc.2.2.2,if_pos hc⟩
 ·exact absurd (if_neg hc) h
theorem order_any (p k:Int) (w:World) (ik:I64 k) (hp:Prs w):
 Calls Tryz.prog 181 #[.int .i64 p,.int .i64 k] w fun e w'=>e= .returned (.tuple #[.int .i64 (ordF p k),.bool (!(ordF p k==0))])∧w=w':=by
 have HP:=hid (isPrime_any p w hp)
 clear hp
 unfold I64 at ik
 by_cases h1:p∈prL
 ·have hd:decide (p∈prL)=true:=decide_eq_true h1
  rw[hd]at HP
  by_cases h2:1≤k
  ·by_cases h3:k≤6
   ·have hr:=pr_range h1
    obtain⟨P,rfl⟩:∃P:Nat,p=(P:Int):=⟨p.toNat,by omega⟩
    obtain⟨K,rfl⟩:∃K:Nat,k=(K:Int):=⟨k.toNat,by omega⟩
    have HB:=hid (fun i hi h=>ord_big (p:=P) (k:=K) (i:=i) (by omega) hi h)
    have HO:=hid (fun h=>ord_ok (p:=P) (k:=K) h1 (by omega) (by omega) h)
    have HPL:=hid (fun i (hi:i≤K)=>pow_le (p:=P) (by omega) hi)
    have HPS:Hid (∀i,P^(i+1)=P^i*P):=hid fun i=>rfl
    have HP0:Hid (P^0=1):=hid rfl
    have hP1:¬(K:Int)<1:=by omega
    have hP2:¬(6:Int)<(K:Int):=by omega
    generalize ordF (P:Int) (K:Int)=R at*
    clear h1 hd ik
    obtain⟨f,hf⟩:∃f:Nat→Nat,f=fun i=>P^i:=⟨_,rfl⟩
    have HF:Hid (∀i,P^i=f i):=hid (fun i=>by rw[hf])
    clear hf
    go_enter Tryz.func181,Tryz.ntmps181
    go_wp2_with fail
    refine HP.out.mono ?_
    rintro e w1 ⟨rfl,rfl⟩
    go_wp2
    go_loop [6,19] (fun q i=>∃j:Nat,j≤K∧i= .int .i64 j∧q= .int .i64 (f j:Nat)∧Hid (f j≤64)) (fun _ i=>K-(intOf i).toNat)
    case atStart=>exact⟨0,Nat.zero_le _,rfl,by rw[←HF.out,HP0.out];rfl,hid (by rw[←HF.out,HP0.out];decide)⟩
    case round=>
     obtain⟨j,hj,rfl,rfl,hle⟩:=hrel
     have hle2:=hle.out
     by_cases hlt:j<K
     ·have hs:=HPS.out j
      rw[HF.out,HF.out]at hs
      have hmul:((f (j+1):Nat):Int)=(f j:Int)*(P:Int):=by rw[hs];simp
      have hml:f j*P≤64*61:=Nat.mul_le_mul hle2 (by omega)
      have hcp:(f j:Int)*(P:Int)≤3904∧0≤(f j:Int)*(P:Int):=by rw[←hmul,hs];omega
      have HMUL:=hid hmul.symm
      by_cases hbig:64<f (j+1)
      ·have hR:R=0:=HB.out (j+1) (by omega) (by rw[HF.out];exact hbig)
       have hci:(64:Int)<(f j:Int)*(P:Int):=by omega
       clear hs hmul hml hbig
       subst hR
       go_wp2
       go_ret2
       exact⟨rfl,rfl⟩
      ·have hci:¬(64:Int)<(f j:Int)*(P:Int):=by omega
       have HL:Hid (f (j+1)≤64):=hid (by omega)
       clear hs hmul hml hbig hle hle2
       generalize f j=x at*
       go_wp2
       go_round
       case rel=>exact⟨j+1,by omega,by go_num,by rw[←HMUL.out],HL⟩
       case measure=>simp[intOf]<;>omega
     ·obtain rfl:j=K:=by omega
      have hR:R=f j:=by rw[←HF.out];exact HO.out (by rw[HF.out];exact hle2)
      have hpos:1≤f j:=by rw[←HF.out];exact Nat.pos_of_ne_zero (by intro h0;have:=HPL.out 0 (by omega);rw[HP0.out,h0]at this;omega)
      have hR2:(R==0)=false:=by rw[beq_eq_false_iff_ne];omega
      have HR:=hid (And.intro hR hR2)
      clear hle hR hR2
      go_wp2
      go_ret2
      exact⟨by rw[HR.out.2,HR.out.1];rfl,rfl⟩
   ·have hR:ordF p k=0:=ord_no (fun h=>h3 h.2.2)
    rw[hR]
    have t1:¬k<1:=by omega
    have t2:6<k:=by omega
    clear h1 hd h2 h3 hR
    go_enter Tryz.func181,Tryz.ntmps181
    go_wp2_with fail
    refine HP.out.mono ?_
    rintro e w1 ⟨rfl,rfl⟩
    go_wp2
    go_ret2
    exact⟨rfl,rfl⟩
  ·have hR:ordF p k=0:=ord_no (fun h=>h2 h.2.1)
   rw[hR]
   have t1:k<1:=by omega
   clear h1 hd h2 hR
   go_enter Tryz.func181,Tryz.ntmps181
   go_wp2_with fail
   refine HP.out.mono ?_
   rintro e w1 ⟨rfl,rfl⟩
   go_wp2
   go_ret2
   exact⟨rfl,rfl⟩
 ·have hd:decide (p∈prL)=false:=decide_eq_false h1
  rw[hd]at HP
  have hR:ordF p k=0:=ord_no (fun h=>h1 h.1)
  rw[hR]
  clear h1 hd hR
  go_enter Tryz.func181,Tryz.ntmps181
  go_wp2_with fail
  refine HP.out.mono ?_
  rintro e w1 ⟨rfl,rfl⟩
  go_wp2
  go_ret2
  exact⟨rfl,rfl⟩
theorem pr_same:∀P:Nat,P<65→primeB P=decide ((P:Int)∈prL):=by decide+kernel
theorem fac_bd:∀n,n≤12→1≤fac n∧fac n≤479001600:=by
 intro n h
 have:∀n,n<13→1≤fac n∧fac n≤479001600:=by decide
 exact this n (by omega)
end Go.Proofs.YtnnaadmegeeinaaGreatDoor
namespace Go.Proofs.YtnnaadmegeeinaaGreatDoor
def kR (n k:Nat):Nat→Nat
 |0=>k
 |j+1=>kR n k j%fac (n-1-j)
def iR (n k j:Nat):Nat:=kR n k j/fac (n-1-j)
def leftL (n k:Nat):Nat→List Nat
 |0=>List.range n
 |j+1=>(leftL n k j).eraseIdx (iR n k j)
theorem fac_pos:∀n,0<fac n
 |0=>by decide
 |n+1=>Nat.mul_pos (by omega) (fac_pos n)
theorem fac_step {n j:Nat} (h:j<n):fac (n-j)=(n-j)*fac (n-1-j):=by
 obtain⟨d,hd⟩:∃d,n-j=d+1:=⟨n-j-1,by omega⟩
 rw[hd,show n-1-j=d by omega];rfl
theorem kR_lt {n k:Nat} (hk:k<fac n):∀j,j≤n→kR n k j<fac (n-j)
 |0,_=>hk
 |j+1,h=>by
  simp only[kR]
  rw[show n-(j+1)=n-1-j by omega]
  exact Nat.mod_lt _ (fac_pos _)
theorem iR_lt {n k:Nat} (hk:k<fac n) {j:Nat} (h:j<n):iR n k j<n-j:=by
 have h1:=kR_lt hk j (by omega)
 rw[fac_step h]at h1
 unfold iR
 rw[Nat.div_lt_iff_lt_mul (fac_pos _)]
 exact h1
theorem left_len {n k:Nat} (hk:k<fac n):∀j,j≤n→(leftL n k j).length=n-j
 |0,_=>by simp[leftL]
 |j+1,h=>by
  have h1:=left_len hk j (by omega)
  have h2:=iR_lt hk (show j<n by omega)
  simp only[leftL]
  rw[List.length_eraseIdx,if_pos (by omega),h1]
  omega
theorem left_up (n k:Nat):∀j,(leftL n k j).Pairwise (·< ·)
 |0=>List.pairwise_lt_range
 |j+1=>(left_up n k j).sublist (List.eraseIdx_sublist _ _)
theorem left_lt (n k:Nat):∀j,∀x∈leftL n k j,x<n
 |0,x,h=>List.mem_range.1 h
 |j+1,x,h=>left_lt n k j x ((List.eraseIdx_sublist _ _).mem h)
def cnt (L:List Nat) (t:Nat):Nat:=L.countP (fun x=>decide (x<t))
theorem cnt_zero (L:List Nat):cnt L 0=0:=by
 unfold cnt
 rw[List.countP_eq_zero]
 intro x _
 simp
theorem cnt_succ:∀(L:List Nat) (t:Nat),L.Pairwise (·< ·)→cnt L (t+1)=cnt L t+if t∈L then 1 else 0
 |[],t,_=>by simp[cnt]
 |y::L,t,h=>by
  obtain⟨h1,h2⟩:=List.pairwise_cons.1 h
  have ih:=cnt_succ L t h2
  unfold cnt at ih⊢
  rw[List.countP_cons,List.countP_cons,ih]
  by_cases e:y=t
  ·subst e
   have hn:y∉L:=fun hy=>by have:=h1 y hy;omega
   rw[if_neg hn,if_pos (by simp:y∈y::L)]
   simp
  ·by_cases hy:y<t
   ·by_cases ht:t∈L
    ·rw[if_pos ht,if_pos (show t∈y::L by simp[ht])]
     simp[hy,show y<t+1 by omega]
    ·rw[if_neg ht,if_neg (show¬t∈y::L by simp[ht];omega)]
     simp[hy,show y<t+1 by omega]
   ·by_cases ht:t∈L
    ·rw[if_pos ht,if_pos (show t∈y::L by simp[ht])]
     simp[hy,show¬y<t+1 by omega]
    ·rw[if_neg ht,if_neg (show¬t∈y::L by simp[ht];omega)]
     simp[hy,show¬y<t+1 by omega]
theorem cnt_at:∀(L:List Nat) (i:Nat),L.Pairwise (·< ·)→i<L.length→cnt L (L.getD i 0)=i
 |[],i,_,h=>by simp at h
 |y::L,0,h,_=>by
  obtain⟨h1,h2⟩:=List.pairwise_cons.1 h
  unfold cnt
  rw[List.countP_eq_zero]
  intro x hx
  rcases List.mem_cons.1 hx with e|e
  ·simp[e]
  ·have:=h1 x e
   simp
   omega
 |y::L,i+1,h,hi=>by
  obtain⟨h1,h2⟩:=List.pairwise_cons.1 h
  have ih:=cnt_at L i h2 (by simpa using hi)
  have hm:L.getD i 0∈L:=by
   have:i<L.length:=by simpa using hi
   rw[List.getD_eq_getElem?_getD,List.getElem?_eq_getElem this]
   simp
  have:=h1 _ hm
  unfold cnt at ih⊢
  rw[List.countP_cons,show(y::L).getD (i+1) 0=L.getD i 0 by simp[List.getD_eq_getElem?_getD],ih,if_pos (by simpa using this)]
theorem mem_erase_at {L:List Nat} {i:Nat} (h:L.Pairwise (·< ·)) (hi:i<L.length) (x:Nat):x∈L.eraseIdx i↔x∈L∧x≠L.getD i 0:=by
 have hg:L.getD i 0=L[i]:=by rw[List.getD_eq_getElem?_getD,List.getElem?_eq_getElem hi];rfl
 have inj:∀a b (ha:a<L.length) (hb:b<L.length),L[a]=L[b]→a=b:=by
  intro a b ha hb e
  rw[List.pairwise_iff_getElem]at h
  rcases Nat.lt_trichotomy a b with h1|h1|h1
  ·have:=h a b ha hb h1;omega
  ·exact h1
  ·have:=h b a hb ha h1;omega
 rw[List.mem_eraseIdx_iff_getElem,hg]
 constructor
 ·rintro⟨a,ha,hne,rfl⟩
  exact⟨List.getElem_mem ha,fun e=>hne (inj _ _ _ _ e)⟩
 ·rintro⟨hx,hne⟩
  obtain⟨a,ha,rfl⟩:=List.mem_iff_getElem.1 hx
  exact⟨a,ha,fun e=>hne (by subst e;rfl),rfl⟩
end Go.Proofs.YtnnaadmegeeinaaGreatDoor
namespace Go.Proofs.YtnnaadmegeeinaaGreatDoor
structure Mv (n:Nat) (f:Nat→Nat):Prop where
 pm:Pm n f
 st:∀i,n≤i→f i=i
theorem sumN_leG {a b:Nat→Nat}:∀n,(∀i,i<n→a i≤b i)→sumN a n≤sumN b n
 |0,_=>Nat.le_refl _
 |n+1,h=>Nat.add_le_add (sumN_leG n (fun i hi=>h i (by omega))) (h n (by omega))
theorem sumN_ltG {a b:Nat→Nat}:∀n,(∀i,i<n→a i≤b i)→(∃i,i<n∧a i<b i)→sumN a n<sumN b n
 |0,_,⟨i,hi,_⟩=>by omega
 |n+1,h,⟨i,hi,hl⟩=>by
  simp only[sumN]
  by_cases e:i=n
  ·subst e
   have:=sumN_leG i (fun j hj=>h j (by omega))
   omega
  ·have:=sumN_ltG n (fun j hj=>h j (by omega)) ⟨i,by omega,hl⟩
   have:=h n (by omega)
   omega
theorem ahead_iff {f:Nat→Nat} {i x:Nat}:aheadB f i x=true↔∃j,j<i∧f j=x:=by
 simp only[aheadB,List.any_eq_true,List.mem_range,beq_iff_eq]
theorem ahead_congr {f g:Nat→Nat} {i:Nat} (h:∀j,j<i→f j=g j) (x:Nat):aheadB f i x=aheadB g i x:=by
 rw[Bool.eq_iff_iff,ahead_iff,ahead_iff]
 exact⟨fun⟨j,h1,h2⟩=>⟨j,h1,by rw[←h j h1];exact h2⟩,fun⟨j,h1,h2⟩=>⟨j,h1,by rw[h j h1];exact h2⟩⟩
theorem lessA_congr {f g:Nat→Nat} {N i:Nat} (h:∀j,j≤i→f j=g j):lessA f N i=lessA g N i:=by
 unfold lessA
 refine sumN_congr N fun x _=> ?_
 rw[ahead_congr (fun j hj=>h j (by omega)),h i (Nat.le_refl _)]
theorem rankS_congr {f g:Nat→Nat} {N:Nat}:∀i,(∀j,j<i→f j=g j)→rankS f N i=rankS g N i
 |0,_=>rfl
 |i+1,h=>by
  simp only[rankS]
  rw[rankS_congr i (fun j hj=>h j (by omega)),lessA_congr (fun j hj=>h j (by omega))]
theorem lessA_top {f:Nat→Nat} {N i:Nat} (P:Pm N f) (hi:i<N):lessA f N i≤N-1-i:=by
 rw[less_same P hi]
 have h1:lessB f N i≤sumN (fun j=>if i<j then 1 else 0) N:=sumN_leG N fun m _=>by
  by_cases h:i<m∧f m<f i
  ·rw[if_pos h,if_pos h.1];exact Nat.le_refl _
  ·rw[if_neg h];exact Nat.zero_le _
 rw[sumN_gt]at h1
 omega
theorem rank_tail {f:Nat→Nat} {N:Nat} (P:Pm N f):∀d j,j+d=N→rankS f N N<rankS f N j+fac (N-j)
 |0,j,h=>by
  obtain rfl:j=N:=by omega
  have:=fac_pos (j-j)
  omega
 |d+1,j,h=>by
  have ih:=rank_tail P d (j+1) (by omega)
  simp only[rankS]at ih
  have h1:=lessA_top P (show j<N by omega)
  rw[fac_step (show j<N by omega)]
  have h2:(lessA f N j+1)*fac (N-1-j)≤(N-j)*fac (N-1-j):=Nat.mul_le_mul_right _ (by omega)
  rw[Nat.add_mul,Nat.one_mul]at h2
  rw[show N-(j+1)=N-1-j by omega]at ih
  omega
theorem rank_up (f:Nat→Nat) (N i:Nat):∀d,rankS f N i≤rankS f N (i+d)
 |0=>Nat.le_refl _
 |d+1=>by
  have:=rank_up f N i d
  rw[←Nat.add_assoc]
  simp only[rankS]
  omega
def rkF (N:Nat) (f:Nat→Nat):Nat:=rankS f N N
theorem rk_lt {N:Nat} {f:Nat→Nat} (P:Pm N f):rkF N f<fac N:=by
 have:=rank_tail P N 0 (by omega)
 simpa [rankS,rkF]using this
def LexF (N:Nat) (f g:Nat→Nat):Prop:=∃i,i<N∧(∀j,j<i→f j=g j)∧f i<g i
theorem lex_rk {N:Nat} {f g:Nat→Nat} (P:Pm N f) (Q:Pm N g) (h:LexF N f g):rkF N f<rkF N g:=by
 obtain⟨i,hi,he,hl⟩:=h
 have h1:=rank_tail P (N-(i+1)) (i+1) (by omega)
 have h2:=rank_up g N (i+1) (N-(i+1))
 rw[show i+1+(N-(i+1))=N by omega]at h2
 simp only[rankS]at h1 h2
 rw[rankS_congr i he]at h1
 have h3:lessA f N i<lessA g N i:=by
  unfold lessA
  refine sumN_ltG N (fun x _=> ?_) ⟨f i,P.lt i hi,?_⟩
  ·rw[ahead_congr he]
   by_cases h:x<f i∧aheadB g i x=false
   ·rw[if_pos h,if_pos ⟨by omega,h.2⟩];exact Nat.le_refl _
   ·rw[if_neg h];exact Nat.zero_le _
  ·have h4:aheadB g i (f i)=false:=by
    cases hb:aheadB g i (f i)with
    |false=>rfl
    |true=>
     obtain⟨j,hj,e⟩:=ahead_iff.1 hb
     rw[←he j hj]at e
     have:=P.inj j i (by omega) hi e
     omega
   rw[if_neg (by omega),if_pos ⟨hl,h4⟩]
   exact Nat.zero_lt_one
 have h5:(lessA f N i+1)*fac (N-1-i)≤lessA g N i*fac (N-1-i):=Nat.mul_le_mul_right _ h3
 rw[Nat.add_mul,Nat.one_mul]at h5
 rw[show N-(i+1)=N-1-i by omega]at h1
 unfold rkF
 omega
theorem first_diff {f g:Nat→Nat}:∀N,(∀i,i<N→f i=g i)∨∃i,i<N∧(∀j,j<i→f j=g j)∧f i≠g i
 |0=> .inl fun i h=>by omega
 |N+1=>by
  rcases first_diff (f:=f) (g:=g) N with h|⟨i,h1,h2,h3⟩
  ·by_cases e:f N=g N
   ·refine .inl fun i hi=> ?_
    by_cases e2:i=N
    ·rw[e2];exact e
    ·exact h i (by omega)
   ·exact .inr ⟨N,by omega,h,e⟩
  ·exact .inr ⟨i,by omega,h2,h3⟩
theorem lex_tri {N:Nat} {f g:Nat→Nat} (P:Mv N f) (Q:Mv N g):f=g∨LexF N f g∨LexF N g f:=by
 rcases first_diff (f:=f) (g:=g) N with h|⟨i,h1,h2,h3⟩
 ·refine .inl (funext fun i=> ?_)
  by_cases hi:i<N
  ·exact h i hi
  ·rw[P.st i (by omega),Q.st i (by omega)]
 ·rcases Nat.lt_or_ge (f i) (g i)with h|h
  ·exact .inr (.inl ⟨i,h1,h2,h⟩)
  ·exact .inr (.inr ⟨i,h1,fun j hj=>(h2 j hj).symm,by omega⟩)
theorem rk_lex {N:Nat} {f g:Nat→Nat} (P:Mv N f) (Q:Mv N g):rkF N f<rkF N g↔LexF N f g:=by
 refine⟨fun h=> ?_,lex_rk P.pm Q.pm⟩
 rcases lex_tri P Q with e|e|e
 ·rw[e]at h;omega
 ·exact e
 ·have:=lex_rk Q.pm P.pm e;omega
theorem rk_inj {N:Nat} {f g:Nat→Nat} (P:Mv N f) (Q:Mv N g) (h:rkF N f=rkF N g):f=g:=by
 rcases lex_tri P Q with e|e|e
 ·exact e
 ·have:=lex_rk P.pm Q.pm e;omega
 ·have:=lex_rk Q.pm P.pm e;omega
def unF (n k j:Nat):Nat:=if j<n then(leftL n k j).getD (iR n k j) 0 else j
section
variable {n k:Nat}
theorem un_mem (hk:k<fac n) {j:Nat} (hj:j<n):unF n k j∈leftL n k j:=by
 unfold unF
 rw[if_pos hj]
 have h:=iR_lt hk hj
 rw[←left_len hk j (by omega)]at h
 rw[List.getD_eq_getElem?_getD,List.getElem?_eq_getElem h]
 exact List.getElem_mem h
theorem mem_left (hk:k<fac n):∀j,j≤n→∀x,x∈leftL n k j↔x<n∧∀i,i<j→unF n k i≠x
 |0,_,x=>by
  simp only[leftL,List.mem_range]
  exact⟨fun h=>⟨h,fun i hi=>by omega⟩,fun h=>h.1⟩
 |j+1,h,x=>by
  have ih:=mem_left hk j (by omega) x
  have hl:=iR_lt hk (show j<n by omega)
  rw[←left_len hk j (by omega)]at hl
  simp only[leftL]
  rw[mem_erase_at (left_up n k j) hl,ih]
  have e:unF n k j=(leftL n k j).getD (iR n k j) 0:=if_pos (by omega)
  rw[←e]
  constructor
  ·rintro⟨⟨h1,h2⟩,h3⟩
   refine⟨h1,fun i hi he=> ?_⟩
   by_cases ei:i=j
   ·subst ei;exact h3 he.symm
   ·exact h2 i (by omega) he
  ·rintro⟨h1,h2⟩
   exact⟨⟨h1,fun i hi=>h2 i (by omega)⟩,fun he=>h2 j (by omega) he.symm⟩
theorem un_mv (hk:k<fac n):Mv n (unF n k):=by
 refine⟨⟨fun i hi=>left_lt n k i _ (un_mem hk hi),fun i j hi hj he=> ?_⟩,fun i hi=>if_neg (by omega)⟩
 rcases Nat.lt_trichotomy i j with h|h|h
 ·exact absurd he (((mem_left hk j (by omega) _).1 (un_mem hk hj)).2 i h)
 ·exact h
 ·exact absurd he.symm (((mem_left hk i (by omega) _).1 (un_mem hk hi)).2 j h)
theorem cnt_sum {L:List Nat} (h:L.Pairwise (·< ·)):∀t,sumN (fun x=>if x∈L then 1 else 0) t=cnt L t
 |0=>(cnt_zero L).symm
 |t+1=>by
  rw[cnt_succ L t h]
  simp only[sumN]
  rw[cnt_sum h t]
theorem un_less (hk:k<fac n) {j:Nat} (hj:j<n):lessA (unF n k) n j=iR n k j:=by
 have hl:=iR_lt hk hj
 rw[←left_len hk j (by omega)]at hl
 have h1:=cnt_at _ _ (left_up n k j) hl
 rw[←show unF n k j=(leftL n k j).getD (iR n k j) 0 from if_pos hj]at h1
 have hu:=(un_mv hk).pm.lt j hj
 rw[←h1,←cnt_sum (left_up n k j),←sumN_cut (fun x=>if x∈leftL n k j then 1 else 0) n (Nat.le_of_lt hu)]
 unfold lessA
 refine sumN_congr n fun x hx=> ?_
 have hm:aheadB (unF n k) j x=false↔x∈leftL n k j:=by
  rw[mem_left hk j (by omega)]
  cases hb:aheadB (unF n k) j x with
  |false=>
   refine⟨fun _=>⟨hx,fun i hi he=> ?_⟩,fun _=>rfl⟩
   have:=ahead_iff.2 ⟨i,hi,he⟩
   rw[hb]at this
   cases this
  |true=>
   obtain⟨i,hi,he⟩:=ahead_iff.1 hb
   exact⟨(fun h=>by cases h),(fun h=>absurd he (h.2 i hi))⟩
 by_cases h2:x<unF n k j
 ·rw[if_pos h2]
  by_cases h3:x∈leftL n k j
  ·rw[if_pos ⟨h2,hm.2 h3⟩,if_pos h3]
  ·rw[if_neg (fun h=>h3 (hm.1 h.2)),if_neg h3]
 ·rw[if_neg (fun h=>h2 h.1),if_neg h2]
theorem un_part (hk:k<fac n):∀j,j≤n→rankS (unF n k) n j+kR n k j=k
 |0,_=>by simp[rankS,kR]
 |j+1,h=>by
  have ih:=un_part hk j (by omega)
  simp only[rankS,kR]
  rw[un_less hk (by omega)]
  have:=Nat.div_add_mod (kR n k j) (fac (n-1-j))
  rw[Nat.mul_comm]at this
  unfold iR
  omega
theorem rk_un (hk:k<fac n):rkF n (unF n k)=k:=by
 have h1:=un_part hk n (Nat.le_refl _)
 have h2:=kR_lt hk n (Nat.le_refl _)
 rw[Nat.sub_self]at h2
 simp only[fac]at h2
 unfold rkF
 omega
theorem un_rk {f:Nat→Nat} (P:Mv n f):unF n (rkF n f)=f:=rk_inj (un_mv (rk_lt P.pm)) P (rk_un (rk_lt P.pm))
end
theorem nodup_subG {α:Type} [DecidableEq α]:∀{A B:List α},A.Nodup→(∀x∈A,x∈B)→A.length≤B.length
 |[],_,_,_=>Nat.zero_le _
 |a::A,B,h,hs=>by
  obtain⟨h1,h2⟩:=List.nodup_cons.1 h
  have hb:=hs a (by simp)
  have ih:=nodup_subG (B:=B.erase a) h2 fun x hx=>(List.mem_erase_of_ne (fun e=>h1 (by rw[←e];exact hx))).2 (hs x (by simp[hx]))
  rw[List.length_erase_of_mem hb]at ih
  have:=List.length_pos_of_mem hb
  rw[List.length_cons]
  omega
theorem mv_many {N:Nat} {l:List (Nat→Nat)} (hn:l.Nodup) (hm:∀f∈l,Mv N f):l.length≤fac N:=by
 have h1:(l.map (rkF N)).Nodup:=List.pairwise_map.2 ((List.pairwise_iff_forall_sublist.2 fun{a b} hs=>by
  have hne:=List.pairwise_iff_forall_sublist.1 hn hs
  intro e
  exact hne (rk_inj (hm a (hs.mem (by simp))) (hm b (hs.mem (by simp))) e)))
 have h2:∀x∈l.map (rkF N),x∈List.range (fac N):=fun x hx=>by
  obtain⟨f,hf,rfl⟩:=List.mem_map.1 hx
  exact List.mem_range.2 (rk_lt (hm f hf).pm)
 have h3:=nodup_subG h1 h2
 simpa using h3
end Go.Proofs.YtnnaadmegeeinaaGreatDoor
