/-
  Part 5 of a proof: what it proves stands in the last text.
-/
import Derived.Test.YtnnaadmegeeinaaGreatDoorZd
import Derived.Test.YtnnaadmegeeinaaGreatDoorZc
import Derived.Test.YtnnaadmegeeinaaGreatDoorZa
set_option linter.unusedVariables false
set_option maxHeartbeats 8000000
set_option maxRecDepth 100000
namespace Go.Proofs.YtnnaadmegeeinaaGreatDoor
open Go.RowKit
theorem sums_any (B g c n N:Nat) (f:Nat→Int) (w:World) (hn:n≤8) (hN:N=2^n) (hf:InB N 1 f) (ho:OI B w (.slice (some ⟨g,0,none⟩) N c) (fnL N f)):
 Calls Tryz.prog 264 #[.slice (some ⟨g,0,none⟩) N c] w fun e w'=>(∃r,e= .returned r)∧OI B w' (.slice (some ⟨g,0,none⟩) N c) (fnL N (spF n f n))∧w.grownBy w' (some g):=by
 have HS:=hid (spread_any B g c n N f w hn hN hf ho)
 clear ho hf hN
 go_enter Tryz.func264,Tryz.ntmps264
 go_wp2_with fail
 refine HS.out.mono ?_
 rintro e w1 ⟨⟨r,rfl⟩,h1,h2⟩
 have HX:=hid (And.intro h1 h2)
 clear h1 h2
 go_wp2
 go_end0
 exact⟨⟨_,rfl⟩,HX.out.1,HX.out.2⟩
theorem greatest_any (B g c N:Nat) (M:Int) (f:Nat→Int) (w:World) (hN:0<N) (hN2:N≤256) (hM:0≤M) (hM2:M≤100000) (hf:InB N M f) (ho:OI B w (.slice (some ⟨g,0,none⟩) N c) (fnL N f)):
 Calls Tryz.prog 212 #[.slice (some ⟨g,0,none⟩) N c] w fun e w'=>e= .returned (.tuple #[.int .i64 (grM f N),.int .i64 (grL f N)])∧Below w.heap.size w w':=by
 have HGM:=hid (fun i (h:i≤N)=>grM_bd hM hf i h)
 have HGL:=hid (fun i (h:i≤N)=>grL_bd hf hN i h)
 have HC:=hid (fun i (h:i<N)=>(ho.cell i (by rw[fnL_len];exact h)).trans (by rw[fnL_get f h]))
 have HF:=hid hf
 have HMS:Hid (∀i,grM f (i+1)=if-(f i)>(if f i>grM f i then f i else grM f i)then-(f i)else(if f i>grM f i then f i else grM f i)):=hid (fun i=>by
  rw[grM,Int.max_def,Int.max_def]
  repeat' split
  all_goals omega)
 have HLS:Hid (∀i,grL f (i+1)=if(if f i< -(f i)then-(f i)else f i)<grL f i then(if f i< -(f i)then-(f i)else f i)else grL f i):=hid (fun i=>by
  rw[grL,Int.max_def,Int.min_def]
  repeat' split
  all_goals omega)
 have HL0:Hid (grL f 0=if f 0< -(f 0)then-(f 0)else f 0):=hid (by
  rw[grL,Int.max_def]
  repeat' split
  all_goals omega)
 have HM0:Hid (grM f 0=0):=hid rfl
 have hc0:=HC.out 0 hN
 have hc1:w.drew.cell? ⟨g,0,none⟩=_:=hc0
 have hf0:=hf 0 hN
 have hNi:(0:Int)<(N:Int):=by omega
 clear ho hf
 generalize grM f=GM at*
 generalize grL f=GL at*
 go_enter Tryz.func212,Tryz.ntmps212
 go_wp2
 go_region
 rw[←HL0.out]
 go_wp2
 go_loopw [2,3,16] (fun mv lv iv wr=>∃i:Nat,i≤N∧iv= .int .i64 i∧mv= .int .i64 (GM i)∧lv= .int .i64 (GL i)∧∃q,wr=w.drewN q) (fun _ _ iv _=>N-(intOf iv).toNat)
 case atStart=>exact⟨0,Nat.zero_le _,rfl,by rw[HM0.out],rfl,1,rfl⟩
 case round=>
  obtain⟨i,hi,rfl,rfl,rfl,q,rfl⟩:=hrel
  by_cases hiN:i<N
  ·have hii:(i:Int)<(N:Int):=by omega
   have hci:=HC.out i hiN
   have hcq:(w.drewN q).cell? ⟨g,i,none⟩=_:=hci
   have hfi:=HF.out i hiN
   have h1:=HGM.out i hi
   have h2:=HGL.out i hi
   have HM1:=hid (HMS.out i)
   have HL1:=hid (HLS.out i)
   generalize f i=x at*
   generalize GM i=m at*
   generalize GL i=l at*
   have HMX:∀w1,(Builtin.max_ #[3,3,3] 3 #[.int .i64 m,.int .i64 x,.int .i64 (-x)]).run Tryz.prog w1= .ok (.int .i64 (GM (i+1))) w1:=fun w1=>by rw[HM1.out];rfl
   go_wp2
   go_roundw
   case rel=>exact⟨i+1,by omega,by go_num,rfl,by rw[HL1.out],q,rfl⟩
   case measure=>simp[intOf]<;>omega
  ·obtain rfl:i=N:=by omega
   have hii:¬(i:Int)<(i:Int):=by omega
   go_wp2
   go_ret2
   exact⟨rfl,below_drewN (Below.refl _ _) q⟩
def bnF (l:List Int) (j:Nat):Int:=1-2*l.getD j 0
def bnS (l:List Int):Nat→Int:=spF (logN l.length) (bnF l) (logN l.length)
theorem bchE_zero {l:List Int} (h:bchE l=0):(∃n,n≤8∧l.length=2^n)∧∀x∈l,x=0∨x=1:=by
 unfold bchE at h
 split at h
 ·cases h
 ·rename_i h1
  split at h
  ·cases h
  ·rename_i h2
   refine⟨sizB_ex (by simpa using h1),fun x hx=> ?_⟩
   refine Classical.byContradiction fun hc=>h2 ?_
   rw[List.any_eq_true]
   refine⟨x,hx,?_⟩
   unfold badT01
   rw[Bool.and_eq_true,bne_iff_ne,bne_iff_ne]
   omega
theorem bnF_in {l:List Int} (h:∀x∈l,x=0∨x=1):InB l.length 1 (bnF l):=fun j hj=>by
 unfold bnF
 rw[List.getD_eq_getElem?_getD,List.getElem?_eq_getElem hj,Option.getD_some]
 rcases h _ (List.getElem_mem hj)with e|e<;>rw[e]<;>decide
theorem fnL_snoc (i:Nat) (f:Nat→Int):fnL i f++[f i]=fnL (i+1) f:=by unfold fnL;rw[List.range_succ,List.map_append];rfl
theorem Spectrum_bad (v:Value) (l:List Int) (w:World) (hv:Sl w v l) (hi:∀x∈l,I64 x) (hl:l.length≤100000) (h:bchE l≠0):
 Calls Tryz.prog 211 #[v] w fun e w'=>e= .returned (.tuple #[.slice none 0 0,.int .i64 (bchE l)])∧w=w':=by
 have HC:=hid (bcheck_any v l w hv hi hl)
 have hz:(bchE l==0)=false:=by rw[beq_eq_false_iff_ne];exact h
 clear h hv hi
 generalize bchE l=E at*
 go_enter Tryz.func211,Tryz.ntmps211
 go_wp2_with fail
 refine HC.out.mono ?_
 rintro e w1 ⟨⟨n,rfl⟩,rfl⟩
 go_wp2
 go_ret2
 exact⟨rfl,rfl⟩
theorem Spectrum_ok (v:Value) (l:List Int) (w:World) (hv:Sl w v l) (hi:∀x∈l,I64 x) (h:bchE l=0):
 Calls Tryz.prog 211 #[v] w fun e w'=>(∃u,e= .returned (.tuple #[u,.int .i64 0])∧OI w.heap.size w' u (fnL l.length (bnS l)))∧Below w.heap.size w w':=by
 obtain⟨⟨n,hn8,hln⟩,h01⟩:=bchE_zero h
 have hlog:logN l.length=n:=by rw[hln,logN_pow n hn8]
 have hB:bnS l=spF n (bnF l) n:=by unfold bnS;rw[hlog]
 have hin:=bnF_in h01
 have hN256:l.length≤256:=by rw[hln];exact Nat.le_trans (Nat.pow_le_pow_right (n:=2) (by omega) hn8) (by decide)
 have HC:=hid (bcheck_any v l w hv hi (by omega))
 rw[h]at HC
 rw[hB]
 obtain⟨a,c,N,rfl,hN,hl1,hl2⟩:=hv.open
 rw[hN.out]at hln hin hN256⊢
 have HLN:=hid hln
 have HIN:=hid hin
 have hN1:0<N:=by rw[hln];exact Nat.two_pow_pos n
 obtain⟨b,off,rfl,hb,hcell⟩:=hl2 hN1
 have HCELL:Hid (∀i,i<N→w.cell? ⟨b,off+i,none⟩=some (.int .i64 (l.getD i 0))∧(l.getD i 0=0∨l.getD i 0=1)):=hid (fun i hi=>⟨by rw[hcell i hi,List.getD_eq_getElem?_getD],by
  rw[List.getD_eq_getElem?_getD,List.getElem?_eq_getElem (by rw[hN.out];exact hi),Option.getD_some]
  exact h01 _ (List.getElem_mem _)⟩)
 have HF:Hid (∀i,bnF l i=1-2*l.getD i 0):=hid (fun i=>rfl)
 have HSU:=hid (fun(g c:Nat) (w1:World) ho=>sums_any w.heap.size g c n N (bnF l) w1 hn8 hln hin ho)
 clear h hv hi hl2 hcell h01 hlog hB hin hln hN
 generalize bnF l=f at*
 go_enter Tryz.func211,Tryz.ntmps211
 go_wp2_with fail
 refine HC.out.mono ?_
 rintro e w1 ⟨⟨n0,rfl⟩,rfl⟩
 clear HC
 go_wp2
 go_loopw [6,19] (fun ov iv wr=>∃i:Nat,i≤N∧iv= .int .i64 i∧OI w.heap.size wr ov (fnL i f)∧Below w.heap.size w wr) (fun _ iv _=>N-(intOf iv).toNat)
 case atStart=>exact⟨0,Nat.zero_le _,rfl,OI.nil _ _,Below.refl _ _⟩
 case round=>
  obtain⟨i,hi,rfl,ho,hbl⟩:=hrel
  by_cases hiN:i<N
  ·have hii:(i:Int)<(N:Int):=by omega
   obtain⟨hc,hx⟩:=HCELL.out i hiN
   have hc':=(hbl.cell (p:=⟨b,off+i,none⟩) hb).trans hc
   have HFI:=hid (HF.out i)
   have hlen:(fnL i f).length≤1000000000000:=by rw[fnL_len];omega
   have hsz:=hbl.size
   clear hc
   generalize l.getD i 0=x at*
   have HSN:Hid (fnL i f++[1-2*x]=fnL (i+1) f):=hid (by rw[←HFI.out,fnL_snoc])
   go_wp2_with (at_builtin;refine wpList_appi wr _ _ 45 rfl rfl Tryz.underlying45 Tryz.info3 w.heap.size _ _ rfl ho rfl hlen hsz ?_;intro g7 c7 w4 hown1 hg1 hg2 hg3)
   have HX:=hid (And.intro (hown1.cast HSN.out) (ho.grown hbl hg1 hsz))
   clear hown1 hg1 hg2 hg3 ho hbl
   go_roundw
   case rel=>exact⟨i+1,by omega,by go_num,HX.out.1,HX.out.2⟩
   case measure=>simp[intOf]<;>omega
  ·obtain rfl:i=N:=by omega
   have hii:¬(i:Int)<(i:Int):=by omega
   obtain⟨g,c2,e,hg1,hg2⟩:=ho.form (by rw[fnL_len];exact hN1)
   rw[fnL_len]at e
   subst e
   have HS:=hid (HSU.out g c2 wr ho)
   have HB:=hid hbl
   clear ho hbl HSU
   go_wp2_with fail
   refine HS.out.mono ?_
   rintro e w2 ⟨⟨r,rfl⟩,ho2,hgr⟩
   have HX:=hid (And.intro ho2 (HB.out.grown hgr HB.out.size (fun k e=>by cases e;exact hg1)))
   clear ho2 hgr HS
   go_wp2
   go_ret2
   exact⟨⟨_,rfl,HX.out.1⟩,HX.out.2⟩
def bnX (l:List Int):Bool:=if bchE l=0 then grM (bnS l) l.length==grL (bnS l) l.length else false
theorem bnS_in {l:List Int} (h:bchE l=0):InB l.length 256 (bnS l)∧0<l.length∧l.length≤256:=by
 obtain⟨⟨n,hn8,hln⟩,h01⟩:=bchE_zero h
 have hlog:logN l.length=n:=by rw[hln,logN_pow n hn8]
 have hin:=bnF_in h01
 have h1:InB l.length (2^n) (bnS l):=by
  unfold bnS
  rw[hlog]
  rw[hln]at hin⊢
  exact spF_bd hn8 hin n (Nat.le_refl _)
 have h2:2^n≤256:=Nat.le_trans (Nat.pow_le_pow_right (n:=2) (by omega) hn8) (by decide)
 have h3:((2^n:Nat):Int)=(2:Int)^n:=by simp
 refine⟨fun j hj=> ?_,by rw[hln];exact Nat.two_pow_pos n,by rw[hln];exact h2⟩
 have:=h1 j hj
 omega
theorem Bent_any (v:Value) (l:List Int) (w:World) (hv:Sl w v l) (hi:∀x∈l,I64 x) (hl:l.length≤100000):
 Calls Tryz.prog 129 #[v] w fun e w'=>e= .returned (.tuple #[.bool (bnX l),.int .i64 (bchE l)])∧Below w.heap.size w w':=by
 by_cases h:bchE l=0
 ·obtain⟨h1,h2,h3⟩:=bnS_in h
  have HS:=hid (Spectrum_ok v l w hv hi h)
  have HG:=hid (fun(g c:Nat) (w1:World) ho=>greatest_any w.heap.size g c l.length 256 (bnS l) w1 h2 h3 (by decide) (by decide) h1 ho)
  have HX:Hid (bnX l=(grM (bnS l) l.length==grL (bnS l) l.length)):=hid (if_pos h)
  have hM:=grM_bd (M:=256) (by decide) h1 l.length (Nat.le_refl _)
  have hL:=grL_bd (M:=256) h1 h2 l.length (Nat.le_refl _)
  rw[h]
  clear h hv hi h1
  generalize bnX l=z at*
  generalize grM (bnS l) l.length=gm at*
  generalize grL (bnS l) l.length=gl at*
  generalize bnS l=S at*
  generalize l.length=N at*
  go_enter Tryz.func129,Tryz.ntmps129
  go_wp2_with fail
  refine HS.out.mono ?_
  rintro e w1 ⟨⟨u,rfl,hu⟩,hb⟩
  obtain⟨g,c2,e,hg1,hg2⟩:=hu.form (by rw[fnL_len];exact h2)
  rw[fnL_len]at e
  subst e
  have HGG:=hid (HG.out g c2 w1 hu)
  have HB:=hid hb
  clear hu hb HS HG
  go_wp2_with fail
  refine HGG.out.mono ?_
  rintro e w2 ⟨rfl,hb2⟩
  have HB2:=hid (HB.out.trans (hb2.mono HB.out.size))
  clear hb2
  go_wp2
  go_ret2
  exact⟨by rw[HX.out];rfl,HB2.out⟩
 ·have HS:=hid (Spectrum_bad v l w hv hi hl h)
  have HX:Hid (bnX l=false):=hid (if_neg h)
  have hz:(bchE l==0)=false:=by rw[beq_eq_false_iff_ne];exact h
  rw[HX.out]
  clear h hv hi
  generalize bchE l=E at*
  go_enter Tryz.func129,Tryz.ntmps129
  go_wp2_with fail
  refine HS.out.mono ?_
  rintro e w1 ⟨rfl,rfl⟩
  go_wp2
  go_ret2
  exact⟨rfl,Below.refl _ _⟩
theorem getD_mod {l:List Int} {N i:Nat} (hN:l.length=N) (h:0<N):i%N<N∧l.getD (i%l.length) 0=l[i%N]?.getD 0:=by
 refine⟨Nat.mod_lt _ h,?_⟩
 rw[hN];simp[List.getD_eq_getElem?_getD]
theorem snoc_of {l:List Int} (h:0<l.length):∃r x,l=r++[x]∧l[l.length-1]?.getD 0=x∧r.length=l.length-1:=by
 cases hr:l.reverse with
 |nil=>
  have:l=[]:=by simpa using hr
  rw[this]at h;simp at h
 |cons x r=>
  have e:l=r.reverse++[x]:=by
   have:=congrArg List.reverse hr
   simpa using this
  refine⟨r.reverse,x,e,?_,?_⟩
  ·rw[e];simp
  ·rw[e];simp
theorem bump_set (r:List Int) (x:Int):(r++[x]).set r.length (x+1)=bump (r++[x]):=by
 rw[bump_snoc]
 simp
def SmallL (l:List Int):Prop:=∀x∈l,0≤x∧x<100
theorem SmallL.get {l:List Int} (h:SmallL l) (i:Nat):0≤l[i]?.getD 0∧l[i]?.getD 0<100:=by
 cases hi:l[i]? with
 |none=>simp
 |some x=>simpa using h x (List.mem_of_getElem? hi)
theorem SmallL.round {l:List Int} (h:SmallL l) (m:Nat):SmallL (round' l m):=by
 intro x hx
 simp only[round',List.mem_map]at hx
 obtain⟨i,_,rfl⟩:=hx
 have:=h.get (i%l.length)
 rw[List.getD_eq_getElem?_getD]
 exact this
theorem next_any (k:Int) (m:Nat) (v:Value) (l:List Int) (w:World) (hl:Sl w v l) (hne:0<l.length) (hs:SmallL l) (hk1:1≤k) (hk2:k≤10) (hm:m≤4096):
 Calls Tryz.prog 220 #[.int .i64 k,v,.int .i64 m] w fun e w'=>(∃u,e= .returned u∧OI w.heap.size w' u (nextL k l m))∧Below w.heap.size w w':=by
 obtain⟨a,c,N,rfl,hN,hl1,hl2⟩:=hl.open
 have hpos:0<N:=by rw[←hN.out];exact hne
 obtain⟨b,off,rfl,hbl,hc⟩:=hl2 hpos
 have HC:=hid hc
 have HS:=hid hs
 clear hl hl2 hc hs hne
 go_enter Tryz.func220,Tryz.ntmps220
 go_wp2
 go_loopw [7,10] (fun v i wr=>∃j:Nat,j≤m∧i= .int .i64 j∧OI w.heap.size wr v (round' l j)∧Below w.heap.size w wr) (fun _ i _=>m-(intOf i).toNat)
 case atStart=>exact⟨0,Nat.zero_le _,rfl,OI.nil _ _,Below.refl _ _⟩
 case round=>
  obtain⟨j,hj,rfl,hown,hb⟩:=hrel
  have hB:=hb.size
  by_cases hlt:j<m
  ·obtain⟨hmod,hget⟩:=getD_mod (i:=j) hN.out hpos
   have hcell:=(hb.cell (p:=⟨b,off+j%N,none⟩) hbl).trans (HC.out (j%N) hmod)
   have hi1:0≤(j:Int)%(N:Int):=Int.emod_nonneg _ (by omega)
   have hi2:(j:Int)%(N:Int)<(N:Int):=Int.emod_lt_of_pos _ (by omega)
   have HG:=hid (show round' l j++[l[j%N]?.getD 0]=round' l (j+1)by rw[round_succ,hget])
   have hll:(round' l j).length≤1000000000000:=by rw[round_len];omega
   clear hget
   go_wp2_with (at_builtin;refine wpList_appi wr _ _ 45 rfl rfl Tryz.underlying45 Tryz.info3 w.heap.size _ _ rfl hown rfl hll hB ?_;intro g c2 w1 hown1 hg1 hg2 hg3)
   go_roundw
   case rel=>exact⟨j+1,by omega,by go_num,hown1.cast HG.out,hown.grown hb hg1 hB⟩
   case measure=>simp[intOf]<;>omega
  ·obtain rfl:j=m:=by omega
   have HT:Hid (nextL k l j=bump (trim (k-1) (round' l j))):=hid rfl
   have hsm:=HS.out.round j
   have hrl:(round' l j).length≤j:=by rw[round_len];omega
   generalize round' l j=R at*
   clear hj
   go_wp2
   go_loop [7] (fun v=>∃(a:Option Addr) (n c:Nat) (r:List Int),v= .slice a n c∧n≤4096∧Hid (r.length=n)∧OI w.heap.size wr (.slice a n c) r∧SmallL r∧Hid (trim (k-1) r=trim (k-1) R)) (fun v=>match v with| .slice _ n _=>n|_=>0)
   case atStart=>
    obtain⟨a,c,e⟩:=hown.len
    subst e
    exact⟨a,R.length,c,R,rfl,by omega,hid rfl,hown,hsm,hid rfl⟩
   case round=>
    obtain⟨a,n,c,r,rfl,hn,hrn,ho,hsr,htr⟩:=hrel
    clear hown
    by_cases h0:n=0
    ·subst h0
     obtain rfl:r=[]:=List.eq_nil_of_length_eq_zero hrn.out
     have HE:Hid (nextL k l j=[]):=hid (by rw[HT.out,←htr.out];rfl)
     go_wp2
     go_ret
     exact⟨⟨_,rfl,by rw[HE.out];exact ho⟩,hb⟩
    have hpn:0<n:=by omega
    obtain⟨g,c',e,hgB,hgW⟩:=ho.form (by rw[hrn.out];exact hpn)
    simp only[Value.slice.injEq]at e
    obtain⟨rfl,he2,rfl⟩:=e
    clear he2
    obtain⟨q,x,rfl,hx,hq⟩:=snoc_of (l:=r) (by rw[hrn.out];exact hpn)
    rw[hrn.out]at hx hq
    have hcell:=ho.cell (n-1) (by rw[hrn.out];omega)
    have hfz:=ho.frozen (n-1)
    rw[List.getD_eq_getElem?_getD,hx]at hcell
    have hxs:=hsr x (by simp)
    have hcap:=ho.cap
    have HQ:=hid hq
    clear hx hq
    by_cases hxe:x=k-1
    ·have hb1:(x==k-1)=true:=by simpa using hxe
     have HX:=hid hxe
     have ho2:=ho.take (n-1) (by omega)
     rw[show(q++[x]).take (n-1)=q by rw[←HQ.out];simp]at ho2
     clear hxe
     go_wp2
     go_round
     case rel=>exact⟨_,n-1,_,q,rfl,by omega,HQ,ho2,fun y hy=>hsr y (by simp[hy]),hid (by have:=htr.out;rw[HX.out,trim_snoc]at this;exact this)⟩
     case measure=>show n-1<n;omega
    ·have hb1:(x==k-1)=false:=by simpa using hxe
     have HX:Hid (nextL k l j=(q++[x]).set (n-1) (x+1)):=hid (by rw[HT.out,←htr.out,trim_last _ _ _ hxe,←bump_set,HQ.out])
     have hst:=ho.stored (n-1) (x+1)
     have hbs:=hb.grown hst.2 hb.size (fun k' e=>by cases e;exact hgB)
     clear hxe
     go_wp2
     go_ret
     exact⟨⟨_,rfl,by rw[HX.out];exact hst.1⟩,hbs⟩
theorem pow_step (k j:Nat):k^(j+1)=k^j*k:=Nat.pow_succ k j
theorem pow_div {p k:Nat} {z:Int} (hk:1≤k):z/(k:Int)<(p:Int)↔z<((p*k:Nat):Int):=by
 rw[Int.ediv_lt_iff_lt_mul (by omega)]
 simp
theorem pow_up {k i n:Nat} (hk:1≤k) (h:i≤n):k^i≤k^n:=Nat.pow_le_pow_right hk h
theorem power_ok (k n:Nat) (z:Int) (w:World) (hk:1≤k) (hz0:0≤z) (hz:z≤1000000000000000000) (hn:n≤100) (h:((k^n:Nat):Int)≤z):
 Calls Tryz.prog 219 #[.int .i64 k,.int .i64 n,.int .i64 z] w fun e w'=>e= .returned (.tuple #[.int .i64 (k^n:Nat),.bool true])∧w=w':=by
 obtain⟨r,hr⟩:∃r,r=k^n:=⟨_,rfl⟩
 rw[←hr]at h⊢
 have HR:=hid hr
 clear hr
 go_enter Tryz.func219,Tryz.ntmps219
 go_wp2
 go_loop [8,10] (fun o i=>∃j p:Nat,j≤n∧i= .int .i64 j∧o= .int .i64 p∧Hid (p=k^j)) (fun _ i=>n-(intOf i).toNat)
 case atStart=>exact⟨0,1,Nat.zero_le _,rfl,rfl,hid rfl⟩
 case round=>
  obtain⟨j,p,hj,rfl,rfl,hp⟩:=hrel
  by_cases hlt:j<n
  ·have hpk:p*k≤r:=by rw[hp.out,←pow_step,HR.out];exact pow_up hk hlt
   have h1:¬z/(k:Int)<(p:Int):=by rw[pow_div hk];omega
   have h2:(p:Int)*(k:Int)≤1000000000000000000:=by
    have:((p*k:Nat):Int)=(p:Int)*(k:Int):=by simp
    omega
   have h3:0≤(p:Int)*(k:Int):=Int.mul_nonneg (by omega) (by omega)
   clear hpk
   go_wp2
   go_round
   case rel=>exact⟨j+1,p*k,by omega,by go_num,by simp,hid (by rw[hp.out,pow_step])⟩
   case measure=>simp[intOf]<;>omega
  ·obtain rfl:j=n:=by omega
   obtain rfl:p=r:=by rw[hp.out,HR.out]
   go_wp2
   go_ret2
   exact⟨rfl,rfl⟩
theorem power_no (k n:Nat) (z:Int) (w:World) (hk:1≤k) (hz0:1≤z) (hz:z≤1000000000000000000) (hn:n≤100) (h:z<((k^n:Nat):Int)):
 Calls Tryz.prog 219 #[.int .i64 k,.int .i64 n,.int .i64 z] w fun e w'=>e= .returned (.tuple #[.int .i64 0,.bool false])∧w=w':=by
 obtain⟨r,hr⟩:∃r,r=k^n:=⟨_,rfl⟩
 rw[←hr]at h
 have HR:=hid hr
 clear hr
 go_enter Tryz.func219,Tryz.ntmps219
 go_wp2
 go_loop [8,10] (fun o i=>∃j p:Nat,j≤n∧i= .int .i64 j∧o= .int .i64 p∧Hid (p=k^j)∧(p:Int)≤z) (fun _ i=>n-(intOf i).toNat)
 case atStart=>exact⟨0,1,Nat.zero_le _,rfl,rfl,hid rfl,hz0⟩
 case round=>
  obtain⟨j,p,hj,rfl,rfl,hp,hpz⟩:=hrel
  by_cases hlt:j<n
  ·by_cases h1:z/(k:Int)<(p:Int)
   ·go_wp2
    go_ret2
    exact⟨rfl,rfl⟩
   ·have h4:((p*k:Nat):Int)≤z:=by rw[pow_div hk]at h1;omega
    have h5:((p*k:Nat):Int)=(p:Int)*(k:Int):=by simp
    have h2:(p:Int)*(k:Int)≤1000000000000000000:=by omega
    have h3:0≤(p:Int)*(k:Int):=Int.mul_nonneg (by omega) (by omega)
    have H4:=hid h4
    clear h4 h5
    go_wp2
    go_round
    case rel=>exact⟨j+1,p*k,by omega,by go_num,by simp,hid (by rw[hp.out,pow_step]),H4.out⟩
    case measure=>simp[intOf]<;>omega
  ·exfalso
   obtain rfl:j=n:=by omega
   obtain rfl:p=r:=by rw[hp.out,HR.out]
   omega
end Go.Proofs.YtnnaadmegeeinaaGreatDoor
namespace Go.Proofs.YtnnaadmegeeinaaGreatDoor
def bin:Nat→Nat→Nat
 |_,0=>1
 |0,_+1=>0
 |n+1,k+1=>bin n k+bin n (k+1)
theorem bin_zero (n:Nat):bin n 0=1:=by cases n<;>rfl
theorem bin_succ (n k:Nat):bin (n+1) (k+1)=bin n k+bin n (k+1):=rfl
theorem bin_none:∀(n k:Nat),n<k→bin n k=0
 |0,0,h=>by omega
 |0,k+1,_=>rfl
 |n+1,0,h=>by omega
 |n+1,k+1,h=>by rw[bin_succ,bin_none n k (by omega),bin_none n (k+1) (by omega)]
theorem bin_all:∀n,bin n n=1
 |0=>rfl
 |n+1=>by rw[bin_succ,bin_all n,bin_none n (n+1) (by omega)]
theorem bin_pos:∀(n k:Nat),k≤n→0<bin n k
 |n,0,_=>by rw[bin_zero];omega
 |0,k+1,h=>by omega
 |n+1,k+1,h=>by rw[bin_succ];have:=bin_pos n k (by omega);omega
theorem bin_absorb:∀(n k:Nat),bin (n+1) (k+1)*(k+1)=bin n k*(n+1)
 |0,0=>rfl
 |0,k+1=>by rw[bin_none 1 (k+2) (by omega),bin_none 0 (k+1) (by omega),Nat.zero_mul,Nat.zero_mul]
 |n+1,0=>by
  have h:=bin_absorb n 0
  rw[bin_zero,Nat.one_mul,Nat.mul_one]at h
  rw[bin_succ,bin_zero,h]
  omega
 |n+1,k+1=>by
  have h1:=bin_absorb n k
  have h2:=bin_absorb n (k+1)
  have e1:bin (n+1) (k+1)*(k+1+1)=bin (n+1) (k+1)*(k+1)+bin (n+1) (k+1):=by rw[Nat.mul_succ]
  rw[bin_succ (n+1) (k+1),Nat.add_mul,h2,e1,h1]
  rw[bin_succ n k,Nat.add_mul,Nat.mul_succ (bin n k) (n+1),Nat.mul_succ (bin n (k+1)) (n+1)]
  omega
theorem bin_step (n k:Nat):bin n k≤bin (n+1) k:=by
 cases k with
 |zero=>rw[bin_zero,bin_zero];omega
 |succ k=>rw[bin_succ];omega
theorem bin_mono {a b:Nat} (h:a≤b) (k:Nat):bin a k≤bin b k:=by
 induction b with
 |zero=>rw[show a=0 by omega];omega
 |succ b ih=>
  by_cases e:a=b+1
  ·rw[e];omega
  ·exact Nat.le_trans (ih (by omega)) (bin_step b k)
def topG (i r:Nat):Nat→Nat
 |0=>0
 |t+1=>if bin (t+1) i≤r then t+1 else topG i r t
theorem topG_spec {i r:Nat} (hi:1≤i):∀t,bin (topG i r t) i≤r∧topG i r t≤t∧∀n,topG i r t<n→n≤t→r<bin n i
 |0=>by
  refine⟨?_,Nat.le_refl _,fun n h1 h2=>by simp only[topG]at h1;omega⟩
  simp only[topG]
  rw[bin_none 0 i (by omega)]
  omega
 |t+1=>by
  obtain⟨h1,h2,h3⟩:=topG_spec (r:=r) hi t
  simp only[topG]
  by_cases h:bin (t+1) i≤r
  ·rw[if_pos h]
   exact⟨h,Nat.le_refl _,fun n a b=>by omega⟩
  ·rw[if_neg h]
   refine⟨h1,by omega,fun n a b=> ?_⟩
   by_cases e:n=t+1
   ·subst e;omega
   ·exact h3 n a (by omega)
end Go.Proofs.YtnnaadmegeeinaaGreatDoor
namespace Go.Proofs.YtnnaadmegeeinaaGreatDoor
open Go.RowKit
structure TestsN (c:FuncId) (cap:Array Value) (p:Nat→Bool) (n:Nat) (w:World):Prop where
 enter:∀(args:Array Value) (w:World),(callFunc c args).run Tryz.prog w= .ok (.enter c args) w
 calls:∀(x q:Nat),x<n→Calls Tryz.prog c (#[.int .i64 x]++cap) (w.drewN q) fun e w'=>e= .returned (.bool (p x))∧∃q2,w'=(w.drewN q).drewN q2
theorem search_any (c:FuncId) (cap:Array Value) (p:Nat→Bool) (n a:Nat) (w:World) (hn:n≤4611686018427387903) (ht:TestsN c cap p n w) (ha:a≤n) (hlo:∀x,x<a→p x=false) (hhi:∀x,a≤x→x<n→p x=true):
 Calls Tryz.prog 270 #[.int .i64 n,.func (.func c) #[] cap] w fun e w'=>e= .returned (.int .i64 a)∧∃q,w'=w.drewN q:=by
 have HT:=hid ht.calls
 have he:=ht.enter
 have HLO:=hid hlo
 have HHI:=hid hhi
 clear ht hlo hhi
 go_enter Tryz.func270,Tryz.ntmps270
 go_wp2
 go_loopw [5,6] (fun i j wr=>∃x y q:Nat,x≤a∧a≤y∧y≤n∧i= .int .i64 x∧j= .int .i64 y∧wr=w.drewN q) (fun i j _=>(intOf j).toNat-(intOf i).toNat)
 case atStart=>exact⟨0,n,0,Nat.zero_le _,ha,Nat.le_refl _,rfl,rfl,rfl⟩
 case round=>
  obtain⟨x,y,q,hx,hy,hyn,rfl,rfl,rfl⟩:=hrel
  by_cases hxy:x<y
  ·obtain⟨m,hm⟩:∃m,m=(x+y)/2:=⟨_,rfl⟩
   have hm1:x≤m∧m<y:=by omega
   have hm2:((x:Int)+(y:Int))/2=(m:Int):=by omega
   have HTM:=hid (HT.out m q (by omega))
   have hmi:0≤(m:Int)∧(m:Int)<4611686018427387903:=by omega
   clear hm
   go_wp2_with fail
   refine HTM.out.mono ?_
   rintro e w1 ⟨rfl,q2,rfl⟩
   cases hp:p m with
   |true=>
    have hma:a≤m:=by
     rcases Nat.lt_or_ge m a with h|h
     ·rw[HLO.out m h]at hp;cases hp
     ·exact h
    have HP:=hid hp
    clear hp
    go_wp2
    go_roundw
    case rel=>exact⟨x,m,q+q2,hx,hma,by omega,rfl,rfl,by simp⟩
    case measure=>simp[intOf]<;>omega
   |false=>
    have hma:m<a:=by
     rcases Nat.lt_or_ge m a with h|h
     ·exact h
     ·rw[HHI.out m h (by omega)]at hp;cases hp
    have HP:=hid hp
    clear hp
    go_wp2
    go_roundw
    case rel=>exact⟨m+1,y,q+q2,hma,hy,hyn,by go_num,rfl,by simp⟩
    case measure=>simp[intOf]<;>omega
  ·obtain rfl:a=x:=by omega
   go_wp2
   go_ret
   exact⟨rfl,q,rfl⟩
end Go.Proofs.YtnnaadmegeeinaaGreatDoor
namespace Go.Proofs.YtnnaadmegeeinaaGreatDoor
open Go.RowKit
section
variable {α:Type} (lt:α→α→Bool) (d:α)
def insJ:Nat→List α→List α
 |0,X=>X
 |j+1,X=>if lt (X.getD (j+1) d) (X.getD j d)=true then insJ j ((X.set (j+1) (X.getD j d)).set j (X.getD (j+1) d))else X
def insI:Nat→List α→List α
 |0,X=>X
 |k+1,X=>insJ lt d k (insI k X)
theorem insJ_len:∀(j:Nat) (X:List α),(insJ lt d j X).length=X.length
 |0,_=>rfl
 |j+1,X=>by
  rw[insJ]
  split
  ·rw[insJ_len j];simp
  ·rfl
theorem insI_len:∀(k:Nat) (X:List α),(insI lt d k X).length=X.length
 |0,_=>rfl
 |k+1,X=>by rw[insI,insJ_len,insI_len k]
theorem insI_one (X:List α):insI lt d 1 X=X:=rfl
end
section
variable {α:Type} {lt:α→α→Bool} {d:α}
theorem insJ_split:∀(P:List α) (x:α) (Q:List α),∃A B,P=A++B∧insJ lt d P.length (P++x::Q)=A++x::B++Q∧(∀b∈B,lt x b=true)∧(∀a,A.getLast?=some a→lt x a=false)
 |P,x,Q=>by
  induction h:P.length generalizing P Q with
  |zero=>
   obtain rfl:=List.eq_nil_of_length_eq_zero h
   exact⟨[],[],rfl,rfl,by simp,by simp⟩
  |succ k ih=>
   rcases List.eq_nil_or_concat P with hP|⟨P',p,hP⟩
   ·rw[hP]at h;cases h
   ·have hP:P=P'++[p]:=by rw[hP];simp
    subst hP
    have hk:P'.length=k:=by simpa using h
    have e1:(P'++[p]++x::Q).getD (k+1) d=x:=by
     rw[List.getD_eq_getElem?_getD,List.getElem?_append_right (by simp;omega)]
     simp[hk]
    have e2:(P'++[p]++x::Q).getD k d=p:=by
     rw[List.append_assoc,List.getD_eq_getElem?_getD,List.getElem?_append_right (by omega)]
     simp[hk]
    rw[insJ,e1,e2]
    by_cases hlt:lt x p=true
    ·rw[if_pos hlt]
     have e3:((P'++[p]++x::Q).set (k+1) p).set k x=P'++x::(p::Q):=by
      rw[List.append_assoc,List.set_append_right _ _ (by omega),List.set_append_right _ _ (by omega)]
      simp[hk]
     rw[e3]
     obtain⟨A,B,hAB,h2,h3,h4⟩:=ih P' (p::Q) hk
     refine⟨A,B++[p],by rw[hAB];simp,by rw[h2];simp,fun b hb=> ?_,h4⟩
     rcases List.mem_append.1 hb with hb|hb
     ·exact h3 b hb
     ·simp at hb;rw[hb];exact hlt
    ·rw[if_neg hlt]
     refine⟨P'++[p],[],by simp,by simp,by simp,fun a ha=> ?_⟩
     simp at ha
     rw[←ha]
     simpa using hlt
def Ord (lt:α→α→Bool) (X:List α):Prop:=X.Pairwise fun a b=>lt b a=false
theorem insI_ok (has:∀a b,lt a b=true→lt b a=false) (htr:∀a b c,lt b a=false→lt c b=false→lt c a=false):∀(k:Nat) (X:List α),k≤X.length→∃P Q,insI lt d k X=P++Q∧P.length=k∧Q=X.drop k∧P.Perm (X.take k)∧Ord lt P
 |0,X,_=>⟨[],X,rfl,rfl,rfl,List.Perm.refl _,List.Pairwise.nil⟩
 |k+1,X,hk=>by
  obtain⟨P,Q,h1,h2,h3,h4,h5⟩:=insI_ok has htr k X (by omega)
  rw[insI,h1,h3]
  have hd:X.drop k=X[k]::X.drop (k+1):=List.drop_eq_getElem_cons (by omega)
  rw[hd]
  obtain⟨A,B,hAB,e2,e3,e4⟩:=insJ_split (lt:=lt) (d:=d) P X[k] (X.drop (k+1))
  rw[h2]at e2
  refine⟨A++X[k]::B,X.drop (k+1),e2,?_,rfl,?_,?_⟩
  ·rw[hAB]at h2;simp at h2⊢;omega
  ·rw[List.take_succ_eq_append_getElem (by omega)]
   refine List.perm_middle.trans ?_
   rw[←hAB]
   exact(h4.cons _).trans (List.perm_append_singleton _ _).symm
  ·rw[hAB]at h5
   unfold Ord at h5⊢
   rw[List.pairwise_append]at h5⊢
   obtain⟨q1,q2,q3⟩:=h5
   refine⟨q1,List.pairwise_cons.2 ⟨fun b hb=>has _ _ (e3 b hb),q2⟩,fun a ha b hb=> ?_⟩
   rcases List.mem_cons.1 hb with hb|hb
   ·subst hb
    rcases List.eq_nil_or_concat A with hA|⟨A',z,hA⟩
    ·rw[hA]at ha;cases ha
    ·have hA:A=A'++[z]:=by rw[hA];simp
     subst hA
     have hz:=e4 z (by simp)
     rcases List.mem_append.1 ha with h|h
     ·rw[List.pairwise_append]at q1
      exact htr a z _ (q1.2.2 a h z (by simp)) hz
     ·simp at h;rw[h];exact hz
   ·exact q3 a ha b hb
theorem insI_sorts (has:∀a b,lt a b=true→lt b a=false) (htr:∀a b c,lt b a=false→lt c b=false→lt c a=false) (X:List α):(insI lt d X.length X).Perm X∧Ord lt (insI lt d X.length X):=by
 obtain⟨P,Q,h1,h2,h3,h4,h5⟩:=insI_ok (d:=d) has htr X.length X (Nat.le_refl _)
 rw[List.drop_length]at h3
 rw[List.take_length]at h4
 rw[h1,h3,List.append_nil]
 exact⟨h4,h5⟩
end
end Go.Proofs.YtnnaadmegeeinaaGreatDoor
