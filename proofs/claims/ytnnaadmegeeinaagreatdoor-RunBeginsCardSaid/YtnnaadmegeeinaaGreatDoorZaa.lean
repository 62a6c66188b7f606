/-
  Part 27 of a proof: what it proves stands in the last text.
-/
import Derived.Test.YtnnaadmegeeinaaGreatDoorZz
import Derived.BigRegion
import Derived.Test.YtnnaadmegeeinaaGreatDoorZt
import Derived.Laws.BitsAllLaws
import Derived.Test.YtnnaadmegeeinaaGreatDoorZi
import Derived.Test.YtnnaadmegeeinaaGreatDoorZu
import Derived.Deep.RegionHeld3
set_option linter.unusedVariables false
set_option maxHeartbeats 8000000
set_option maxRecDepth 100000
namespace Go.Proofs.YtnnaadmegeeinaaGreatDoor
open Go.RowKit
structure FOk (P K n:Nat):Prop where
 pr:(P:Int)∈prL
 p2:2≤P
 p61:P≤61
 k1:1≤K
 k6:K≤6
 q64:P^K≤64
 nq:n<P^K
 ord:ordF P K=P^K
 ir:irB P K (dgL P n 7)=true
theorem fa_ok {p k:Int} {low:List Int} (h:faE p k low=0):∃P K n:Nat,p=(P:Int)∧k=(K:Int)∧low=nZ (dgL P n K)∧FOk P K n:=by
 have hq:=fa_ord h
 obtain⟨P,K,rfl,rfl,hpr,hp2,hp61,hk1,hk6,hq64,hord⟩:=ord_pos hq
 have hlen:low.length=K:=by
  refine Classical.byContradiction fun hc=> ?_
  rw[fa_len hq (by simpa using hc)]at h
  cases h
 have hin:∀i,i<low.length→ofF P (low[i]?.getD 0)=false:=fun i hi=>by
  cases e:ofF P (low[i]?.getD 0)with
  |false=>rfl
  |true=>rw[fa_off hq (by simpa using hlen) hi e]at h;cases h
 have h1:=toN_nZ hin
 have h2:=toN_lt (P:=P) (by omega) hin
 have h3:(toN low).length=K:=by rw[toN,List.length_map,hlen]
 have h4:=dgL_num h2
 rw[h3]at h4
 have h5:=num_lt _ h2
 rw[h3]at h5
 refine⟨P,K,numL P (toN low),rfl,rfl,by rw[h4,h1],hpr,hp2,hp61,hk1,hk6,hq64,h5,hord,?_⟩
 have h6:=fa_dg hq (n:=numL P (toN low)) (by rw[hord];exact h5)
 rw[h4,h1,h]at h6
 cases e:irB P K (dgL P (numL P (toN low)) 7)with
 |true=>rfl
 |false=>rw[e]at h6;cases h6
theorem wi_ok {p k:Int} {low es:List Int} (h:wiE p k low es=0):faE p k low=0∧∀x∈es,0≤x∧x<ordF p k:=by
 by_cases hf:faE p k low=0
 ·refine⟨hf,fun x hx=> ?_⟩
  rw[wiE,if_pos hf]at h
  by_cases hc:es.any (ofF (ordF p k))=true
  ·rw[if_pos hc]at h;cases h
  ·have:ofF (ordF p k) x=false:=by
    cases e:ofF (ordF p k) x with
    |false=>rfl
    |true=>exact absurd (List.any_eq_true.2 ⟨x,hx,e⟩) hc
   simp only[ofF,Bool.or_eq_false_iff,decide_eq_false_iff_not]at this
   omega
 ·rw[wi_bad hf]at h
  exact absurd h hf
theorem OI.lit2 (B:Nat) (w:World) (x y:Int) (hb:B≤w.heap.size):OI B (w.alloc (.cells #[.int .i64 x,.int .i64 y] 3)) (.slice (some ⟨w.heap.size,0,none⟩) 2 2) [x,y]:=Ow.lit 3 B w #[.int .i64 x,.int .i64 y] 2 hb rfl (by decide)
def mulR (p k:Int) (low:List Int) (x y:Int):Int:=if wiE p k low [x,y]=0 then(mulF p.toNat k.toNat (toN low) x.toNat y.toNat:Nat)else 0
theorem Mul_any (p k x y:Int) (u:Value) (low:List Int) (w:World) (ip:I64 p) (ik:I64 k) (ix:I64 x) (iy:I64 y) (hp:Prs w) (hu:Sl w u low) (hi64:∀x∈low,I64 x):
 Calls Tryz.prog 104 #[fldV p k u,.int .i64 x,.int .i64 y] w fun e w'=>e= .returned (.tuple #[.int .i64 (mulR p k low x y),.int .i64 (wiE p k low [x,y])])∧Below w.heap.size w w':=by
 have hb0:=((Below.refl w.heap.size w).alloc (Nat.le_refl _) (.cells #[.int .i64 p,.int .i64 k,u] 60)).alloc (by simp) (.cells #[.int .i64 x,.int .i64 y] 3)
 have hsl:=(OI.lit2 0 (w.alloc (.cells #[.int .i64 p,.int .i64 k,u] 60)) x y (by omega)).sl (by simp)
 have HC:=hid (with_any p k u _ low [x,y] _ ip ik (hp.below hb0) (hu.below hb0) hi64 hsl (by intro z hz;simp at hz;rcases hz with rfl|rfl<;>assumption))
 have HS:=hid hb0
 have i4:(Tryz.prog.info? 172).map (·.size)=some 4:=by kernel_rfl
 rw[World.size_alloc]at HC
 clear hb0 hsl
 obtain⟨a,c,e1⟩:=hu.len
 subst e1
 have hlenI:low.length≤17592186044416:=by obtain⟨_,_,_,h,_⟩:=hu.out;omega
 by_cases hz:wiE p k low [x,y]=0
 ·obtain⟨hf,hes⟩:=wi_ok hz
  obtain⟨P,K,n,rfl,rfl,rfl,hF⟩:=fa_ok hf
  have hx:=hes x (by simp)
  have hy:=hes y (by simp)
  rw[hF.ord]at hx hy
  obtain⟨X,rfl⟩:=Int.eq_ofNat_of_zero_le hx.1
  obtain⟨Y,rfl⟩:=Int.eq_ofNat_of_zero_le hy.1
  have hQ64:=hF.q64
  have hx64:X<64:=by omega
  have hy64:Y<64:=by omega
  rw[show mulR (P:Int) (K:Int) (nZ (dgL P n K)) X Y=(mulF P K (dgL P n K) X Y:Nat)by rw[mulR,if_pos hz,toN_of];simp]
  rw[hz]at HC⊢
  unfold opR rmV fldV at HC
  rw[if_pos rfl]at HC
  have HADD:=hid (fun(w1:World) (hb:Below w.heap.size w w1)=>mul_ok P K (ordF (P:Int) (K:Int)) X Y (.slice a (nZ (dgL P n K)).length c) (dgL P n K) w1 (hu.below hb) hF.p2 (by have:=hF.p61;omega) hF.k1 hF.k6 hF.q64 (dgL_len _ _ _) (dgL_lt hF.p2 _) hx64 hy64)
  unfold rmV at HADD
  clear hx hy hes hf hz hF hu hp
  generalize (nZ (dgL P n K)).length=L at*
  generalize ordF (P:Int) (K:Int)=Q at*
  generalize mulF P K (dgL P n K) X Y=R at*
  unfold fldV
  go_enter Tryz.func104,Tryz.ntmps104
  go_wp2_with fail
  refine HC.out.mono ?_
  rintro e w2 ⟨rfl,hb2⟩
  have hB2:=HS.out.trans (hb2.mono HS.out.size)
  have hB3:=hB2.alloc hB2.size (.cells #[.int .i64 (P:Int),.int .i64 (K:Int),.slice a L c,.int .i64 (Q:Int)] 172)
  have r3:=(Arr.new w2 172 [.int .i64 (P:Int),.int .i64 (K:Int),.slice a L c,.int .i64 (Q:Int)]).range
  have HB:=hid hB3
  clear hb2 hB2 HS HC hB3
  go_wp2_with (refine wpList_load_mid rfl 172 _ rfl w2.heap.size 0 rfl [.int .i64 (P:Int),.int .i64 (K:Int),.slice a L c,.int .i64 (Q:Int)] _ r3 Tryz.underlying172 rfl i4 ?_)
  refine(HADD.out _ HB.out).mono ?_
  rintro e w4 ⟨rfl,hb4⟩
  have HB4:=hid (HB.out.trans (hb4.mono HB.out.size))
  go_wp2
  go_ret2
  exact⟨rfl,HB4.out⟩
 ·rw[show mulR p k low x y=0 from if_neg hz]
  unfold opR rm0 rmV fldV at HC
  rw[if_neg hz]at HC
  have hne:(wiE p k low [x,y] !=0)=true:=by simpa using hz
  generalize wiE p k low [x,y]=E at*
  generalize low.length=L at*
  clear hu hp hz
  unfold fldV
  go_enter Tryz.func104,Tryz.ntmps104
  go_wp2_with fail
  refine HC.out.mono ?_
  rintro e w2 ⟨rfl,hb2⟩
  have hB2:=HS.out.trans (hb2.mono HS.out.size)
  have HB:=hid (hB2.alloc hB2.size (.cells #[.int .i64 0,.int .i64 0,.slice none 0 0,.int .i64 0] 172))
  clear hb2 hB2 HS HC
  go_wp2
  go_ret2
  exact⟨rfl,HB.out⟩
end Go.Proofs.YtnnaadmegeeinaaGreatDoor
namespace Go.Proofs.YtnnaadmegeeinaaGreatDoor
open Go.RowKit
section
variable {P K:Nat} (hP:2≤P) (hK6:K≤6)
include hP hK6
theorem add_ent (x y:Nat):((adL P (dgL P x 7) (dgL P y 7) 7).take K).length=K∧∀j,((adL P (dgL P x 7) (dgL P y 7) 7).take K).getD j 0<P:=by
 refine⟨by rw[List.length_take,adL_len];omega,getD_take_lt (adL_lt (by omega) (dgL_lt hP 7) _) K⟩
theorem mulF_lt (low:List Nat) (x y:Nat):mulF P K low x y<P^K:=by
 have:=num_lt _ (getD_take_lt (mlO_lt (P:=P) (K:=K) low (dgL P x 7) (dgL P y 7) (by omega) K) K)
 rw[List.length_take,mlO_len,show min K 7=K by omega]at this
 exact this
end
end Go.Proofs.YtnnaadmegeeinaaGreatDoor
namespace Go.Proofs.YtnnaadmegeeinaaGreatDoor
open Go.RowKit
def lenO (k:Nat) (l:List Int):Bool:=decide (l.length≠k)
theorem lev1_any (k:Nat) (u:Value) (l:List Int) (b:Nat) (w:World) (hu:Sl w u l) (hk:k≤17592186044416) (hc:w.cell? ⟨b,0,none⟩=some (.int .i64 k)):
 Calls Tryz.prog 202 #[u,.pointer (some ⟨b,0,none⟩)] w fun e w'=>e= .returned (.bool (lenO k l))∧w=w':=by
 obtain⟨a,c,N,rfl,hN,hl1,_⟩:=hu.open
 unfold lenO
 rw[hN.out]
 clear hu hN
 by_cases h:N=k
 ·subst h
  have hq:((N:Int) !=(N:Int))=false:=by simp
  rw[decide_eq_false (fun h=>h rfl)]
  go_enter Tryz.func202,Tryz.ntmps202
  go_wp2
  go_ret
  exact⟨rfl,rfl⟩
 ·have hq:((N:Int) !=(k:Int))=true:=by rw[bne_iff_ne];omega
  rw[decide_eq_true h]
  go_enter Tryz.func202,Tryz.ntmps202
  go_wp2
  go_ret
  exact⟨rfl,rfl⟩
def IdxL (k:Nat) (ll:List (List Int)) (r:Int):Prop:=if ll.any (lenO k)=true then 0≤r else r= -1
theorem levx_any (k:Nat) (v:Value) (ll:List (List Int)) (b:Nat) (w:World) (hv:RL w v ll) (hk:k≤17592186044416) (hc:w.cell? ⟨b,0,none⟩=some (.int .i64 k)):
 Calls Tryz.prog 252 #[v,.func (.func 202) #[] #[.pointer (some ⟨b,0,none⟩)]] w fun e w'=>(∃r:Int,e= .returned (.int .i64 r)∧IdxL k ll r)∧w=w':=by
 obtain⟨a,c,N,rfl,hN,hl1,hl2⟩:=hv.open
 have HT:=hid (fun u l hu=>lev1_any k u l b w hu hk hc)
 have he:∀args w,(callFunc 202 args).run Tryz.prog w= .ok (.enter 202 args) w:=run_callFunc_own Tryz.func202 (by kernel_rfl) (by kernel_rfl)
 have HY:Hid (∀i:Nat,i<N→lenO k (ll.getD i [])=true→∀r:Int,0≤r→IdxL k ll r):=hid (by
  intro i hi hp r hr
  unfold IdxL
  rw[if_pos]
  ·exact hr
  ·rw[List.any_eq_true]
   rw[List.getD_eq_getElem?_getD,List.getElem?_eq_getElem (by rw[hN.out];exact hi)]at hp
   exact⟨_,List.getElem_mem _,hp⟩)
 have HZ:Hid ((∀i:Nat,i<N→lenO k (ll.getD i [])=false)→IdxL k ll (-1)):=hid (by
  intro h
  unfold IdxL
  rw[if_neg]
  rw[List.any_eq_true]
  rintro⟨x,hx,hp⟩
  obtain⟨i,hi,rfl⟩:=List.getElem_of_mem hx
  have:=h i (by rw[←hN.out];exact hi)
  rw[List.getD_eq_getElem?_getD,List.getElem?_eq_getElem hi,Option.getD_some,hp]at this
  cases this)
 clear hv hN hc
 go_enter Tryz.func252,Tryz.ntmps252
 go_wp2
 go_loop [8] (fun iv=>∃i:Nat,i≤N∧iv= .int .i64 i∧Hid (∀j:Nat,j<i→lenO k (ll.getD j [])=false)) (fun iv=>N-(intOf iv).toNat)
 case atStart=>exact⟨0,Nat.zero_le _,rfl,hid (fun j hj=>by omega)⟩
 case round=>
  obtain⟨i,hi,rfl,hno⟩:=hrel
  by_cases hlt:i<N
  ·have hii:(i:Int)<(N:Int):=by omega
   obtain⟨g,off,rfl,hg,hc⟩:=hl2 (by omega)
   obtain⟨u,c1,hu⟩:=hc i hlt
   have HTU:=hid (HT.out u _ hu)
   have HYI:=hid (HY.out i hlt)
   obtain⟨a2,c2,M,rfl,_,_,_⟩:=hu.open
   clear hc hl2 hu HT HY
   go_wp2_with fail
   refine HTU.out.mono ?_
   rintro e w' ⟨rfl,rfl⟩
   cases hp:lenO k (ll.getD i [])with
   |false=>
    have HP:=hid hp
    clear hp
    go_wp2
    go_round
    case rel=>exact⟨i+1,by omega,by go_num,hid (fun j hj=>by
     by_cases e:j=i
     ·rw[e];exact HP.out
     ·exact hno.out j (by omega))⟩
    case measure=>simp[intOf]<;>omega
   |true=>
    have HP:=hid (HYI.out hp)
    clear hp
    go_wp2
    go_ret
    exact⟨⟨_,rfl,HP.out _ (by omega)⟩,rfl⟩
  ·obtain rfl:i=N:=by omega
   have hii:¬(i:Int)<(i:Int):=by omega
   have HZ2:=hid (HZ.out hno.out)
   clear HZ hno HY
   go_wp2
   go_ret
   exact⟨⟨_,rfl,HZ2.out⟩,rfl⟩
theorem levc_any (k:Nat) (v:Value) (ll:List (List Int)) (b:Nat) (w:World) (hv:RL w v ll) (hk:k≤17592186044416) (hc:w.cell? ⟨b,0,none⟩=some (.int .i64 k)):
 Calls Tryz.prog 201 #[v,.func (.func 202) #[] #[.pointer (some ⟨b,0,none⟩)]] w fun e w'=>e= .returned (.bool (ll.any (lenO k)))∧w=w':=by
 have H:=hid (levx_any k v ll b w hv hk hc)
 clear hv hc
 go_enter Tryz.func201,Tryz.ntmps201
 go_wp2_with fail
 refine H.out.mono ?_
 rintro e w' ⟨⟨r,rfl,hr⟩,rfl⟩
 unfold IdxL at hr
 cases hp:ll.any (lenO k)with
 |true=>
  rw[hp]at hr
  have hr2:0≤r:=by simpa using hr
  have HP:=hid hp
  clear hr hp
  go_wp2
  go_ret
  exact⟨by rw[HP.out];rfl,rfl⟩
 |false=>
  rw[hp]at hr
  have hr2:r<0:=by have:r= -1:=by simpa using hr
                   omega
  have HP:=hid hp
  clear hr hp
  go_wp2
  go_ret
  have hr3:¬0≤r:=by omega
  exact⟨congrArg (fun b=>Ending.returned (.bool b)) ((decide_eq_false hr3).trans HP.out.symm),rfl⟩
def mskV (s:Nat):Value:= .int .u64 (s:Int)
theorem infoSet:(Tryz.prog.info? 189).map (fun i=>(i.zero,i.size,i.bytes))=some (some (.int .u64 0),1,8):=by kernel_rfl
theorem undSets:Tryz.prog.underlying 184=some (.slice 189):=by kernel_rfl
theorem ds_shl {p:Nat} (h:p<40):IntKind.u64.wrap (2^p:Int)=((2^p:Nat):Int):=by
 have h1:2^p<2^40:=Nat.pow_lt_pow_right (by decide) h
 have h2:((2^p:Nat):Int)=(2:Int)^p:=by norm_cast
 rw[←h2]
 rw[show 2^40=1099511627776 by decide]at h1
 clear h2
 generalize 2^p=y at*
 exact IntWalk.u64_in _ (by omega)
theorem dssets_any (P:Nat) (v:Value) (bs:List (List Nat)) (w:World) (hP:P≤40) (hn:bs.length≤200) (hv:RL w v (bs.map ofN)) (hb:∀b∈bs,∀x∈b,x<P):
 Calls Tryz.prog 203 #[.agg #[.int .i64 P,v]] w fun e w'=>(∃u,e= .returned u∧Ow 189 w.heap.size w' u (bs.map fun b=>mskV (mkO 0 b)))∧Below w.heap.size w w':=by
 have hb0:Below w.heap.size w (w.alloc (.cells #[.int .i64 P,v] 103)):=(Below.refl _ _).alloc (Nat.le_refl _) _
 have hcs:=ds_box w P v
 have HCS:=hid hcs
 have hv1:=hv.below hb0
 have HB0:=hid hb0
 obtain⟨a,c,N,rfl,hN,hl1,hl2⟩:=hv1.open
 rw[List.length_map]at hN
 have HL3:Hid (0<N→∃g off,a=some ⟨g,off,none⟩∧∀i,i<N→∃u,Sl (w.alloc (.cells #[.int .i64 P,.slice a N c] 103)) u (ofN (bs.getD i []))∧∀wr,Below (w.heap.size+1) (w.alloc (.cells #[.int .i64 P,.slice a N c] 103)) wr→wr.cell? ⟨g,off+i,none⟩=some u):=hid (fun h=>by
  obtain⟨g,off,q1,q2,q3⟩:=hl2 h
  exact⟨g,off,q1,fun i hi=>by
   obtain⟨u,u1,u2⟩:=q3 i hi
   rw[map_ofN_at]at u2
   exact⟨u,u2,fun wr h=>(h.cell (p:=⟨g,off+i,none⟩) (by simpa using q2)).trans u1⟩⟩)
 have HMm:Hid (∀i,i<N→∀x∈bs.getD i [],x<P):=hid (fun i hi=>hb _ (getD_mem' (by rw[hN.out];exact hi)))
 have HMS:Hid (∀i,i<N→(bs.take (i+1)).map (fun b=>mskV (mkO 0 b))=(bs.take i).map (fun b=>mskV (mkO 0 b))++[mskV (mkO 0 (bs.getD i []))]):=hid (fun i hi=>by
  rw[List.take_add_one,List.getElem?_eq_getElem (by rw[hN.out];exact hi),List.map_append,List.getD_eq_getElem?_getD,List.getElem?_eq_getElem (by rw[hN.out];exact hi)]
  rfl)
 have HML:Hid (∀i,i≤N→((bs.take i).map (fun b=>mskV (mkO 0 b))).length=i):=hid (fun i hi=>by
  rw[List.length_map,List.length_take]
  have:=hN.out
  omega)
 have HMN:Hid ((bs.take N).map (fun b=>mskV (mkO 0 b))=bs.map (fun b=>mskV (mkO 0 b))):=hid (by rw[List.take_of_length_le (by have:=hN.out;omega)])
 have hN2:N≤200:=by rw[←hN.out];exact hn
 clear hv hb0 hb hv1 hl2 hN hcs
 have HM0:Hid ((bs.take 0).map (fun b=>mskV (mkO 0 b))=[]):=hid rfl
 obtain⟨W0,HW0⟩:∃W0,Hid (w.alloc (.cells #[.int .i64 P,.slice a N c] 103)=W0):=⟨_,hid rfl⟩
 have HS0:Hid (W0.heap.size=w.heap.size+1):=hid (by rw[←HW0.out];simp)
 rw[HW0.out]at HL3 HB0
 clear HCS
 go_enter Tryz.func203,Tryz.ntmps203
 go_wp2
 rw[HW0.out]
 clear HW0
 go_loopw [12,3] (fun iv ov wr=>∃i:Nat,i≤N∧iv= .int .i64 i∧Ow 189 (w.heap.size+1) wr ov ((bs.take i).map (fun b=>mskV (mkO 0 b)))∧Below (w.heap.size+1) W0 wr) (fun iv _ _=>N-(intOf iv).toNat)
 case atStart=>exact⟨0,Nat.zero_le _,rfl,Ow.nil _ _ _,Below.refl _ _⟩
 case round=>
  obtain⟨i,hiN,rfl,ho,hb⟩:=hrel
  by_cases hi:i<N
  ·have hii:(i:Int)<(N:Int):=by omega
   obtain⟨g,off,rfl,HU⟩:=HL3.out (by omega)
   obtain⟨u,hu,hc⟩:=HU i hi
   have c1:=hc wr hb
   have hu3:=hu
   obtain⟨a2,c2,M,rfl,hM,hm1,hm2⟩:=hu3.open
   rw[show(ofN (bs.getD i [])).length=(bs.getD i []).length from ofN_len _]at hM
   have HMS2:=hid (HMS.out i hi)
   have HML2:=hid (HML.out i hiN)
   have hmm:=HMm.out i hi
   have HC2:Hid (0<M→∃b off,a2=some ⟨b,off,none⟩∧∀j,j<M→wr.cell? ⟨b,off+j,none⟩=some (.int .i64 (((bs.getD i []).getD j 0:Nat):Int))):=hid (fun h0=>by
    obtain⟨b,off,e1,e2,e3⟩:=hm2 h0
    exact⟨b,off,e1,fun i hi=>by
     rw[hb.cell (p:=⟨b,off+i,none⟩) (by have:=HS0.out;show b<_;omega),e3 i hi,←ofN_get,List.getD_eq_getElem?_getD (l:=ofN _)]⟩)
   have HMM:Hid (∀j,j<M→(bs.getD i []).getD j 0<P):=hid (fun j hj=>hmm _ (by
    rw[List.getD_eq_getElem?_getD (i:=j),List.getElem?_eq_getElem (by rw[hM.out];exact hj)]
    exact List.getElem_mem _))
   have HMK:Hid (∀j,j<M→mkO 0 ((bs.getD i []).take (j+1))=mkO 0 ((bs.getD i []).take j)|||2^(bs.getD i []).getD j 0):=hid (fun j hj=>mkO_snoc (by rw[hM.out];exact hj))
   have HMB:Hid (∀j,mkO 0 ((bs.getD i []).take j)<1099511627776):=hid (fun j=>mkO_lt (P:=40) (by decide) (fun x hx=>by
    have:=hmm x (List.mem_of_mem_take hx)
    omega))
   have HMA:Hid (mkO 0 ((bs.getD i []).take M)=mkO 0 (bs.getD i [])):=hid (by rw[←hM.out,List.take_length])
   have HY:=hid (And.intro ho hb)
   clear HU hc hu hu3 hm2 hmm hM ho hb
   generalize bs.getD i []=l at*
   obtain⟨V,hV⟩:∃V,V=wr:=⟨wr,rfl⟩
   subst hV
   go_wp2
   go_loopw [18,6] (fun jv sv wr=>∃j:Nat,j≤M∧jv= .int .i64 j∧sv=mskV (mkO 0 (l.take j))∧Hid (wr=V)) (fun jv _ _=>M-(intOf jv).toNat)
   case atStart=>exact⟨0,Nat.zero_le _,rfl,rfl,hid rfl⟩
   case round=>
    obtain⟨j,hjM,rfl,rfl,HV⟩:=hrel
    obtain rfl:=HV.out
    by_cases hj:j<M
    ·have hjj:(j:Int)<(M:Int):=by omega
     obtain⟨b,off2,rfl,hcell⟩:=HC2.out (by omega)
     have d1:=hcell j hj
     have hx:=HMM.out j hj
     have hsj:=HMK.out j hj
     have hb1:=HMB.out j
     have hb2:=HMB.out (j+1)
     rw[hsj]at hb2
     generalize mkO 0 (l.take j)=s at*
     generalize l.getD j 0=x at*
     have hsh:=ds_shl (p:=x) (by omega)
     have h2x:2^x<2^40:=Nat.pow_lt_pow_right (by decide) (by omega)
     rw[show 2^40=1099511627776 by decide]at h2x
     have hor:=u64_or_nat s (2^x) (by omega) (by omega)
     have hor2:bits .or .u64 (s:Int) ((2:Int)^x)=((s|||2^x:Nat):Int):=by
      rw[←hor,show((2^x:Nat):Int)=(2:Int)^x by norm_cast]
     have HOR:=hid hor2
     have HSJ:=hid hsj
     unfold mskV
     clear hcell hsj hor hor2
     go_wp2
     go_roundw
     case rel=>exact⟨j+1,by omega,by go_num,by rw[HSJ.out];first|exact congrArg (Value.int .u64) HOR.out|rfl,by first|exact hid rfl|exact hid trivial⟩
     case measure=>simp[intOf]<;>omega
    ·obtain rfl:j=M:=by omega
     have hjj:¬(j:Int)<(j:Int):=by omega
     rw[HMA.out]
     have hoV:=HY.out.1
     have hbV:=HY.out.2
     have hlen:=HML2.out
     have HO1:=hid hoV
     have hsz:w.heap.size+1≤wr.heap.size:=by have:=hbV.size;have:=HS0.out;omega
     have HB1:=hid hbV
     clear hoV hbV
     have ho:=HO1.out
     rw[←HML2.out]at hlen
     have hl1000:((bs.take i).map (fun b=>mskV (mkO 0 b))).length≤1000000000000:=by rw[HML2.out];omega
     have HMS3:=HMS2.out
     generalize (bs.take i).map (fun b=>mskV (mkO 0 b))=xs at*
     obtain⟨ao,co,eo⟩:=Ow.len ho
     subst eo
     unfold mskV
     go_wp2_with (at_builtin;refine wpList_app wr _ _ 184 189 (.int .u64 0) 8 rfl rfl undSets infoSet rfl (by decide) (w.heap.size+1) _ xs rfl ho rfl rfl hl1000 hsz ?_;intro g7 c7 w4 hown1 hg1 hg2 hg3)
     have hb4:Below (w.heap.size+1) W0 w4:=HB1.out.grown hg1 hsz (fun k e=>(ho.lt k e).1)
     rw[show xs++[Value.int .u64 ((mkO 0 l:Nat):Int)]=(bs.take (i+1)).map (fun b=>mskV (mkO 0 b))from HMS3.symm]at hown1
     clear HMS3
     go_roundw
     case rel=>exact⟨i+1,by omega,by go_num,hown1,hb4⟩
     case measure=>simp[intOf]<;>omega
  ·obtain rfl:i=N:=by omega
   have hii:¬(i:Int)<(i:Int):=by omega
   rw[HMN.out]at ho
   have HY:=hid (And.intro ho hb)
   clear ho hb
   go_wp2
   go_ret
   exact⟨⟨_,rfl,HY.out.1.mono (by omega)⟩,HB0.out.trans (HY.out.2.mono (by omega))⟩
def ciP (n k:Nat):List (Nat×Nat):=(List.range k).map fun i=>(i+1,n-1-(i+1))
def ciL (n:Nat):List (List Int):=arR (n-1) (ciP n (n/2-1)) (n-1)
theorem ciP_succ (n k:Nat):ciP n (k+1)=ciP n k++[(k+1,n-1-(k+1))]:=by simp[ciP,List.range_succ]
theorem ciP_len (n k:Nat):(ciP n k).length=k:=by simp[ciP]
theorem ciP_lt {n k:Nat} (h:k+1≤n/2):∀p∈ciP n k,p.1<n-1∧p.2<n-1:=by
 intro p hp
 simp only[ciP,List.mem_map,List.mem_range]at hp
 obtain⟨i,hi,rfl⟩:=hp
 simp only
 omega
theorem Circle_bad (n:Int) (w:World) (h:tmB n=false):
 Calls Tryz.prog 133 #[.int .i64 n] w fun e w'=>e= .returned (.tuple #[.slice none 0 0,.int .i64 1])∧w=w':=by
 have HT:=hid (teams_any n w)
 rw[h]at HT
 clear h
 go_enter Tryz.func133,Tryz.ntmps133
 go_wp2_with fail
 refine HT.out.mono ?_
 rintro e w1 ⟨rfl,rfl⟩
 go_wp2
 go_ret2
 exact⟨rfl,rfl⟩
theorem Circle_ok (n:Nat) (w:World) (h:tmB n=true):
 Calls Tryz.prog 133 #[.int .i64 n] w fun e w'=>(∃u,e= .returned (.tuple #[u,.int .i64 0])∧OL w.heap.size w'.heap.size w' u (ciL n))∧Below w.heap.size w w':=by
 have HT:=hid (teams_any n w)
 rw[h]at HT
 obtain⟨m,hm,h2,h16,hev⟩:=tm_of h
 obtain rfl:n=m:=by omega
 clear h hm
 have hdv:(n:Int).tdiv 2=((n/2:Nat):Int):=(Int.ofNat_tdiv n 2).symm
 have HS:=hid (ciP_succ n)
 have HLN:=hid (ciP_len n)
 have HRO:=hid (fun(u:Value) (w1:World) (hl:PR w1 u (ciP n (n/2-1)))=>rounds_ok (n-1) u (ciP n (n/2-1)) w1 (by omega) (by omega) hl (ciP_lt (by omega)))
 have HCI:Hid (arR (n-1) (ciP n (n/2-1)) (n-1)=ciL n):=hid rfl
 obtain⟨h,hh⟩:∃h,h=n/2:=⟨_,rfl⟩
 have hn2:n=2*h:=by omega
 have HN2:=hid hn2
 have hh1:1≤h:=by omega
 have hh8:h≤8:=by omega
 have hcs:((n-1:Nat):Int)=(n:Int)-1:=by omega
 have HCS:=hid hcs
 rw[←hh]at hdv HRO HCI
 clear hh hcs hn2
 generalize ciL n=CL at*
 go_enter Tryz.func133,Tryz.ntmps133
 go_wp2_with fail
 refine HT.out.mono ?_
 rintro e w1 ⟨rfl,rfl⟩
 go_wp2
 go_loopw [4,5] (fun s i wr=>∃k:Nat,k+1≤h∧i= .int .i64 ((k:Int)+1)∧OP w.heap.size wr s (ciP n k)∧Below w.heap.size w wr) (fun _ i _=>h-(intOf i).toNat)
 case atStart=>exact⟨0,by omega,rfl,OP.nil _ _,Below.refl _ _⟩
 case round=>
  obtain⟨k,hk,rfl,ho,hb⟩:=hrel
  by_cases hlt:k+1<h
  ·have hci:(k:Int)+1<(h:Int):=by omega
   have hln:(ciP n k).length≤1000000000000:=by rw[HLN.out];omega
   have hB:w.heap.size≤wr.heap.size:=hb.size
   have HB:=hid hb
   have hc2:((n-1-(k+1):Nat):Int)=(n:Int)-1-((k:Int)+1):=by have:=HN2.out;omega
   have HC2:=hid hc2
   clear hb hc2
   go_wp2_with (at_builtin;refine wpList_appp (k+1,n-1-(k+1)) wr _ _ 201 rfl rfl Tryz.underlying201 Tryz.info202 w.heap.size _ _ rfl ho rfl hln hB ?_ (hc1:=by rw[HC2.out];exact pl1 _ _ _ _) (hc0:=pl0 _ _ _ _);intro g3 c3 w4 hown1 hg1 hg2 hg3)
   have HX:=hid (And.intro hown1 (HB.out.grown hg1 hB (fun b e=>(ho.lt b e).1)))
   clear hown1 hg1 hg2 hg3 ho
   go_roundw
   case rel=>exact⟨k+1,by omega,by go_num,by rw[HS.out];exact HX.out.1,HX.out.2⟩
   case measure=>simp[intOf]<;>omega
  ·obtain rfl:h=k+1:=by omega
   have hci:¬((k:Int)+1<((k+1:Nat):Int)):=by omega
   have HC:=hid (HRO.out u4 wr (ho.pr (by rw[HLN.out];omega)))
   rw[HCS.out]at HC
   have HB:=hid hb
   clear ho hb
   go_wp2_with fail
   refine HC.out.mono ?_
   rintro e w2 ⟨⟨u2,rfl,hu2⟩,hb2⟩
   rw[HCI.out]at hu2
   have HX:=hid (And.intro (hu2.mono HB.out.size (Nat.le_refl _)) (HB.out.trans (hb2.mono HB.out.size)))
   clear hu2 hb2
   go_wp2
   go_ret2
   exact⟨⟨_,rfl,HX.out.1⟩,HX.out.2⟩
end Go.Proofs.YtnnaadmegeeinaaGreatDoor
