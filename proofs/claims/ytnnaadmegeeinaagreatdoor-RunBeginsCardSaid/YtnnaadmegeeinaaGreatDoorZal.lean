/-
  Part 38 of a proof: what it proves stands in the last text.
-/
import Derived.Test.YtnnaadmegeeinaaGreatDoorZak
import Derived.Test.YtnnaadmegeeinaaGreatDoorZc
import Derived.WalkLawsBesides
import Derived.Test.YtnnaadmegeeinaaGreatDoorZh
import Derived.Test.YtnnaadmegeeinaaGreatDoorZo
set_option linter.unusedVariables false
set_option maxHeartbeats 8000000
set_option maxRecDepth 100000
namespace Go.Proofs.YtnnaadmegeeinaaGreatDoor
open Go.RowKit
def numP (s:List UInt8):Option Nat:=
 match Lib.atoiAll s with
 | .ok n=>if s.length≤9∧0≤n∧Lib.itoa n=s then some n.toNat else none
 |_=>none
def numsP (s:List UInt8):Option (List Nat):=if s=[45]then some []else(spl 44 s).mapM numP
def rowsP (s:List UInt8):Option (List (List Nat)):=if s=[45]then some []else(spl 47 s).mapM fun w=>if w=[45]then none else numsP w
theorem atoi_I64 {l:List UInt8} {v:Int} (h:Lib.atoiAll l= .ok v):I64 v:=by
 unfold Lib.atoiAll at h
 split at h
 ·cases h
 ·rename_i c r
  simp only at h
  split at h
  ·cases h
  ·cases h
  ·rename_i u hu
   split at h
   ·cases h
   ·split at h
    ·cases h
    ·cases h
     unfold I64
     split<;>omega
theorem numP_ok {s:List UInt8} {n:Int} (h:Lib.atoiAll s= .ok n):numP s=if s.length≤9∧0≤n∧Lib.itoa n=s then some n.toNat else none:=by
 unfold numP
 rw[h]
theorem numP_no {s:List UInt8} (h:∀n,Lib.atoiAll s≠ .ok n):numP s=none:=by
 unfold numP
 rcases e:Lib.atoiAll s with k|_|_
 ·exact absurd e (h k)
 ·rfl
 ·rfl
theorem numP_lt {s:List UInt8} {n:Nat} (h:numP s=some n):n<1000000000:=by
 unfold numP at h
 split at h
 ·rename_i m hm
  split at h
  ·rename_i hc
   obtain⟨h1,h2,h3⟩:=hc
   obtain rfl:=Option.some.inj h
   have h4:=Lib.lt_pow_nDigits m.toNat
   have h5:Lib.nDigits m.toNat≤9:=by
    rw[←Lib.decDigits_length]
    unfold Lib.itoa at h3
    rw[if_neg (by omega)]at h3
    rw[h3];exact h1
   have h6:(10:Nat)^Lib.nDigits m.toNat≤10^9:=Nat.pow_le_pow_right (by omega) h5
   have h7:(10:Nat)^9=1000000000:=by decide
   omega
  ·cases h
 ·cases h
def badE (l:List UInt8):Ending:= .panicked [{v:= .iface 36 (.string (str l)),recovered:=false}]
def NumEnd' (s:List UInt8) (w:World) (e:Ending) (w':World):Prop:=
 ((∃n:Nat,numP s=some n∧e= .returned (.int .i64 n))∨(numP s=none∧e=badE [98,97,100]))∧Below w.heap.size w w'
theorem number_any (s:List UInt8) (w:World) (hs:s.length≤10000) (hW:RunW w):
 Calls Tryz.prog 33 #[.string (str s)] w (NumEnd' s w):=by
 have HA:=hid (atoi_w s w (by omega) hW.lib)
 have HI:=hid (fun(v:Int) (w1:World) (hv:I64 v) (hb:Below w.heap.size w w1)=>itoa_w v w1 hv (hW.below hb))
 have HOK:Hid (∀n,Lib.atoiAll s= .ok n→numP s=if s.length≤9∧0≤n∧Lib.itoa n=s then some n.toNat else none):=hid (fun n h=>numP_ok h)
 have HNO:Hid ((∀n,Lib.atoiAll s≠ .ok n)→numP s=none):=hid numP_no
 have HG1:Hid (∀(n:Nat) w',numP s=some n→Below w.heap.size w w'→NumEnd' s w (.returned (.int .i64 n)) w'):=hid (fun n w' h hb=>⟨.inl ⟨n,h,rfl⟩,hb⟩)
 have HG2:Hid (∀w',numP s=none→Below w.heap.size w w'→NumEnd' s w (badE [98,97,100]) w'):=hid (fun w' h hb=>⟨.inr ⟨h,rfl⟩,hb⟩)
 have hsz:=str_size s
 clear hW
 generalize NumEnd' s w=G at*
 have hbad:badE [98,97,100]= .panicked [{v:= .iface 36 (.string ⟨#[98,97,100]⟩),recovered:=false}]:=rfl
 rw[hbad]at HG2
 clear hbad
 go_enter Tryz.func33,Tryz.ntmps33
 go_wp2_with fail
 refine HA.out.mono ?_
 rintro e w1 ⟨hA,hb1⟩
 have HB:=hid hb1
 have hbs:=hb1.size
 clear hb1 HA
 rcases hA with⟨v,hv,rfl⟩|⟨hno,v,q,rfl⟩
 ·have HV:=hid (HOK.out v hv)
  have hi64:=atoi_I64 hv
  have HI2:=hid (HI.out v w1 hi64 HB.out)
  unfold I64 at hi64
  clear hv HI HOK HNO
  by_cases h9:s.length≤9
  ·have h9i:¬(9:Int)<(s.length:Int):=by omega
   by_cases h0:v<0
   ·have HZ:=hid (HG2.out w1 (HV.out.trans (if_neg (by omega))) HB.out)
    go_wp2
    exact⟨rfl,HZ.out⟩
   ·obtain⟨n,rfl⟩:=Int.eq_ofNat_of_zero_le (show 0≤v by omega)
    go_wp2_with fail
    refine HI2.out.mono ?_
    rintro e w2 ⟨rfl,hb2⟩
    have HB2:=hid (HB.out.trans (hb2.mono hbs))
    clear hb2
    by_cases he:Lib.itoa (n:Int)=s
    ·have HZ:=hid (HG1.out n w2 (HV.out.trans (if_pos ⟨h9,by omega,he⟩)) HB2.out)
     rw[he]
     clear he
     go_wp2
     exact HZ.out
    ·have HZ:=hid (HG2.out w2 (HV.out.trans (if_neg (fun h=>he h.2.2))) HB2.out)
     have hq:((str (Lib.itoa (n:Int))).toList==(str s).toList)=false:=by
      rw[Lib.toList_data,Lib.toList_data,str_data,str_data,beq_eq_false_iff_ne]
      exact he
     clear he HV
     generalize Lib.itoa (n:Int)=t at*
     go_wp2
     exact⟨rfl,HZ.out⟩
  ·have h9i:(9:Int)<(s.length:Int):=by omega
   have HZ:=hid (HG2.out w1 (HV.out.trans (if_neg (by omega))) HB.out)
   go_wp2
   exact⟨rfl,HZ.out⟩
 ·have HZ:=hid (HG2.out w1 (HNO.out hno) HB.out)
  clear hno HI HOK HNO
  go_wp2
  exact⟨rfl,HZ.out⟩
def NumsEnd (s:List UInt8) (w:World) (e:Ending) (w':World):Prop:=
 ((∃l u,numsP s=some l∧e= .returned u∧OI w.heap.size w' u (l.map fun x:Nat=>(x:Int)))∨(numsP s=none∧e=badE [98,97,100]))∧Below w.heap.size w w'
def intsN (l:List Nat):List Int:=l.map fun x:Nat=>(x:Int)
theorem mapM_len {α β:Type} {f:α→Option β}:∀{l:List α} {r:List β},l.mapM f=some r→r.length=l.length
 |[],r,h=>by cases h;rfl
 |a::l,r,h=>by
  rw[List.mapM_cons]at h
  cases ha:f a with
  |none=>simp[ha]at h
  |some b=>
   cases hl:l.mapM f with
   |none=>simp[ha,hl]at h
   |some q=>
    simp[ha,hl]at h
    subst h
    simp[mapM_len hl]
theorem mapM_app {α β:Type} {f:α→Option β}:∀{a b:List α} {p:List β},a.mapM f=some p→(a++b).mapM f=(b.mapM f).map (p++ ·)
 |[],b,p,h=>by
  cases h
  rw[List.nil_append]
  cases b.mapM f<;>rfl
 |x::a,b,p,h=>by
  rw[List.mapM_cons]at h
  rw[List.cons_append,List.mapM_cons]
  cases hx:f x with
  |none=>simp[hx]at h
  |some y=>
   cases hl:a.mapM f with
   |none=>simp[hx,hl]at h
   |some q=>
    simp[hx,hl]at h
    subst h
    rw[mapM_app hl]
    cases b.mapM f<;>rfl
theorem mapM_step {α β:Type} {f:α→Option β} {l:List α} {i:Nat} {p:List β} (h:(l.take i).mapM f=some p) (hi:i<l.length):(f l[i]=none→l.mapM f=none)∧(∀y,f l[i]=some y→(l.take (i+1)).mapM f=some (p++[y])):=by
 constructor
 ·intro hn
  have e:l=l.take i++l[i]::l.drop (i+1):=by rw[←List.drop_eq_getElem_cons hi,List.take_append_drop]
  rw[e,mapM_app h,List.mapM_cons,hn]
  rfl
 ·intro y hy
  rw[List.take_add_one,List.getElem?_eq_getElem hi,Option.toList_some,mapM_app h,List.mapM_cons,hy]
  rfl
theorem numbers_any (s:List UInt8) (w:World) (hs:s.length≤10000) (hW:RunW w):
 Calls Tryz.prog 34 #[.string (str s)] w (NumsEnd s w):=by
 have HS:=hid (split_w s w (by omega) hW.lib 44)
 have HN:=hid (fun(t:List UInt8) (w1:World) (ht:t.length≤10000) (hb:Below w.heap.size w w1)=>number_any t w1 ht (hW.below hb))
 have HPC:=hid (spl_piece 44 s)
 have hle:=spl_le 44 s
 have HG1:Hid (∀l u w',numsP s=some l→OI w.heap.size w' u (intsN l)→Below w.heap.size w w'→NumsEnd s w (.returned u) w'):=hid (fun l u w' h ho hb=>⟨.inl ⟨l,u,h,rfl,ho⟩,hb⟩)
 have HG2:Hid (∀w',numsP s=none→Below w.heap.size w w'→NumsEnd s w (badE [98,97,100]) w'):=hid (fun w' h hb=>⟨.inr ⟨h,rfl⟩,hb⟩)
 have HP:Hid (¬s=[45]→numsP s=(spl 44 s).mapM numP):=hid (fun h=>if_neg h)
 have HP0:Hid (s=[45]→numsP s=some []):=hid (fun h=>if_pos h)
 clear hW
 generalize NumsEnd s w=G at*
 go_enter Tryz.func34,Tryz.ntmps34
 by_cases h45:s=[45]
 ·have HZ:=hid (HG1.out [] (.slice none 0 0) w (HP0.out h45) (OI.nil _ _) (Below.refl _ _))
  have hq:((str s).toList==[45])=true:=by rw[h45,Lib.toList_data];rfl
  clear h45
  go_wp2
  exact HZ.out
 ·have hq:((str s).toList==[45])=false:=by rw[Lib.toList_data,str_data,beq_eq_false_iff_ne];exact h45
  have HP2:=hid (HP.out h45)
  clear h45 HP HP0
  generalize spl 44 s=ws at*
  obtain⟨NW,hNW⟩:∃NW,ws.length=NW:=⟨_,rfl⟩
  rw[hNW]at HS hle
  have HNW:=hid hNW
  clear hNW
  go_wp2_with fail
  refine HS.out.mono ?_
  rintro e w4 ⟨gs,rfl,hsp,hb4⟩
  have HS4:=hid (And.intro hsp hb4)
  have hw4:=hb4.size
  clear hsp hb4 HS
  go_wp2_with fail
  obtain⟨W4,hW4⟩:∃W4,W4=w4:=⟨_,rfl⟩
  subst hW4
  go_loopw [3,5,11] (fun lv _ iv wr=>∃(t:Nat) (l:List Nat),iv= .int .i64 t∧t≤NW∧OI W4.heap.size wr lv (intsN l)∧Hid ((ws.take t).mapM numP=some l)∧l.length=t∧Below W4.heap.size W4 wr) (fun _ _ iv _=>NW-(intOf iv).toNat)
  case atStart=>exact⟨0,[],rfl,Nat.zero_le _,OI.nil _ _,hid rfl,rfl,Below.refl _ _⟩
  case round=>
   obtain⟨t,l,rfl,ht,hl,HR,hlt2,hb⟩:=hrel
   have HB1:=hid (HS4.out.2.trans (hb.mono hw4))
   by_cases htn:t<NW
   ·have hti:(t:Int)<(NW:Int):=by omega
    have htl:t<ws.length:=by rw[HNW.out];exact htn
    obtain⟨m1,m2⟩:=mapM_step HR.out htl
    have M1:=hid m1
    have M2:=hid m2
    have hpc:=HPC.out _ (List.getElem_mem htl)
    have hcl:=(HS4.out.1.below hb).cell t (by rw[List.length_map];exact htl)
    have hcl2:(ws.map fun x=>Value.string (str x))[t]? =some (.string (str ws[t])):=by simp[htl]
    rw[hcl2]at hcl
    have HA:=hid (HN.out ws[t] wr (by omega) HB1.out)
    have HX:=hid (And.intro hl hb)
    clear hl hb hcl2 m1 m2 HR
    generalize ws[t]=wt at*
    go_wp2_with fail
    refine HA.out.mono ?_
    rintro e w5 ⟨hA,hb5⟩
    have HB5:=hid (HB1.out.trans (hb5.mono HB1.out.size))
    have hown:=HX.out.1.below hb5
    have hbb:=HX.out.2.trans (hb5.mono HX.out.2.size)
    clear hb5 HA hcl
    rcases hA with⟨n,hn,rfl⟩|⟨hn,rfl⟩
    ·have HM:=hid (M2.out n hn)
     have hlen:(intsN l).length≤1000000000000:=by unfold intsN;rw[List.length_map];omega
     have hsz:=hbb.size
     have HBB:=hid hbb
     clear hn M1 M2 hbb
     go_wp2_with (at_builtin;refine wpList_appi w5 _ _ 45 rfl rfl Tryz.underlying45 Tryz.info3 W4.heap.size _ _ rfl hown rfl hlen hsz ?_;intro g c w8 hown1 hg1 hg2 hg3)
     go_roundw
     case rel=>exact⟨t+1,l++[n],by go_num,by omega,hown1.cast (by simp[intsN]),HM,by simp;omega,hown.grown HBB.out hg1 hsz⟩
     case measure=>simp[intOf]<;>omega
    ·have HZ:=hid (HG2.out w5 (HP2.out.trans (M1.out hn)) HB5.out)
     clear hn M1 M2 hown hbb
     exact⟨rfl,HZ.out⟩
   ·obtain rfl:t=NW:=by omega
    have hti:¬(t:Int)<(t:Int):=by omega
    have HZ:=hid (HG1.out l _ wr (by rw[HP2.out,←HR.out,List.take_of_length_le (by rw[HNW.out];exact Nat.le_refl _)]) (hl.mono hw4) HB1.out)
    clear hl hb HR
    go_wp2
    exact HZ.out
theorem Tryz.info9:(Tryz.prog.info? 9).map (fun i=>(i.zero,i.size,i.bytes))=some (some (.string ByteArray.empty),1,16):=by kernel_rfl
theorem join_w (v:Value) (ws:List (List UInt8)) (c:UInt8) (B:Nat) (w:World) (ho:Ow 9 B w v (ws.map fun x=> .string (str x))) (hN:ws.length≤1000000) (hlen:(Lib.join ws [c]).length≤100000000):
 Calls Tryz.prog 101 #[v,.string ⟨#[c]⟩] w fun e w'=>e= .returned (.string (str (Lib.join ws [c])))∧Below w.heap.size w w':=by
 cases ws with
 |nil=>
  obtain⟨a,cp,rfl⟩:=ho.len
  refine(Any.strings_Join_none lJoin xJoin a cp ⟨#[c]⟩ w).mono ?_
  rintro e w' ⟨rfl,rfl⟩
  exact⟨by rw[Lib.join_nil];rfl,Below.refl _ _⟩
 |cons x r=>
  obtain⟨g,cp,rfl,hg1,hg2⟩:=ho.form (by simp)
  have hcap:=ho.cap.1
  have e1:((x::r).map fun x=>Value.string (str x)).length=((x::r).map str).length:=by simp
  have hm:((x::r).map str).map (·.data.toList)=x::r:=by
   rw[List.map_map]
   exact(List.map_congr_left fun y _=>str_data y).trans (List.map_id _)
  have hl2:((x::r).map str).length≤1000000:=by rw[List.length_map];exact hN
  rw[e1]
  refine(Any.strings_Join lJoin xJoin g 0 cp ((x::r).map str) ⟨#[c]⟩ w (fun j y hj=> ?_) hg2 (by omega) (by omega) ?_).mono ?_
  ·have hjl:j<((x::r).map fun x=>Value.string (str x)).length:=by
    have:=(List.getElem?_eq_some_iff.1 hj).1
    simpa using this
   rw[Nat.zero_add,ho.cell j hjl]
   rw[List.getElem?_map]at hj⊢
   obtain⟨z,hz,rfl⟩:=Option.map_eq_some_iff.1 hj
   rw[hz]
   rfl
  ·rw[hm]
   have:(⟨#[c]⟩:ByteArray).data.toList=[c]:=rfl
   rw[this]
   omega
  ·rintro e w' ⟨rfl,hb⟩
   rw[hm]
   exact⟨rfl,hb⟩
def listT (l:List Int):List UInt8:=Lib.join (l.map Lib.itoa) [44]
theorem itoa_len {n:Int} (h:I64 n):(Lib.itoa n).length≤20:=by
 have hd:∀u:Nat,u≤9223372036854775808→(Lib.decDigits u).length≤19:=fun u hu=>by
  rw[Lib.decDigits_length]
  apply Classical.byContradiction
  intro hn
  have h2:∀k u:Nat,k+1<Lib.nDigits u→10^(k+1)≤u:=by
   intro k
   induction k with
   |zero=>
    intro u h
    by_cases h10:u<10
    ·rw[Lib.nDigits_small h10]at h;omega
    ·omega
   |succ k ih=>
    intro u h
    by_cases h10:u<10
    ·rw[Lib.nDigits_small h10]at h;omega
    ·rw[Lib.nDigits_big h10]at h
     have h3:=ih (u/10) (by omega)
     rw[Nat.pow_succ]
     omega
  have h4:=h2 18 u (by omega)
  have h5:(10:Nat)^19=10000000000000000000:=by decide
  omega
 unfold I64 at h
 unfold Lib.itoa
 split
 ·rw[List.length_cons]
  have:=hd n.natAbs (by omega)
  omega
 ·have:=hd n.toNat (by omega)
  omega
theorem join_len {ws:List (List UInt8)} {c:UInt8} {m:Nat} (h:∀x∈ws,x.length≤m):(Lib.join ws [c]).length≤(m+1)*ws.length:=by
 cases ws with
 |nil=>simp[Lib.join_nil]
 |cons x r=>
  rw[Lib.join_cons]
  have h2:∀r:List (List UInt8),(∀x∈r,x.length≤m)→(Lib.joinTail [c] r).length≤(m+1)*r.length:=by
   intro r
   induction r with
   |nil=>intro _;simp[Lib.joinTail]
   |cons y r ih=>
    intro h
    have h3:=ih fun z hz=>h z (by simp[hz])
    have h4:=h y (by simp)
    unfold Lib.joinTail at h3⊢
    simp only[List.map_cons,List.flatten_cons,List.length_append,List.length_cons,List.length_nil]
    rw[Nat.mul_succ]
    omega
  have h5:=h2 r fun z hz=>h z (by simp[hz])
  have h6:=h x (by simp)
  rw[List.length_append,List.length_cons,Nat.mul_succ]
  omega
theorem listT_len {l:List Int} (h:∀x∈l,I64 x):(listT l).length≤21*l.length:=by
 have:=join_len (ws:=l.map Lib.itoa) (c:=44) (m:=20) fun x hx=>by
  obtain⟨y,hy,rfl⟩:=List.mem_map.1 hx
  exact itoa_len (h y hy)
 rw[List.length_map]at this
 exact this
theorem list_any (v:Value) (l:List Int) (w:World) (hl:Sl w v l) (hi:∀x∈l,I64 x) (hn:l.length≤10000) (hW:RunW w):
 Calls Tryz.prog 100 #[v] w fun e w'=>e= .returned (.string (str (listT l)))∧Below w.heap.size w w':=by
 have HI:=hid (fun(n:Int) (w1:World) (hn:I64 n) (hb:Below w.heap.size w w1)=>itoa_w n w1 hn (hW.below hb))
 have HJ:=hid (fun(v:Value) (w1:World) (ws:List (List UInt8)) (h1:ws=l.map Lib.itoa) (ho:Ow 9 w.heap.size w1 v (ws.map fun x=> .string (str x)))=>join_w v ws 44 w.heap.size w1 ho (by rw[h1,List.length_map];omega) (by
  rw[h1]
  have:=listT_len hi
  unfold listT at this
  omega))
 have HT:Hid (Lib.join (l.map Lib.itoa) [44]=listT l):=hid rfl
 have HIN:=hid hi
 have HLL:=hid hl
 obtain⟨a,c,N,rfl,hN,hl1,hl2⟩:=hl.open
 rw[hN.out]at hn
 clear hl hi hW
 go_enter Tryz.func100,Tryz.ntmps100
 go_wp2_with fail
 go_loopw [3,5,8] (fun wv _ iv wr=>∃(t:Nat) (ws:List (List UInt8)),iv= .int .i64 t∧t≤N∧Hid (ws=(l.take t).map Lib.itoa)∧ws.length=t∧Ow 9 w.heap.size wr wv (ws.map fun x=> .string (str x))∧Below w.heap.size w wr) (fun _ _ iv _=>N-(intOf iv).toNat)
 case atStart=>exact⟨0,[],rfl,Nat.zero_le _,hid rfl,rfl,Ow.nil _ _ _,Below.refl _ _⟩
 case round=>
  obtain⟨t,ws,rfl,ht,HWS,hwl,ho,hb⟩:=hrel
  by_cases htn:t<N
  ·have hti:(t:Int)<(N:Int):=by omega
   have htl:t<l.length:=by rw[hN.out];exact htn
   obtain⟨b,off,rfl,hblt,hc⟩:=hl2 (by omega)
   have hcx:=(hb.cell (p:=⟨b,off+t,none⟩) hblt).trans (hc t htn)
   rw[List.getElem?_eq_getElem htl,Option.getD_some]at hcx
   have hI:=hid (HI.out l[t] wr (HIN.out _ (List.getElem_mem htl)) hb)
   have HW2:Hid (ws++[Lib.itoa l[t]]=(l.take (t+1)).map Lib.itoa):=hid (by
    rw[List.take_add_one,List.getElem?_eq_getElem htl,HWS.out,List.map_append]
    rfl)
   have HX:=hid (And.intro ho hb)
   have hlen:(ws.map fun x=>Value.string (str x)).length≤1000000000000:=by rw[List.length_map];omega
   have hwl2:(ws.map fun x=>Value.string (str x)).length=t:=by rw[List.length_map];exact hwl
   clear ho hb HWS hc
   generalize l[t]=x at*
   go_wp2_with fail
   refine hI.out.mono ?_
   rintro e w6 ⟨rfl,hb6⟩
   have hown:=HX.out.1.below hb6
   have hbb:=HX.out.2.trans (hb6.mono HX.out.2.size)
   have hsz:=hbb.size
   have HBB:=hid hbb
   clear hb6 hI hbb
   go_wp2_with (at_builtin;refine wpList_app w6 _ _ 37 9 (.string ByteArray.empty) 16 rfl rfl Tryz.underlying37 Tryz.info9 rfl (by decide) w.heap.size _ _ rfl hown rfl rfl hlen hsz ?_;intro g9 c9 w9 hown1 hg1 hg2 hg3)
   have HB9:=hid (HBB.out.grown hg1 hsz (fun b e=>(hown.lt b e).1))
   rw[hwl2]at hown1
   have HO9:=hid hown1
   clear hown hown1 hg1 hg2 hg3
   go_roundw
   case rel=>exact⟨t+1,ws++[Lib.itoa x],by go_num,by omega,HW2,by rw[List.length_append];simp;omega,by rw[List.map_append];exact HO9.out,HB9.out⟩
   case measure=>simp[intOf]<;>omega
  ·obtain rfl:t=N:=by omega
   have hti:¬(t:Int)<(t:Int):=by omega
   have hws:ws=l.map Lib.itoa:=by rw[HWS.out,List.take_of_length_le (by rw[hN.out];exact Nat.le_refl _)]
   have HJ2:=hid (HJ.out _ wr ws hws ho)
   rw[hws,HT.out]at HJ2
   have HB:=hid hb
   clear ho hb hws HWS
   go_wp2_with fail
   refine HJ2.out.mono ?_
   rintro e w6 ⟨rfl,hb6⟩
   have HB6:=hid (HB.out.trans (hb6.mono HB.out.size))
   clear hb6
   go_wp2
   go_ret
   exact⟨rfl,HB6.out⟩
def RowsOwn (s:List UInt8) (w:World) (e:Ending) (w':World):Prop:=
 ((∃ll u B U,rowsP s=some ll∧e= .returned u∧RL w' u (ll.map intsN)∧OL B U w' u (ll.map intsN))∨(rowsP s=none∧e=badE [98,97,100]))∧Below w.heap.size w w'
def RowsEnd (s:List UInt8) (w:World) (e:Ending) (w':World):Prop:=
 ((∃ll u,rowsP s=some ll∧e= .returned u∧RL w' u (ll.map intsN))∨(rowsP s=none∧e=badE [98,97,100]))∧Below w.heap.size w w'
theorem numsP_len {s:List UInt8} {l:List Nat} (h:numsP s=some l):l.length≤s.length+1:=by
 unfold numsP at h
 split at h
 ·cases h;simp
 ·rw[mapM_len h]
  exact spl_le 44 s
theorem mapM_mem {α β:Type} {f:α→Option β}:∀{l:List α} {r:List β},l.mapM f=some r→∀y∈r,∃x∈l,f x=some y
 |[],r,h,y,hy=>by cases h;cases hy
 |a::l,r,h,y,hy=>by
  rw[List.mapM_cons]at h
  cases ha:f a with
  |none=>simp[ha]at h
  |some b=>
   cases hl:l.mapM f with
   |none=>simp[ha,hl]at h
   |some q=>
    simp[ha,hl]at h
    subst h
    rcases List.mem_cons.1 hy with rfl|hy
    ·exact⟨a,by simp,ha⟩
    ·obtain⟨x,hx,e⟩:=mapM_mem hl y hy
     exact⟨x,by simp[hx],e⟩
theorem rowsP_len {s:List UInt8} {ll:List (List Nat)} (h:rowsP s=some ll):ll.length≤s.length+1∧∀l∈ll,l.length≤s.length+1:=by
 unfold rowsP at h
 split at h
 ·cases h;simp
 ·refine⟨by rw[mapM_len h];exact spl_le 47 s,fun l hl=> ?_⟩
  obtain⟨x,hx,e⟩:=mapM_mem h l hl
  split at e
  ·cases e
  ·have:=numsP_len e
   have:=spl_piece 47 s x hx
   omega
theorem rows_own (s:List UInt8) (w:World) (hs:s.length≤10000) (hW:RunW w):
 Calls Tryz.prog 44 #[.string (str s)] w (RowsOwn s w):=by
 have HS:=hid (split_w s w (by omega) hW.lib 47)
 have HN:=hid (fun(t:List UInt8) (w1:World) (ht:t.length≤10000) (hb:Below w.heap.size w w1)=>numbers_any t w1 ht (hW.below hb))
 have HPC:=hid (spl_piece 47 s)
 have hle:=spl_le 47 s
 have HG1:Hid (∀l u w' B U,rowsP s=some l→OL B U w' u (l.map intsN)→RL w' u (l.map intsN)→Below w.heap.size w w'→RowsOwn s w (.returned u) w'):=hid (fun l u w' B U h hol ho hb=>⟨.inl ⟨l,u,B,U,h,rfl,ho,hol⟩,hb⟩)
 have HG2:Hid (∀w',rowsP s=none→Below w.heap.size w w'→RowsOwn s w (badE [98,97,100]) w'):=hid (fun w' h hb=>⟨.inr ⟨h,rfl⟩,hb⟩)
 have HP:Hid (¬s=[45]→rowsP s=(spl 47 s).mapM fun w=>if w=[45]then none else numsP w):=hid (fun h=>if_neg h)
 have HP0:Hid (s=[45]→rowsP s=some []):=hid (fun h=>if_pos h)
 have HRL:Hid (∀ll,rowsP s=some ll→ll.length≤s.length+1∧∀l∈ll,l.length≤s.length+1):=hid (fun ll h=>rowsP_len h)
 clear hW
 generalize RowsOwn s w=G at*
 have hbad:badE [98,97,100]= .panicked [{v:= .iface 36 (.string ⟨#[98,97,100]⟩),recovered:=false}]:=rfl
 go_enter Tryz.func44,Tryz.ntmps44
 by_cases h45:s=[45]
 ·have HZ:=hid (HG1.out [] (.slice none 0 0) w 0 0 (HP0.out h45) (OL.nil _ _ _) ⟨none,0,rfl,by simp,fun h=>by simp at h⟩ (Below.refl _ _))
  have hq:((str s).toList==[45])=true:=by rw[h45,Lib.toList_data];rfl
  clear h45 hbad
  go_wp2
  exact HZ.out
 ·have hq:((str s).toList==[45])=false:=by rw[Lib.toList_data,str_data,beq_eq_false_iff_ne];exact h45
  have HP2:=hid (HP.out h45)
  clear h45 HP HP0
  generalize spl 47 s=ws at*
  obtain⟨NW,hNW⟩:∃NW,ws.length=NW:=⟨_,rfl⟩
  rw[hNW]at HS hle
  have HNW:=hid hNW
  have HBAD:=hid hbad
  clear hNW hbad
  go_wp2_with fail
  refine HS.out.mono ?_
  rintro e w4 ⟨gs,rfl,hsp,hb4⟩
  have HS4:=hid (And.intro hsp hb4)
  have hw4:=hb4.size
  clear hsp hb4 HS
  go_wp2_with fail
  obtain⟨W4,hW4⟩:∃W4,W4=w4:=⟨_,rfl⟩
  subst hW4
  go_loopw [3,5,11] (fun lv _ iv wr=>∃(t:Nat) (l:List (List Nat)),iv= .int .i64 t∧t≤NW∧OL W4.heap.size wr.heap.size wr lv (l.map intsN)∧Hid ((ws.take t).mapM (fun w=>if w=[45]then none else numsP w)=some l)∧l.length=t∧Below W4.heap.size W4 wr) (fun _ _ iv _=>NW-(intOf iv).toNat)
  case atStart=>exact⟨0,[],rfl,Nat.zero_le _,OL.nil _ _ _,hid rfl,rfl,Below.refl _ _⟩
  case round=>
   obtain⟨t,l,rfl,ht,hl,HR,hlt2,hb⟩:=hrel
   have HB1:=hid (HS4.out.2.trans (hb.mono hw4))
   by_cases htn:t<NW
   ·have hti:(t:Int)<(NW:Int):=by omega
    have htl:t<ws.length:=by rw[HNW.out];exact htn
    obtain⟨m1,m2⟩:=mapM_step HR.out htl
    have M1:=hid m1
    have M2:=hid m2
    have hpc:=HPC.out _ (List.getElem_mem htl)
    have hcl:=(HS4.out.1.below hb).cell t (by rw[List.length_map];exact htl)
    have hcl2:(ws.map fun x=>Value.string (str x))[t]? =some (.string (str ws[t])):=by simp[htl]
    rw[hcl2]at hcl
    have HA:=hid (HN.out ws[t] wr (by omega) HB1.out)
    have HX:=hid (And.intro hl hb)
    clear hl hb hcl2 m1 m2 HR
    generalize ws[t]=wt at*
    by_cases hd:wt=[45]
    ·have HZ:=hid (HG2.out wr (HP2.out.trans (M1.out (if_pos hd))) HB1.out)
     have hq2:((str wt).toList==[45])=true:=by rw[hd,Lib.toList_data];rfl
     rw[HBAD.out]at HZ
     clear hd M1 M2
     go_wp2
     exact⟨rfl,HZ.out⟩
    ·have hq2:((str wt).toList==[45])=false:=by rw[Lib.toList_data,str_data,beq_eq_false_iff_ne];exact hd
     have M1':=hid (fun h=>M1.out (by rw[if_neg hd];exact h))
     have M2':=hid (fun y h=>M2.out y (by rw[if_neg hd];exact h))
     clear hd M1 M2
     go_wp2_with fail
     refine HA.out.mono ?_
     rintro e w5 ⟨hA,hb5⟩
     have HB5:=hid (HB1.out.trans (hb5.mono HB1.out.size))
     have hbb:=HX.out.2.trans (hb5.mono HX.out.2.size)
     have hol:=HX.out.1.below hb5
     have hws5:=HX.out.2.size
     clear hb5 HA hcl
     rcases hA with⟨n,u,hn,rfl,hu⟩|⟨hn,rfl⟩
     ·have HM:=hid (M2'.out n hn)
      obtain⟨ua,uc,eu⟩:=hu.len
      subst eu
      have HU:=hid hu
      generalize (List.map (fun x:Nat=>(x:Int)) n).length=un at*
      obtain⟨vs,o1,o2,o3,o4⟩:=hol
      have hvs:vs.length≤1000000000000:=by rw[o3,List.length_map];omega
      have HO2:=hid o2
      have HO3:=hid o3
      have HO4:=hid o4
      have hsz:=hbb.size
      have HBB:=hid hbb
      have hvl:vs.length=t:=by rw[o3,List.length_map];exact hlt2
      clear hn M1' M2' hbb hu o2 o3 o4
      go_wp2_with (at_builtin;refine wpList_app w5 _ _ 46 45 (.slice none 0 0) 24 rfl rfl Tryz.underlying46 Tryz.info45 rfl (by decide) W4.heap.size _ vs rfl o1 rfl rfl hvs hsz ?_;intro g c w8 hown1 hg1 hg2 hg3)
      go_roundw
      case rel=>
       have h9:=OL.snoc o1 HO2.out HO3.out HO4.out HU.out hws5 hown1 hg1
       rw[hvl]at h9
       refine⟨t+1,l++[n],by go_num,by omega,by rw[List.map_append];exact h9,HM,by simp;omega,HBB.out.grown hg1 hsz (fun b e=>(o1.lt b e).1)⟩
      case measure=>simp[intOf]<;>omega
     ·have HZ:=hid (HG2.out w5 (HP2.out.trans (M1'.out hn)) HB5.out)
      clear hn M1' M2' hol hbb
      exact⟨rfl,HZ.out⟩
   ·obtain rfl:t=NW:=by omega
    have hti:¬(t:Int)<(t:Int):=by omega
    have hsome:rowsP s=some l:=by rw[HP2.out,←HR.out,List.take_of_length_le (by rw[HNW.out];exact Nat.le_refl _)]
    obtain⟨r1,r2⟩:=HRL.out _ hsome
    have HZ:=hid (HG1.out l _ wr _ _ hsome hl (hl.rl (by rw[List.length_map];omega) (fun i hi=>by
     rw[List.length_map]at hi
     rw[List.getD_eq_getElem?_getD,List.getElem?_map,List.getElem?_eq_getElem hi]
     simp only[Option.map_some,Option.getD_some,intsN,List.length_map]
     have:=r2 _ (List.getElem_mem hi)
     omega)) HB1.out)
    clear hl hb HR hsome r1 r2
    go_wp2
    exact HZ.out
theorem rows_any (s:List UInt8) (w:World) (hs:s.length≤10000) (hW:RunW w):
 Calls Tryz.prog 44 #[.string (str s)] w (RowsEnd s w):=
 (rows_own s w hs hW).mono fun e w' h=>⟨h.1.imp (fun⟨ll,u,_,_,a,b,c,_⟩=>⟨ll,u,a,b,c⟩) id,h.2⟩
def errT (E:Int):List UInt8:=
 if E=1 then[69,114,114,82,97,110,103,101]else if E=2 then[69,114,114,83,104,97,112,101]else if E=3 then[69,114,114,70,117,108,108]else if E=4 then[69,114,114,78,111,110,101]else if E=5 then[69,114,114,83,121,110,116,97,120]else[69,114,114,84,119,105,99,101]
theorem check_ok (w:World):Calls Tryz.prog 103 #[.int .i64 0] w fun e w'=>e= .returned (.tuple #[])∧Below w.heap.size w w':=by
 have HB:=hid ((Below.refl w.heap.size w).alloc (Nat.le_refl _) (.cells #[.string ⟨#[79,75]⟩,.string ⟨#[69,114,114,82,97,110,103,101]⟩,.string ⟨#[69,114,114,83,104,97,112,101]⟩,.string ⟨#[69,114,114,70,117,108,108]⟩,.string ⟨#[69,114,114,78,111,110,101]⟩,.string ⟨#[69,114,114,83,121,110,116,97,120]⟩,.string ⟨#[69,114,114,84,119,105,99,101]⟩] 9))
 go_enter Tryz.func103,Tryz.ntmps103
 go_wp2
 first|go_end0|skip
 exact⟨rfl,HB.out⟩
theorem check_bad (E:Int) (h1:1≤E) (h6:E≤6) (w:World):Calls Tryz.prog 103 #[.int .i64 E] w fun e w'=>e=badE (errT E)∧Below w.heap.size w w':=by
 have HB:=hid ((Below.refl w.heap.size w).alloc (Nat.le_refl _) (.cells #[.string ⟨#[79,75]⟩,.string ⟨#[69,114,114,82,97,110,103,101]⟩,.string ⟨#[69,114,114,83,104,97,112,101]⟩,.string ⟨#[69,114,114,70,117,108,108]⟩,.string ⟨#[69,114,114,78,111,110,101]⟩,.string ⟨#[69,114,114,83,121,110,116,97,120]⟩,.string ⟨#[69,114,114,84,119,105,99,101]⟩] 9))
 obtain rfl|rfl|rfl|rfl|rfl|rfl:E=1∨E=2∨E=3∨E=4∨E=5∨E=6:=by omega
 all_goals
  go_enter Tryz.func103,Tryz.ntmps103
  go_wp2
  exact⟨rfl,rfl,HB.out⟩
end Go.Proofs.YtnnaadmegeeinaaGreatDoor
