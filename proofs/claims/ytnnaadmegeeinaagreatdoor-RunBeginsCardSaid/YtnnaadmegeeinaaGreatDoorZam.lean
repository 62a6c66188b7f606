/-
  Part 39 of a proof: what it proves stands in the last text.
-/
import Derived.Test.YtnnaadmegeeinaaGreatDoorZal
import Derived.Stop.Asserts
set_option linter.unusedVariables false
set_option maxHeartbeats 8000000
set_option maxRecDepth 100000
namespace Go.Proofs.YtnnaadmegeeinaaGreatDoor
open Go.RowKit
def RT (w:World) (v:Value) (ll:List (List Int)):Prop:=
 RL w v ll∧∀(b:Nat) (xs:Array Value) (t:TypeId),t≠45→t≠3→w.heap[b]? =some (.cells xs t (0,0))→∀w2,w.grownBy w2 (some b)→RL w2 v ll
theorem Ow.kind {E:TypeId} {B:Nat} {w:World} {v:Value} {xs:List Value} (h:Ow E B w v xs) {k:Nat} (hk:v.ownBlock=some k):∃cur,w.heap[k]? =some (.cells cur E (0,0)):=by
 rcases h.2 with⟨rfl,_⟩|⟨g,cap,cur,rfl,_,hg,_⟩
 ·simp[Value.ownBlock]at hk
 ·simp[Value.ownBlock]at hk
  subst hk
  exact⟨cur,hg⟩
theorem Ow.keptK {E:TypeId} {B b:Nat} {w w':World} {v:Value} {xs:List Value} {ys:Array Value} {t:TypeId} (h:Ow E B w v xs) (hb:w.heap[b]? =some (.cells ys t (0,0))) (ht:t≠E) (hg:w.grownBy w' (some b)):Ow E B w' v xs:=by
 refine h.kept hg ?_
 rcases ho:v.ownBlock with _|k
 ·exact .inl rfl
 ·refine .inr fun e=> ?_
  cases Option.some.inj e
  obtain⟨cur,hc⟩:=h.kind ho
  rw[hb]at hc
  simp only[Option.some.injEq,Obj.cells.injEq]at hc
  exact ht hc.2.1
theorem RT.own {B U:Nat} {w:World} {v:Value} {s:List UInt8} {ll:List (List Nat)} (h:OL B U w v (ll.map intsN)) (hs:s.length≤10000) (hr:rowsP s=some ll):RT w v (ll.map intsN):=by
 obtain⟨r1,r2⟩:=rowsP_len hr
 have key:∀w2,OL B U w2 v (ll.map intsN)→RL w2 v (ll.map intsN):=fun w2 hl=>hl.rl (by rw[List.length_map];omega) (fun i hi=>by
  rw[List.length_map]at hi
  rw[List.getD_eq_getElem?_getD,List.getElem?_map,List.getElem?_eq_getElem hi]
  simp only[Option.map_some,Option.getD_some,intsN,List.length_map]
  have:=r2 _ (List.getElem_mem hi)
  omega)
 refine⟨key w h,fun b xs t n1 n2 hb w2 hg=>key w2 ?_⟩
 obtain⟨vs,o1,o2,o3,o4⟩:=h
 exact⟨vs,o1.keptK hb n1 hg,o2,o3,fun i hi=>⟨(o4 i hi).1.keptK hb n2 hg,(o4 i hi).2⟩⟩
theorem RT.below {w w':World} {v:Value} {ll:List (List Int)} (h:RT w v ll) (hb:Below w.heap.size w w'):RT w' v ll:=by
 refine⟨h.1.below hb,fun b xs t n1 n2 hh w2 hg=> ?_⟩
 rcases Nat.lt_or_ge b w.heap.size with hlt|hge
 ·refine h.2 b xs t n1 n2 ((hb.block b hlt).symm.trans hh) w2 ⟨hg.os.trans hb.os,hg.tape.trans hb.tape,hg.output.trans hb.output,Nat.le_trans hb.size hg.size,fun k hk hn=> ?_⟩
  exact(hg.block k (Nat.lt_of_lt_of_le hk hb.size) hn).trans (hb.block k hk)
 ·exact h.1.below (hb.grown hg hb.size (fun k e=>by cases e;exact hge))
theorem assert_yes {P:Program} {t xT:TypeId} {u:TypeDesc} (hu:P.underlying t=some u) (hn:∀m,u≠ .interface m) (v:Value) (w:World):(Instr.typeAssert (.iface t v) xT t true).run P w= .ok (.tuple #[v,.bool true]) w:=by
 cases u with
 |interface m=>exact absurd rfl (hn m)
 |_=>simp[Instr.typeAssert,run_underlying hu]
theorem assert_no {P:Program} {t xT asserted:TypeId} {u:TypeDesc} {z:Value} (hu:P.underlying asserted=some u) (hn:∀m,u≠ .interface m) (hne:t≠asserted) (hz:(P.info? asserted).map (·.zero)=some (some z)) (v:Value) (w:World):(Instr.typeAssert (.iface t v) xT asserted true).run P w= .ok (.tuple #[z,.bool false]) w:=by
 obtain⟨j,hj,hz'⟩:=Option.map_eq_some_iff.1 hz
 cases u with
 |interface m=>exact absurd rfl (hn m)
 |_=>simp[Instr.typeAssert,run_underlying hu,hne,zeroValue,typeInfo,hj,hz']
theorem tell_int (n:Int) (w:World) (hn:I64 n) (hW:RunW w):
 Calls Tryz.prog 27 #[.iface 3 (.int .i64 n)] w fun e w'=>e= .returned (.string (str (Lib.itoa n)))∧Below w.heap.size w w':=by
 have as0:=fun(v:Value) (w:World)=>assert_yes (P:=Tryz.prog) (xT:=20) Tryz.underlying3 (fun m h=>by cases h) v w
 have HI:=hid (itoa_w n w hn hW)
 clear hW hn
 go_enter Tryz.func27,Tryz.ntmps27
 go_wp2_with fail
 refine HI.out.mono ?_
 rintro e w1 ⟨rfl,hb1⟩
 have HB:=hid hb1
 clear hb1
 go_wp2
 go_ret
 exact⟨rfl,HB.out⟩
theorem tell_str (s:ByteArray) (w:World):
 Calls Tryz.prog 27 #[.iface 9 (.string s)] w fun e w'=>e= .returned (.string s)∧Below w.heap.size w w':=by
 have as0:=fun(v:Value) (w:World)=>assert_no (P:=Tryz.prog) (t:=9) (xT:=20) (z:= .int .i64 0) Tryz.underlying3 (fun m h=>by cases h) (by decide) (by kernel_rfl) v w
 have as1:=fun(v:Value) (w:World)=>assert_yes (P:=Tryz.prog) (xT:=20) Tryz.underlying9 (fun m h=>by cases h) v w
 have HB:=hid (Below.refl w.heap.size w)
 go_enter Tryz.func27,Tryz.ntmps27
 go_wp2
 go_ret
 exact⟨rfl,HB.out⟩
def tellB (b:Bool):List UInt8:=if b=true then[121,101,115]else[110,111]
theorem tell_bool (b:Bool) (w:World):
 Calls Tryz.prog 27 #[.iface 4 (.bool b)] w fun e w'=>e= .returned (.string (str (tellB b)))∧Below w.heap.size w w':=by
 have as0:=fun(v:Value) (w:World)=>assert_no (P:=Tryz.prog) (t:=4) (xT:=20) (z:= .int .i64 0) Tryz.underlying3 (fun m h=>by cases h) (by decide) (by kernel_rfl) v w
 have as1:=fun(v:Value) (w:World)=>assert_no (P:=Tryz.prog) (t:=4) (xT:=20) (z:= .string ByteArray.empty) Tryz.underlying9 (fun m h=>by cases h) (by decide) (by kernel_rfl) v w
 have as2:=fun(v:Value) (w:World)=>assert_yes (P:=Tryz.prog) (xT:=20) Tryz.underlying4 (fun m h=>by cases h) v w
 have HB:=hid (Below.refl w.heap.size w)
 cases b with
 |true=>
  go_enter Tryz.func27,Tryz.ntmps27
  go_wp2
  go_ret
  exact⟨rfl,HB.out⟩
 |false=>
  go_enter Tryz.func27,Tryz.ntmps27
  go_wp2
  go_ret
  exact⟨rfl,HB.out⟩
def tellI (l:List Int):List UInt8:=if l=[]then[45]else listT l
theorem tell_ints (v:Value) (l:List Int) (w:World) (hl:Sl w v l) (hi:∀x∈l,I64 x) (hn:l.length≤10000) (hW:RunW w):
 Calls Tryz.prog 27 #[.iface 45 v] w fun e w'=>e= .returned (.string (str (tellI l)))∧Below w.heap.size w w':=by
 have as0:=fun(v:Value) (w:World)=>assert_no (P:=Tryz.prog) (t:=45) (xT:=20) (z:= .int .i64 0) Tryz.underlying3 (fun m h=>by cases h) (by decide) (by kernel_rfl) v w
 have as1:=fun(v:Value) (w:World)=>assert_no (P:=Tryz.prog) (t:=45) (xT:=20) (z:= .string ByteArray.empty) Tryz.underlying9 (fun m h=>by cases h) (by decide) (by kernel_rfl) v w
 have as2:=fun(v:Value) (w:World)=>assert_no (P:=Tryz.prog) (t:=45) (xT:=20) (z:= .bool false) Tryz.underlying4 (fun m h=>by cases h) (by decide) (by kernel_rfl) v w
 have as3:=fun(v:Value) (w:World)=>assert_yes (P:=Tryz.prog) (xT:=20) Tryz.underlying45 (fun m h=>by cases h) v w
 have HL:=hid (list_any v l w hl hi hn hW)
 have HB:=hid (Below.refl w.heap.size w)
 obtain⟨a,c,rfl⟩:=hl.len
 have HT:Hid (tellI l=if l=[]then[45]else listT l):=hid rfl
 clear hl hi hW
 by_cases h0:l=[]
 ·subst h0
  have HT2:Hid (tellI []=[45]):=hid rfl
  clear HL HT
  simp only[List.length_nil]
  go_enter Tryz.func27,Tryz.ntmps27
  go_wp2
  go_ret
  exact⟨by rw[HT2.out];rfl,HB.out⟩
 ·have hp:(0:Int)<(l.length:Int):=by have:=List.length_pos_iff.2 h0;omega
  rw[if_neg h0]at HT
  clear h0
  generalize l.length=N at*
  go_enter Tryz.func27,Tryz.ntmps27
  go_wp2_with fail
  refine HL.out.mono ?_
  rintro e w1 ⟨rfl,hb1⟩
  have HB1:=hid hb1
  clear hb1 HL
  go_wp2
  go_ret
  exact⟨by rw[HT.out];rfl,HB1.out⟩
def tellR (ll:List (List Int)):List UInt8:=if ll=[]then[45]else Lib.join (ll.map listT) [47]
theorem tell_rows (v:Value) (ll:List (List Int)) (w:World) (hl:RL w v ll) (hi:∀l∈ll,(∀x∈l,I64 x)∧l.length≤1000) (hn:ll.length≤1000) (hW:RunW w):
 Calls Tryz.prog 27 #[.iface 46 v] w fun e w'=>e= .returned (.string (str (tellR ll)))∧Below w.heap.size w w':=by
 have as0:=fun(v:Value) (w:World)=>assert_no (P:=Tryz.prog) (t:=46) (xT:=20) (z:= .int .i64 0) Tryz.underlying3 (fun m h=>by cases h) (by decide) (by kernel_rfl) v w
 have as1:=fun(v:Value) (w:World)=>assert_no (P:=Tryz.prog) (t:=46) (xT:=20) (z:= .string ByteArray.empty) Tryz.underlying9 (fun m h=>by cases h) (by decide) (by kernel_rfl) v w
 have as2:=fun(v:Value) (w:World)=>assert_no (P:=Tryz.prog) (t:=46) (xT:=20) (z:= .bool false) Tryz.underlying4 (fun m h=>by cases h) (by decide) (by kernel_rfl) v w
 have as3:=fun(v:Value) (w:World)=>assert_no (P:=Tryz.prog) (t:=46) (xT:=20) (z:= .slice none 0 0) Tryz.underlying45 (fun m h=>by cases h) (by decide) (by kernel_rfl) v w
 have as4:=fun(v:Value) (w:World)=>assert_yes (P:=Tryz.prog) (xT:=20) Tryz.underlying46 (fun m h=>by cases h) v w
 have HL:=hid (fun(u:Value) (l:List Int) (w1:World) (hb:Below w.heap.size w w1) (hu:Sl w1 u l) (h1:∀x∈l,I64 x) (h2:l.length≤1000)=>list_any u l w1 hu h1 (by omega) (hW.below hb))
 have HJ:=hid (fun(v:Value) (w1:World) (ws:List (List UInt8)) (h1:ws=ll.map listT) (ho:Ow 9 w.heap.size w1 v (ws.map fun x=> .string (str x)))=>join_w v ws 47 w.heap.size w1 ho (by rw[h1,List.length_map];omega) (by
  have hm:∀x∈ws,x.length≤21000:=fun x hx=>by
   rw[h1]at hx
   obtain⟨y,hy,rfl⟩:=List.mem_map.1 hx
   have:=listT_len (hi y hy).1
   have:=(hi y hy).2
   omega
  have h3:=join_len (c:=47) hm
  have h4:ws.length≤1000:=by rw[h1,List.length_map];exact hn
  have h5:(21000+1)*ws.length≤(21000+1)*1000:=Nat.mul_le_mul_left _ h4
  omega))
 have HT:Hid (tellR ll=if ll=[]then[45]else Lib.join (ll.map listT) [47]):=hid rfl
 have HIN:=hid hi
 have hRL:=hid hl
 have HB:=hid (Below.refl w.heap.size w)
 obtain⟨a,c,N,rfl,hN,hl1,hl2⟩:=hl.open
 rw[hN.out]at hn
 clear hl hi hW
 by_cases h0:N=0
 ·subst h0
  have h00:ll=[]:=List.length_eq_zero_iff.1 hN.out
  have HT2:Hid (tellR ll=[45]):=hid (by rw[h00];rfl)
  clear HL HT HJ h00 hl2
  go_enter Tryz.func27,Tryz.ntmps27
  go_wp2
  go_loopw [8,10,38] (fun v8 _ v38 wr=>v8= .slice none 0 0∧v38= .int .i64 0∧wr=w) (fun _ _ _ _=>0)
  case atStart=>exact⟨rfl,rfl,rfl⟩
  case round=>
   obtain⟨rfl,rfl,rfl⟩:=hrel
   go_wp2
   go_ret
   exact⟨by rw[HT2.out];rfl,HB.out⟩
 ·have hne:¬ll=[]:=fun h=>h0 (by rw[←hN.out,h];rfl)
  rw[if_neg hne]at HT
  clear hne
  go_enter Tryz.func27,Tryz.ntmps27
  go_wp2
  go_loopw [8,10,38] (fun wv _ iv wr=>∃(t:Nat) (ws:List (List UInt8)),iv= .int .i64 t∧t≤N∧Hid (ws=(ll.take t).map listT)∧ws.length=t∧Ow 9 w.heap.size wr wv (ws.map fun x=> .string (str x))∧Below w.heap.size w wr) (fun _ _ iv _=>N-(intOf iv).toNat)
  case atStart=>exact⟨0,[],rfl,Nat.zero_le _,hid rfl,rfl,Ow.nil _ _ _,Below.refl _ _⟩
  case round=>
   obtain⟨t,ws,rfl,ht,HWS,hwl,ho,hb⟩:=hrel
   by_cases htn:t<N
   ·have hti:(t:Int)<(N:Int):=by omega
    have htl:t<ll.length:=by rw[hN.out];exact htn
    obtain⟨b,off,rfl,hblt,hc⟩:=hl2 (by omega)
    obtain⟨u,hu,hus⟩:=hc t htn
    have hcx:=(hb.cell (p:=⟨b,off+t,none⟩) hblt).trans hu
    rw[List.getD_eq_getElem?_getD,List.getElem?_eq_getElem htl,Option.getD_some]at hus
    have hm:=HIN.out _ (List.getElem_mem htl)
    have hI:=hid (HL.out u ll[t] wr hb (hus.below hb) hm.1 hm.2)
    obtain⟨ua,uc,eu⟩:=hus.len
    subst eu
    have HW2:Hid (ws++[listT ll[t]]=(ll.take (t+1)).map listT):=hid (by
     rw[List.take_add_one,List.getElem?_eq_getElem htl,HWS.out,List.map_append]
     rfl)
    have HX:=hid (And.intro ho hb)
    have hlen:(ws.map fun x=>Value.string (str x)).length≤1000000000000:=by rw[List.length_map];omega
    have hwl2:(ws.map fun x=>Value.string (str x)).length=t:=by rw[List.length_map];exact hwl
    clear ho hb HWS hc hu hus hm
    generalize ll[t]=x at*
    go_wp2_with fail
    refine hI.out.mono ?_
    rintro e w6 ⟨rfl,hb6⟩
    have hown:=HX.out.1.below hb6
    have hbb:=HX.out.2.trans (hb6.mono HX.out.2.size)
    have hsz:=hbb.size
    have HBB:=hid hbb
    clear hb6 hI hbb
    go_wp2_with (at_builtin;refine wpList_app w6 _ _ 37 9 (.string ByteArray.empty) 16 rfl rfl Tryz.underlying37 Tryz.info9 rfl (by decide) w.heap.size _ _ rfl hown rfl rfl hlen hsz ?_;intro g9 c9 w9 hown1 hg1 hg2 hg3)
    have HB9:=hid (HBB.out.grown hg1 hsz (fun b e=>(hown.lt b e).1))
    rw[hwl2]at hown1
    have HO9:=hid hown1
    clear hown hown1 hg1 hg2 hg3
    go_roundw
    case rel=>exact⟨t+1,ws++[listT x],by go_num,by omega,HW2,by rw[List.length_append];simp;omega,by rw[List.map_append];exact HO9.out,HB9.out⟩
    case measure=>simp[intOf]<;>omega
   ·obtain rfl:t=N:=by omega
    have hti:¬(t:Int)<(t:Int):=by omega
    have hpos:(0:Int)<(t:Int):=by omega
    have hws:ws=ll.map listT:=by rw[HWS.out,List.take_of_length_le (by rw[hN.out];exact Nat.le_refl _)]
    have HJ2:=hid (HJ.out _ wr ws hws ho)
    rw[hws,←HT.out]at HJ2
    have HB:=hid hb
    clear ho hb hws HWS
    go_wp2_with fail
    refine HJ2.out.mono ?_
    rintro e w6 ⟨rfl,hb6⟩
    have HB6:=hid (HB.out.trans (hb6.mono HB.out.size))
    clear hb6
    go_wp2
    go_ret
    exact⟨rfl,HB6.out⟩
def TE (A:List UInt8) (w:World) (e:Ending) (w':World):Prop:=(e= .returned (.string (str A))∨e=badE A)∧Below w.heap.size w w'
theorem TE.ret {A:List UInt8} {w w':World} (h:Below w.heap.size w w'):TE A w (.returned (.string (str A))) w':=⟨.inl rfl,h⟩
theorem TE.bad {A:List UInt8} {w w':World} (h:Below w.heap.size w w'):TE A w (badE A) w':=⟨.inr rfl,h⟩
theorem TE.pre {A:List UInt8} {w w1 w':World} {e:Ending} (h:TE A w1 e w') (hb:Below w.heap.size w w1):TE A w e w':=⟨h.1,hb.trans (h.2.mono hb.size)⟩
theorem itoa_le {n:Int} (h:I64 n):(Lib.itoa n).length≤1000000:=by
 have:=itoa_len h
 omega
theorem tellI_le {l:List Int} (h:∀x∈l,I64 x) (hn:l.length≤10000):(tellI l).length≤1000000:=by
 unfold tellI
 split
 ·simp
 ·have:=listT_len h
  omega
theorem told_ints (v:Value) (l:List Int) (E:Int) (w:World) (h0:0≤E) (h6:E≤6) (hx:E=0→Sl w v l∧(∀x∈l,I64 x)∧l.length≤10000) (hW:RunW w):
 Calls Tryz.prog 31 #[v,.int .i64 E] w (TE (if E=0 then tellI l else errT E) w):=by
 by_cases hE:E=0
 ·subst hE
  rw[if_pos rfl]
  have h:=hx rfl
  have HC:=hid (check_ok w)
  have HT:=hid (fun(w1:World) (hb:Below w.heap.size w w1)=>tell_ints v l w1 (h.1.below hb) h.2.1 h.2.2 (hW.below hb))
  have HG:=hid (fun w' (hb:Below w.heap.size w w')=>TE.ret (A:=tellI l) hb)
  obtain⟨va,vc,rfl⟩:=h.1.len
  clear hx h hW
  generalize TE (tellI l) w=G at*
  go_enter Tryz.func31,Tryz.ntmps31
  go_wp2_with fail
  refine HC.out.mono ?_
  rintro e w1 ⟨rfl,hb1⟩
  have HB1:=hid hb1
  clear hb1
  go_wp2_with fail
  refine(HT.out _ HB1.out).mono ?_
  rintro e w2 ⟨rfl,hb2⟩
  have HB2:=hid (HB1.out.trans (hb2.mono HB1.out.size))
  clear hb2
  go_wp2
  exact HG.out _ HB2.out
 ·rw[if_neg hE]
  have HC:=hid (check_bad E (by omega) h6 w)
  have HG:=hid (fun w' (hb:Below w.heap.size w w')=>TE.bad (A:=errT E) hb)
  clear hx hW hE
  generalize TE (errT E) w=G at*
  have hbad:badE (errT E)= .panicked [{v:= .iface 36 (.string (str (errT E))),recovered:=false}]:=rfl
  rw[hbad]at HC HG
  clear hbad
  go_enter Tryz.func31,Tryz.ntmps31
  go_wp2_with fail
  refine HC.out.mono ?_
  rintro e w1 ⟨rfl,hb1⟩
  exact⟨rfl,HG.out _ hb1⟩
theorem told_str (s:ByteArray) (E:Int) (w:World) (h0:0≤E) (h6:E≤6) (hx:E=0→True) (hW:RunW w):
 Calls Tryz.prog 39 #[.string s,.int .i64 E] w (TE (if E=0 then s.data.toList else errT E) w):=by
 by_cases hE:E=0
 ·subst hE
  rw[if_pos rfl]
  have h:=hx rfl
  have HC:=hid (check_ok w)
  have HT:=hid (fun(w1:World) (hb:Below w.heap.size w w1)=>tell_str s w1)
  have HG:=hid (fun w' (hb:Below w.heap.size w w')=>TE.ret (A:=s.data.toList) hb)
  clear hx h hW
  generalize TE (s.data.toList) w=G at*
  go_enter Tryz.func39,Tryz.ntmps39
  go_wp2_with fail
  refine HC.out.mono ?_
  rintro e w1 ⟨rfl,hb1⟩
  have HB1:=hid hb1
  clear hb1
  go_wp2_with fail
  refine(HT.out _ HB1.out).mono ?_
  rintro e w2 ⟨rfl,hb2⟩
  have HB2:=hid (HB1.out.trans (hb2.mono HB1.out.size))
  clear hb2
  go_wp2
  exact HG.out _ HB2.out
 ·rw[if_neg hE]
  have HC:=hid (check_bad E (by omega) h6 w)
  have HG:=hid (fun w' (hb:Below w.heap.size w w')=>TE.bad (A:=errT E) hb)
  clear hx hW hE
  generalize TE (errT E) w=G at*
  have hbad:badE (errT E)= .panicked [{v:= .iface 36 (.string (str (errT E))),recovered:=false}]:=rfl
  rw[hbad]at HC HG
  clear hbad
  go_enter Tryz.func39,Tryz.ntmps39
  go_wp2_with fail
  refine HC.out.mono ?_
  rintro e w1 ⟨rfl,hb1⟩
  exact⟨rfl,HG.out _ hb1⟩
theorem told_int (n:Int) (E:Int) (w:World) (h0:0≤E) (h6:E≤6) (hx:E=0→I64 n) (hW:RunW w):
 Calls Tryz.prog 42 #[.int .i64 n,.int .i64 E] w (TE (if E=0 then Lib.itoa n else errT E) w):=by
 by_cases hE:E=0
 ·subst hE
  rw[if_pos rfl]
  have h:=hx rfl
  have HC:=hid (check_ok w)
  have HT:=hid (fun(w1:World) (hb:Below w.heap.size w w1)=>tell_int n w1 h (hW.below hb))
  have HG:=hid (fun w' (hb:Below w.heap.size w w')=>TE.ret (A:=Lib.itoa n) hb)
  clear hx h hW
  generalize TE (Lib.itoa n) w=G at*
  go_enter Tryz.func42,Tryz.ntmps42
  go_wp2_with fail
  refine HC.out.mono ?_
  rintro e w1 ⟨rfl,hb1⟩
  have HB1:=hid hb1
  clear hb1
  go_wp2_with fail
  refine(HT.out _ HB1.out).mono ?_
  rintro e w2 ⟨rfl,hb2⟩
  have HB2:=hid (HB1.out.trans (hb2.mono HB1.out.size))
  clear hb2
  go_wp2
  exact HG.out _ HB2.out
 ·rw[if_neg hE]
  have HC:=hid (check_bad E (by omega) h6 w)
  have HG:=hid (fun w' (hb:Below w.heap.size w w')=>TE.bad (A:=errT E) hb)
  clear hx hW hE
  generalize TE (errT E) w=G at*
  have hbad:badE (errT E)= .panicked [{v:= .iface 36 (.string (str (errT E))),recovered:=false}]:=rfl
  rw[hbad]at HC HG
  clear hbad
  go_enter Tryz.func42,Tryz.ntmps42
  go_wp2_with fail
  refine HC.out.mono ?_
  rintro e w1 ⟨rfl,hb1⟩
  exact⟨rfl,HG.out _ hb1⟩
theorem told_rows (v:Value) (l:List (List Int)) (E:Int) (w:World) (h0:0≤E) (h6:E≤6) (hx:E=0→RL w v l∧(∀m∈l,(∀x∈m,I64 x)∧m.length≤1000)∧l.length≤1000) (hW:RunW w):
 Calls Tryz.prog 121 #[v,.int .i64 E] w (TE (if E=0 then tellR l else errT E) w):=by
 by_cases hE:E=0
 ·subst hE
  rw[if_pos rfl]
  have h:=hx rfl
  have HC:=hid (check_ok w)
  have HT:=hid (fun(w1:World) (hb:Below w.heap.size w w1)=>tell_rows v l w1 (h.1.below hb) h.2.1 h.2.2 (hW.below hb))
  have HG:=hid (fun w' (hb:Below w.heap.size w w')=>TE.ret (A:=tellR l) hb)
  obtain⟨va,vc,vn,rfl,_⟩:=h.1.open
  clear hx h hW
  generalize TE (tellR l) w=G at*
  go_enter Tryz.func121,Tryz.ntmps121
  go_wp2_with fail
  refine HC.out.mono ?_
  rintro e w1 ⟨rfl,hb1⟩
  have HB1:=hid hb1
  clear hb1
  go_wp2_with fail
  refine(HT.out _ HB1.out).mono ?_
  rintro e w2 ⟨rfl,hb2⟩
  have HB2:=hid (HB1.out.trans (hb2.mono HB1.out.size))
  clear hb2
  go_wp2
  exact HG.out _ HB2.out
 ·rw[if_neg hE]
  have HC:=hid (check_bad E (by omega) h6 w)
  have HG:=hid (fun w' (hb:Below w.heap.size w w')=>TE.bad (A:=errT E) hb)
  clear hx hW hE
  generalize TE (errT E) w=G at*
  have hbad:badE (errT E)= .panicked [{v:= .iface 36 (.string (str (errT E))),recovered:=false}]:=rfl
  rw[hbad]at HC HG
  clear hbad
  go_enter Tryz.func121,Tryz.ntmps121
  go_wp2_with fail
  refine HC.out.mono ?_
  rintro e w1 ⟨rfl,hb1⟩
  exact⟨rfl,HG.out _ hb1⟩
theorem told_bool (b:Bool) (E:Int) (w:World) (h0:0≤E) (h6:E≤6) (hx:E=0→True) (hW:RunW w):
 Calls Tryz.prog 128 #[.bool b,.int .i64 E] w (TE (if E=0 then tellB b else errT E) w):=by
 by_cases hE:E=0
 ·subst hE
  rw[if_pos rfl]
  have h:=hx rfl
  have HC:=hid (check_ok w)
  have HT:=hid (fun(w1:World) (hb:Below w.heap.size w w1)=>tell_bool b w1)
  have HG:=hid (fun w' (hb:Below w.heap.size w w')=>TE.ret (A:=tellB b) hb)
  clear hx h hW
  generalize TE (tellB b) w=G at*
  go_enter Tryz.func128,Tryz.ntmps128
  go_wp2_with fail
  refine HC.out.mono ?_
  rintro e w1 ⟨rfl,hb1⟩
  have HB1:=hid hb1
  clear hb1
  go_wp2_with fail
  refine(HT.out _ HB1.out).mono ?_
  rintro e w2 ⟨rfl,hb2⟩
  have HB2:=hid (HB1.out.trans (hb2.mono HB1.out.size))
  clear hb2
  go_wp2
  exact HG.out _ HB2.out
 ·rw[if_neg hE]
  have HC:=hid (check_bad E (by omega) h6 w)
  have HG:=hid (fun w' (hb:Below w.heap.size w w')=>TE.bad (A:=errT E) hb)
  clear hx hW hE
  generalize TE (errT E) w=G at*
  have hbad:badE (errT E)= .panicked [{v:= .iface 36 (.string (str (errT E))),recovered:=false}]:=rfl
  rw[hbad]at HC HG
  clear hbad
  go_enter Tryz.func128,Tryz.ntmps128
  go_wp2_with fail
  refine HC.out.mono ?_
  rintro e w1 ⟨rfl,hb1⟩
  exact⟨rfl,HG.out _ hb1⟩
theorem both_int_ints (n:Int) (v2:Value) (l2:List Int) (E:Int) (w:World) (h0:0≤E) (h6:E≤6) (hx:E=0→(I64 n)∧(Sl w v2 l2∧(∀x∈l2,I64 x)∧l2.length≤10000)) (hW:RunW w):
 Calls Tryz.prog 36 #[.int .i64 n,v2,.int .i64 E] w (TE (if E=0 then Lib.itoa n++32::tellI l2 else errT E) w):=by
 by_cases hE:E=0
 ·subst hE
  rw[if_pos rfl]
  obtain⟨h,g⟩:=hx rfl
  have HC:=hid (check_ok w)
  have HT:=hid (fun(w1:World) (hb:Below w.heap.size w w1)=>tell_int n w1 h (hW.below hb))
  have HU:=hid (fun(w1:World) (hb:Below w.heap.size w w1)=>tell_ints v2 l2 w1 (g.1.below hb) g.2.1 g.2.2 (hW.below hb))
  have HG:=hid (fun w' (hb:Below w.heap.size w w')=>TE.ret (A:=Lib.itoa n++32::tellI l2) hb)
  have z1:(str (Lib.itoa n)).size≤1000000:=by rw[str_size];exact itoa_le h
  have z2:(str (tellI l2)).size≤1000000:=by rw[str_size];exact tellI_le g.2.1 g.2.2
  have HE:Hid (str (Lib.itoa n)++(⟨#[32]⟩:ByteArray)++str (tellI l2)=str (Lib.itoa n++32::tellI l2)):=hid (by
   have e:(⟨#[32]⟩:ByteArray)=str [32]:=rfl
   rw[e,str_app,str_app,List.append_assoc];rfl)
  obtain⟨va2,vc2,rfl⟩:=g.1.len
  clear hx h g hW
  generalize TE (Lib.itoa n++32::tellI l2) w=G at*
  generalize Lib.itoa n=A1 at*
  generalize tellI l2=A2 at*
  go_enter Tryz.func36,Tryz.ntmps36
  go_wp2_with fail
  refine HC.out.mono ?_
  rintro e w1 ⟨rfl,hb1⟩
  have HB1:=hid hb1
  clear hb1
  go_wp2_with fail
  refine(HT.out _ HB1.out).mono ?_
  rintro e w2 ⟨rfl,hb2⟩
  have HB2:=hid (HB1.out.trans (hb2.mono HB1.out.size))
  clear hb2
  go_wp2_with fail
  refine(HU.out _ HB2.out).mono ?_
  rintro e w3 ⟨rfl,hb3⟩
  have HB3:=hid (HB2.out.trans (hb3.mono HB2.out.size))
  have HZ:=hid (HG.out _ HB3.out)
  rw[←HE.out]at HZ
  clear hb3
  go_wp2
  exact HZ.out
 ·rw[if_neg hE]
  have HC:=hid (check_bad E (by omega) h6 w)
  have HG:=hid (fun w' (hb:Below w.heap.size w w')=>TE.bad (A:=errT E) hb)
  clear hx hW hE
  generalize TE (errT E) w=G at*
  have hbad:badE (errT E)= .panicked [{v:= .iface 36 (.string (str (errT E))),recovered:=false}]:=rfl
  rw[hbad]at HC HG
  clear hbad
  go_enter Tryz.func36,Tryz.ntmps36
  go_wp2_with fail
  refine HC.out.mono ?_
  rintro e w1 ⟨rfl,hb1⟩
  exact⟨rfl,HG.out _ hb1⟩
theorem both_int_int (n:Int) (n2:Int) (E:Int) (w:World) (h0:0≤E) (h6:E≤6) (hx:E=0→(I64 n)∧(I64 n2)) (hW:RunW w):
 Calls Tryz.prog 118 #[.int .i64 n,.int .i64 n2,.int .i64 E] w (TE (if E=0 then Lib.itoa n++32::Lib.itoa n2 else errT E) w):=by
 by_cases hE:E=0
 ·subst hE
  rw[if_pos rfl]
  obtain⟨h,g⟩:=hx rfl
  have HC:=hid (check_ok w)
  have HT:=hid (fun(w1:World) (hb:Below w.heap.size w w1)=>tell_int n w1 h (hW.below hb))
  have HU:=hid (fun(w1:World) (hb:Below w.heap.size w w1)=>tell_int n2 w1 g (hW.below hb))
  have HG:=hid (fun w' (hb:Below w.heap.size w w')=>TE.ret (A:=Lib.itoa n++32::Lib.itoa n2) hb)
  have z1:(str (Lib.itoa n)).size≤1000000:=by rw[str_size];exact itoa_le h
  have z2:(str (Lib.itoa n2)).size≤1000000:=by rw[str_size];exact itoa_le g
  have HE:Hid (str (Lib.itoa n)++(⟨#[32]⟩:ByteArray)++str (Lib.itoa n2)=str (Lib.itoa n++32::Lib.itoa n2)):=hid (by
   have e:(⟨#[32]⟩:ByteArray)=str [32]:=rfl
   rw[e,str_app,str_app,List.append_assoc];rfl)
  clear hx h g hW
  generalize TE (Lib.itoa n++32::Lib.itoa n2) w=G at*
  generalize Lib.itoa n=A1 at*
  generalize Lib.itoa n2=A2 at*
  go_enter Tryz.func118,Tryz.ntmps118
  go_wp2_with fail
  refine HC.out.mono ?_
  rintro e w1 ⟨rfl,hb1⟩
  have HB1:=hid hb1
  clear hb1
  go_wp2_with fail
  refine(HT.out _ HB1.out).mono ?_
  rintro e w2 ⟨rfl,hb2⟩
  have HB2:=hid (HB1.out.trans (hb2.mono HB1.out.size))
  clear hb2
  go_wp2_with fail
  refine(HU.out _ HB2.out).mono ?_
  rintro e w3 ⟨rfl,hb3⟩
  have HB3:=hid (HB2.out.trans (hb3.mono HB2.out.size))
  have HZ:=hid (HG.out _ HB3.out)
  rw[←HE.out]at HZ
  clear hb3
  go_wp2
  exact HZ.out
 ·rw[if_neg hE]
  have HC:=hid (check_bad E (by omega) h6 w)
  have HG:=hid (fun w' (hb:Below w.heap.size w w')=>TE.bad (A:=errT E) hb)
  clear hx hW hE
  generalize TE (errT E) w=G at*
  have hbad:badE (errT E)= .panicked [{v:= .iface 36 (.string (str (errT E))),recovered:=false}]:=rfl
  rw[hbad]at HC HG
  clear hbad
  go_enter Tryz.func118,Tryz.ntmps118
  go_wp2_with fail
  refine HC.out.mono ?_
  rintro e w1 ⟨rfl,hb1⟩
  exact⟨rfl,HG.out _ hb1⟩
theorem both_ints_int (v:Value) (l:List Int) (n2:Int) (E:Int) (w:World) (h0:0≤E) (h6:E≤6) (hx:E=0→(Sl w v l∧(∀x∈l,I64 x)∧l.length≤10000)∧(I64 n2)) (hW:RunW w):
 Calls Tryz.prog 223 #[v,.int .i64 n2,.int .i64 E] w (TE (if E=0 then tellI l++32::Lib.itoa n2 else errT E) w):=by
 by_cases hE:E=0
 ·subst hE
  rw[if_pos rfl]
  obtain⟨h,g⟩:=hx rfl
  have HC:=hid (check_ok w)
  have HT:=hid (fun(w1:World) (hb:Below w.heap.size w w1)=>tell_ints v l w1 (h.1.below hb) h.2.1 h.2.2 (hW.below hb))
  have HU:=hid (fun(w1:World) (hb:Below w.heap.size w w1)=>tell_int n2 w1 g (hW.below hb))
  have HG:=hid (fun w' (hb:Below w.heap.size w w')=>TE.ret (A:=tellI l++32::Lib.itoa n2) hb)
  have z1:(str (tellI l)).size≤1000000:=by rw[str_size];exact tellI_le h.2.1 h.2.2
  have z2:(str (Lib.itoa n2)).size≤1000000:=by rw[str_size];exact itoa_le g
  have HE:Hid (str (tellI l)++(⟨#[32]⟩:ByteArray)++str (Lib.itoa n2)=str (tellI l++32::Lib.itoa n2)):=hid (by
   have e:(⟨#[32]⟩:ByteArray)=str [32]:=rfl
   rw[e,str_app,str_app,List.append_assoc];rfl)
  obtain⟨va,vc,rfl⟩:=h.1.len
  clear hx h g hW
  generalize TE (tellI l++32::Lib.itoa n2) w=G at*
  generalize tellI l=A1 at*
  generalize Lib.itoa n2=A2 at*
  go_enter Tryz.func223,Tryz.ntmps223
  go_wp2_with fail
  refine HC.out.mono ?_
  rintro e w1 ⟨rfl,hb1⟩
  have HB1:=hid hb1
  clear hb1
  go_wp2_with fail
  refine(HT.out _ HB1.out).mono ?_
  rintro e w2 ⟨rfl,hb2⟩
  have HB2:=hid (HB1.out.trans (hb2.mono HB1.out.size))
  clear hb2
  go_wp2_with fail
  refine(HU.out _ HB2.out).mono ?_
  rintro e w3 ⟨rfl,hb3⟩
  have HB3:=hid (HB2.out.trans (hb3.mono HB2.out.size))
  have HZ:=hid (HG.out _ HB3.out)
  rw[←HE.out]at HZ
  clear hb3
  go_wp2
  exact HZ.out
 ·rw[if_neg hE]
  have HC:=hid (check_bad E (by omega) h6 w)
  have HG:=hid (fun w' (hb:Below w.heap.size w w')=>TE.bad (A:=errT E) hb)
  clear hx hW hE
  generalize TE (errT E) w=G at*
  have hbad:badE (errT E)= .panicked [{v:= .iface 36 (.string (str (errT E))),recovered:=false}]:=rfl
  rw[hbad]at HC HG
  clear hbad
  go_enter Tryz.func223,Tryz.ntmps223
  go_wp2_with fail
  refine HC.out.mono ?_
  rintro e w1 ⟨rfl,hb1⟩
  exact⟨rfl,HG.out _ hb1⟩
end Go.Proofs.YtnnaadmegeeinaaGreatDoor
