/-
  Part 24 of a proof: what it proves stands in the last text.
-/
import Derived.Test.YtnnaadmegeeinaaGreatDoorZw
set_option linter.unusedVariables false
set_option maxHeartbeats 8000000
set_option maxRecDepth 100000
namespace Go.Proofs.YtnnaadmegeeinaaGreatDoor
open Go.RowKit
theorem open_any (p k:Int) (u:Value) (low:List Int) (w:World) (ip:I64 p) (ik:I64 k) (hp:Prs w) (hu:Sl w u low) (hi64:∀x∈low,I64 x):
 Calls Tryz.prog 236 #[fldV p k u] w fun e w'=>e= .returned (.tuple #[opR p k u (ordF p k) (faE p k low),.int .i64 (faE p k low)])∧Below w.heap.size w w':=by
 by_cases h:ordF p k=0∨low.length≠k.toNat
 ·have h2:faE p k low≠0:=by
   by_cases h0:ordF p k=0
   ·rw[fa_bad h0];decide
   ·rw[fa_len h0 (h.resolve_left h0)];decide
  rw[opR,if_neg h2]
  exact open_bad p k u low w ik hp hu h
 ·have h0:ordF p k≠0:=fun e=>h (.inl e)
  have hl:low.length=k.toNat:=Classical.byContradiction fun e=>h (.inr e)
  obtain⟨P,K,rfl,rfl,_⟩:=ord_pos h0
  exact open_ok P K u low w hp hu h0 hl hi64
def wiE (p k:Int) (low es:List Int):Int:=if faE p k low=0 then(if es.any (ofF (ordF p k))=true then 1 else 0)else faE p k low
theorem wi_bad {p k:Int} {low es:List Int} (h:faE p k low≠0):wiE p k low es=faE p k low:=if_neg h
theorem wi_off {p k:Int} {low es:List Int} (h:faE p k low=0) {i:Nat} (hi:i<es.length) (h3:ofF (ordF p k) (es[i]?.getD 0)=true):wiE p k low es=1:=by
 rw[wiE,if_pos h,if_pos]
 exact List.any_eq_true.2 ⟨_,List.getElem_mem hi,by rw[List.getElem?_eq_getElem hi,Option.getD_some]at h3;exact h3⟩
theorem wi_in {p k:Int} {low es:List Int} (h:faE p k low=0) (h3:∀i,i<es.length→ofF (ordF p k) (es[i]?.getD 0)=false):wiE p k low es=0:=by
 rw[wiE,if_pos h,if_neg]
 intro hc
 obtain⟨x,hx,hx2⟩:=List.any_eq_true.1 hc
 obtain⟨i,hi,rfl⟩:=List.mem_iff_getElem.1 hx
 have:=h3 i hi
 rw[List.getElem?_eq_getElem hi,Option.getD_some,hx2]at this
 cases this
theorem fa_ord {p k:Int} {low:List Int} (h:faE p k low=0):ordF p k≠0:=fun h0=>by
 rw[fa_bad h0]at h;exact absurd h (by decide)
theorem with_any (p k:Int) (u v:Value) (low es:List Int) (w:World) (ip:I64 p) (ik:I64 k) (hp:Prs w) (hu:Sl w u low) (hi64:∀x∈low,I64 x) (hv:Sl w v es) (he64:∀x∈es,I64 x):
 Calls Tryz.prog 184 #[fldV p k u,v] w fun e w'=>e= .returned (.tuple #[opR p k u (ordF p k) (wiE p k low es),.int .i64 (wiE p k low es)])∧Below w.heap.size w w':=by
 have hO:=fun w1 (hb:Below w.heap.size w w1)=>open_any p k u low w1 ip ik (hp.below hb) (hu.below hb) hi64
 obtain⟨a,c,e1⟩:=hu.len
 subst e1
 generalize hLL:low.length=L at*
 have hR0:Arr ((w.alloc (.cells #[.int .i64 p,.int .i64 k,.slice a L c] 60)).alloc (.cells #[.int .i64 0,.int .i64 0,.slice none 0 0,.int .i64 0] 172)) (w.heap.size+1) 172 [.int .i64 0,.int .i64 0,.slice none 0 0,.int .i64 0]:=Arr.at1 (ys:=[.int .i64 0,.int .i64 0,.slice none 0 0,.int .i64 0])
 have hb0:=((Below.refl w.heap.size w).alloc (Nat.le_refl _) (.cells #[.int .i64 p,.int .i64 k,.slice a L c] 60)).alloc (by simp) (.cells #[.int .i64 0,.int .i64 0,.slice none 0 0,.int .i64 0] 172)
 have HC:=hid (hO _ hb0)
 have HS:=hid (And.intro hR0 hb0)
 have i4:(Tryz.prog.info? 172).map (·.size)=some 4:=by kernel_rfl
 clear hO hR0 hb0
 by_cases hz:faE p k low=0
 ·have HOFF:=hid (fun i hi h=>wi_off (es:=es) hz (i:=i) hi h)
  have HIN:=hid (fun h=>wi_in (es:=es) hz h)
  have hq:=fa_ord hz
  obtain⟨P,K,rfl,rfl,hpr,hp2,hp61,hk1,hk6,hq64,hord⟩:=ord_pos hq
  have hqs:ordF (P:Int) (K:Int)≤64:=by omega
  rw[hz]at HC
  unfold opR at HC
  rw[if_pos rfl]at HC
  unfold rmV fldV at HC
  have HI64:Hid (∀i,i<es.length→I64 (es[i]?.getD 0)):=hid (fun i hi=>he64 _ (by rw[List.getElem?_eq_getElem hi];exact List.getElem_mem _))
  obtain⟨av,cv,M,rfl,hM,hm1,hm2⟩:=hv.open
  rw[hM.out]at HOFF HIN HI64
  have HM2:=hid hm2
  clear hpr hord hq64 hz hq hu hv hm2 hp
  generalize ordF (P:Int) (K:Int)=Q at*
  generalize wiE (P:Int) (K:Int) low es=E at*
  unfold fldV
  go_enter Tryz.func184,Tryz.ntmps184
  go_wp2_with fail
  refine HC.out.mono ?_
  rintro e w2 ⟨rfl,hb2⟩
  have hR2:=HS.out.1.below hb2
  have hB2:=HS.out.2.trans (hb2.mono HS.out.2.size)
  have hO3:Arr (w2.alloc (.cells #[.int .i64 (P:Int),.int .i64 (K:Int),.slice a L c,.int .i64 (Q:Int)] 172)) w2.heap.size 172 [.int .i64 (P:Int),.int .i64 (K:Int),.slice a L c,.int .i64 (Q:Int)]:=Arr.new w2 _ _
  have hwl:=hR2.lt
  have H3:=hid (And.intro hO3 (And.intro (hR2.alloc (.cells #[.int .i64 (P:Int),.int .i64 (K:Int),.slice a L c,.int .i64 (Q:Int)] 172)) (hB2.alloc hB2.size (.cells #[.int .i64 (P:Int),.int .i64 (K:Int),.slice a L c,.int .i64 (Q:Int)] 172))))
  clear hb2 hR2 hB2 hO3 HS HC
  go_wp2
  go_loopw [9,21] (fun _ x wr=>∃i:Nat,i≤M∧x= .int .i64 i∧Hid (∀j,j<i→ofF Q (es[j]?.getD 0)=false)∧Arr wr w2.heap.size 172 [.int .i64 (P:Int),.int .i64 (K:Int),.slice a L c,.int .i64 (Q:Int)]∧Arr wr (w.heap.size+1) 172 [.int .i64 0,.int .i64 0,.slice none 0 0,.int .i64 0]∧Below w.heap.size w wr) (fun _ x _=>M-(intOf x).toNat)
  case atStart=>exact⟨0,Nat.zero_le _,rfl,hid (fun j hj=>by omega),H3.out.1,H3.out.2.1,H3.out.2.2⟩
  case round=>
   clear H3
   obtain⟨i,hi,rfl,hH,hO,hR,hb⟩:=hrel
   have k3:=hO.cell 3
   simp only[List.getElem?_cons_zero,List.getElem?_cons_succ]at k3
   by_cases hlt:i<M
   ·obtain⟨b,off,rfl,hbl,hc⟩:=HM2.out (by omega)
    have hca:=(hb.cell (p:=⟨b,off+i,none⟩) hbl).trans (hc i hlt)
    have hii:=HI64.out i hlt
    have HOFI:=hid (HOFF.out i hlt)
    have HNX:Hid (ofF Q (es[i]?.getD 0)=false→∀j,j<i+1→ofF Q (es[j]?.getD 0)=false):=hid (fun h j hj=>by
     by_cases e:j=i
     ·rw[e];exact h
     ·exact hH.out j (by omega))
    have hNi:(i:Int)<(M:Int):=by omega
    have t8:wr.there (w.heap.size+1) 0 (#[Value.int .i64 0,Value.int .i64 0,Value.slice none 0 0,Value.int .i64 0]:Array Value).size:=hR.there
    have hR9:Arr (wr.setCells (w.heap.size+1) 0 [Value.int .i64 0,Value.int .i64 0,Value.slice none 0 0,Value.int .i64 0]) (w.heap.size+1) 172 [Value.int .i64 0,Value.int .i64 0,Value.slice none 0 0,Value.int .i64 0]:=Arr.setCells [Value.int .i64 0,Value.int .i64 0,Value.slice none 0 0,Value.int .i64 0] [] _ wr hR rfl
    have hg9:=grown_setCells (b:=w.heap.size+1) [Value.int .i64 0,Value.int .i64 0,Value.slice none 0 0,Value.int .i64 0] 0 wr
    have H9:=hid (And.intro hR9 (hb.grown hg9 hb.size (fun k h=>by cases h;omega)))
    have HX:=hid (And.intro hO (And.intro hR hb))
    clear hc hH hO hR hb hR9 hg9
    generalize es[i]?.getD 0=x at*
    unfold I64 at hii
    by_cases hx0:x<0
    ·have hd:decide (x<0)=true:=decide_eq_true hx0
     have hE:=HOFI.out (by unfold ofF;rw[hd,Bool.true_or])
     subst hE
     clear HOFI HNX
     go_wp2_with (refine wpList_store_mid rfl 172 _ _ rfl (w.heap.size+1) 0 #[Value.int .i64 0,Value.int .i64 0,Value.slice none 0 0,Value.int .i64 0] rfl rfl t8 i4 (room_one _ _ _ _ _ _) ?_;show wpList _ _ _ _ _ (wr.setCells (w.heap.size+1) 0 [Value.int .i64 0,Value.int .i64 0,Value.slice none 0 0,Value.int .i64 0]))
     have hld:=run_loadVar_mid (P:=Tryz.prog) _ _ _ 172 _ _ H9.out.1.range Tryz.underlying172 rfl i4
     refine⟨rfl,.tuple #[rm0,.int .i64 1],?_,rfl,H9.out.2⟩
     show((results _ _).run _ _)=_
     simp[results,Tryz.f184,asAddr,hld,rm0,rmV]
    ·have hd:decide (x<0)=false:=decide_eq_false hx0
     by_cases hxp:(Q:Int)≤x
     ·have hd2:decide ((Q:Int)≤x)=true:=decide_eq_true hxp
      have hE:=HOFI.out (by unfold ofF;rw[hd,hd2];rfl)
      subst hE
      clear HOFI HNX
      go_wp2_with (refine wpList_store_mid rfl 172 _ _ rfl (w.heap.size+1) 0 #[Value.int .i64 0,Value.int .i64 0,Value.slice none 0 0,Value.int .i64 0] rfl rfl t8 i4 (room_one _ _ _ _ _ _) ?_;show wpList _ _ _ _ _ (wr.setCells (w.heap.size+1) 0 [Value.int .i64 0,Value.int .i64 0,Value.slice none 0 0,Value.int .i64 0]))
      have hld:=run_loadVar_mid (P:=Tryz.prog) _ _ _ 172 _ _ H9.out.1.range Tryz.underlying172 rfl i4
      refine⟨rfl,.tuple #[rm0,.int .i64 1],?_,rfl,H9.out.2⟩
      show((results _ _).run _ _)=_
      simp[results,Tryz.f184,asAddr,hld,rm0,rmV]
     ·have hd2:decide ((Q:Int)≤x)=false:=decide_eq_false hxp
      have HX2:=hid (HNX.out (by unfold ofF;rw[hd,hd2];rfl))
      clear HOFI HNX hd hd2 t8
      go_wp2
      go_roundw
      case rel=>exact⟨i+1,by omega,by go_num,HX2,HX.out.1,HX.out.2.1,HX.out.2.2⟩
      case measure=>simp[intOf]<;>omega
   ·obtain rfl:i=M:=by omega
    have hE:=HIN.out hH.out
    subst hE
    have r6:=hO.range
    have t8:wr.there (w.heap.size+1) 0 (#[Value.int .i64 (P:Int),Value.int .i64 (K:Int),Value.slice a L c,Value.int .i64 (Q:Int)]:Array Value).size:=hR.there
    have hR9:Arr (wr.setCells (w.heap.size+1) 0 [Value.int .i64 (P:Int),Value.int .i64 (K:Int),Value.slice a L c,Value.int .i64 (Q:Int)]) (w.heap.size+1) 172 [Value.int .i64 (P:Int),Value.int .i64 (K:Int),Value.slice a L c,Value.int .i64 (Q:Int)]:=Arr.setCells [Value.int .i64 (P:Int),Value.int .i64 (K:Int),Value.slice a L c,Value.int .i64 (Q:Int)] [] _ wr hR rfl
    have hg9:=grown_setCells (b:=w.heap.size+1) [Value.int .i64 (P:Int),Value.int .i64 (K:Int),Value.slice a L c,Value.int .i64 (Q:Int)] 0 wr
    have H9:=hid (And.intro hR9 (hb.grown hg9 hb.size (fun k h=>by cases h;omega)))
    clear hH hO hR hb hR9 hg9 HOFF HIN k3
    go_wp2_with (first
     |(refine wpList_load_mid rfl 172 _ rfl w2.heap.size 0 rfl [.int .i64 (P:Int),.int .i64 (K:Int),.slice a L c,.int .i64 (Q:Int)] _ r6 Tryz.underlying172 rfl i4 ?_)
     |(refine wpList_store_mid rfl 172 _ _ rfl (w.heap.size+1) 0 #[Value.int .i64 (P:Int),Value.int .i64 (K:Int),Value.slice a L c,Value.int .i64 (Q:Int)] rfl rfl t8 i4 (room_one _ _ _ _ _ _) ?_;show wpList _ _ _ _ _ (wr.setCells (w.heap.size+1) 0 [Value.int .i64 (P:Int),Value.int .i64 (K:Int),Value.slice a L c,Value.int .i64 (Q:Int)])))
    have hld:=run_loadVar_mid (P:=Tryz.prog) _ _ _ 172 _ _ H9.out.1.range Tryz.underlying172 rfl i4
    refine⟨rfl,.tuple #[rmV P K (.slice a L c) Q,.int .i64 0],?_,rfl,H9.out.2⟩
    show((results _ _).run _ _)=_
    simp[results,Tryz.f184,asAddr,hld,rmV]
 ·have hw:=wi_bad (es:=es) hz
  rw[hw]
  unfold opR at HC⊢
  rw[if_neg hz]at HC⊢
  have hne:(faE p k low !=0)=true:=by simpa using hz
  obtain⟨av,cv,e2⟩:=hv.len
  subst e2
  generalize es.length=M at*
  generalize faE p k low=E at*
  unfold rm0 rmV fldV at*
  clear hu hv hp hw hz
  go_enter Tryz.func184,Tryz.ntmps184
  go_wp2_with fail
  refine HC.out.mono ?_
  rintro e w2 ⟨rfl,hb2⟩
  have hR2:=HS.out.1.below hb2
  have hB2:=HS.out.2.trans (hb2.mono HS.out.2.size)
  have hR3:=hR2.alloc (.cells #[.int .i64 0,.int .i64 0,.slice none 0 0,.int .i64 0] 172)
  have hB3:=hB2.alloc hB2.size (.cells #[.int .i64 0,.int .i64 0,.slice none 0 0,.int .i64 0] 172)
  have t8:(w2.alloc (.cells #[.int .i64 0,.int .i64 0,.slice none 0 0,.int .i64 0] 172)).there (w.heap.size+1) 0 (#[Value.int .i64 0,Value.int .i64 0,Value.slice none 0 0,Value.int .i64 0]:Array Value).size:=hR3.there
  have hR9:Arr ((w2.alloc (.cells #[.int .i64 0,.int .i64 0,.slice none 0 0,.int .i64 0] 172)).setCells (w.heap.size+1) 0 [Value.int .i64 0,Value.int .i64 0,Value.slice none 0 0,Value.int .i64 0]) (w.heap.size+1) 172 [Value.int .i64 0,Value.int .i64 0,Value.slice none 0 0,Value.int .i64 0]:=Arr.setCells [Value.int .i64 0,Value.int .i64 0,Value.slice none 0 0,Value.int .i64 0] [] _ _ hR3 rfl
  have hg9:=grown_setCells (b:=w.heap.size+1) [Value.int .i64 0,Value.int .i64 0,Value.slice none 0 0,Value.int .i64 0] 0 (w2.alloc (.cells #[.int .i64 0,.int .i64 0,.slice none 0 0,.int .i64 0] 172))
  have H9:=hid (And.intro hR9 (hB3.grown hg9 hB3.size (fun k h=>by cases h;omega)))
  clear hb2 hR2 hB2 hR3 hB3 hR9 hg9
  go_wp2_with (refine wpList_store_mid rfl 172 _ _ rfl (w.heap.size+1) 0 #[Value.int .i64 0,Value.int .i64 0,Value.slice none 0 0,Value.int .i64 0] rfl rfl t8 i4 (room_one _ _ _ _ _ _) ?_;show wpList _ _ _ _ _ ((w2.alloc (.cells #[.int .i64 0,.int .i64 0,.slice none 0 0,.int .i64 0] 172)).setCells (w.heap.size+1) 0 [Value.int .i64 0,Value.int .i64 0,Value.slice none 0 0,Value.int .i64 0]))
  have hld:=run_loadVar_mid (P:=Tryz.prog) _ _ _ 172 _ _ H9.out.1.range Tryz.underlying172 rfl i4
  refine⟨rfl,.tuple #[.agg #[.int .i64 0,.int .i64 0,.slice none 0 0,.int .i64 0],.int .i64 E],?_,rfl,H9.out.2⟩
  show((results _ _).run _ _)=_
  simp[results,Tryz.f184,asAddr,hld]
theorem getD_take_lt {P:Nat} {l:List Nat} (h:∀j,l.getD j 0<P) (k:Nat):∀j,(l.take k).getD j 0<P:=by
 intro j
 have h0:=h 0
 rw[List.getD_eq_getElem?_getD,List.getElem?_take]
 split
 ·rw[←List.getD_eq_getElem?_getD];exact h j
 ·simp;omega
theorem getD_drop_lt {P:Nat} {l:List Nat} (h:∀j,l.getD j 0<P) (k:Nat):∀j,(l.drop k).getD j 0<P:=by
 intro j
 rw[List.getD_eq_getElem?_getD,List.getElem?_drop,←List.getD_eq_getElem?_getD]
 exact h _
theorem num_drop {P:Nat} {l:List Nat} {i:Nat} (hi:i<l.length):numL P (l.drop i)=l.getD i 0+P*numL P (l.drop (i+1)):=by
 rw[List.drop_eq_getElem_cons hi,numL,List.getD_eq_getElem?_getD,List.getElem?_eq_getElem hi]
 rfl
theorem number_ok (P K Q:Nat) (u:Value) (a:List Nat) (w:World) (hu:∃x n c,u= .slice x n c) (hP:2≤P) (hP2:P≤64) (hK:1≤K) (hK6:K≤6) (hq:P^K≤64) (ha:a.length=7) (hal:∀j,a.getD j 0<P):
 Calls Tryz.prog 238 #[rmV P K u Q,.agg (pv a).toArray] w fun e w'=>e= .returned (.int .i64 (numL P (a.take K)))∧Below w.heap.size w w':=by
 obtain⟨x,n,c,rfl⟩:=hu
 have hR:Arr ((w.alloc (.cells #[.int .i64 (P:Int),.int .i64 (K:Int),.slice x n c,.int .i64 (Q:Int)] 172)).alloc (.cells (pv a).toArray 168)) w.heap.size 172 [.int .i64 (P:Int),.int .i64 (K:Int),.slice x n c,.int .i64 (Q:Int)]:=(Arr.new w _ [.int .i64 (P:Int),.int .i64 (K:Int),.slice x n c,.int .i64 (Q:Int)]).alloc _
 have hA:Arr ((w.alloc (.cells #[.int .i64 (P:Int),.int .i64 (K:Int),.slice x n c,.int .i64 (Q:Int)] 172)).alloc (.cells (pv a).toArray 168)) (w.heap.size+1) 168 (pv a):=Arr.at1
 have hb:=((Below.refl w.heap.size w).alloc (Nat.le_refl _) (.cells #[.int .i64 (P:Int),.int .i64 (K:Int),.slice x n c,.int .i64 (Q:Int)] 172)).alloc (by simp) (.cells (pv a).toArray 168)
 have HS:=hid (And.intro hR (And.intro hA hb))
 have hlK:(a.take K).length=K:=by rw[List.length_take,ha];omega
 have HD:=hid (fun i (hi:i<K)=>num_drop (P:=P) (l:=a.take K) (i:=i) (by omega))
 have HG:Hid (∀i,i<K→(a.take K).getD i 0=a.getD i 0):=hid (fun i hi=>by rw[List.getD_eq_getElem?_getD,List.getElem?_take,if_pos hi,←List.getD_eq_getElem?_getD])
 have HE:Hid (numL P ((a.take K).drop K)=0):=hid (by rw[List.drop_eq_nil_of_le (by omega)];rfl)
 have H0:Hid (numL P ((a.take K).drop 0)=numL P (a.take K)):=hid rfl
 have HL:=hid hal
 have HBD:Hid (∀i,i≤K→numL P ((a.take K).drop i)≤64):=hid (fun i hi=>by
  have h1:=num_lt ((a.take K).drop i) (getD_drop_lt (getD_take_lt hal K) i)
  have h2:P^((a.take K).drop i).length≤P^K:=Nat.pow_le_pow_right (by omega) (by rw[List.length_drop];omega)
  omega)
 obtain⟨f,hf⟩:∃f:Nat→Nat,f=fun i=>numL P ((a.take K).drop i):=⟨_,rfl⟩
 have HF:Hid (∀i,numL P ((a.take K).drop i)=f i):=hid (fun i=>by rw[hf])
 generalize numL P (a.take K)=R at*
 clear hf hR hA hb hlK hal hq
 unfold rmV
 go_enter Tryz.func238,Tryz.ntmps238
 go_wp2
 generalize (w.alloc (.cells #[.int .i64 (P:Int),.int .i64 (K:Int),.slice x n c,.int .i64 (Q:Int)] 172)).alloc (.cells (pv a).toArray 168)=w0 at*
 go_loopw [5,6] (fun m i wr=>∃j:Nat,j≤K∧i= .int .i64 ((j:Int)-1)∧m= .int .i64 (f j:Nat)∧Arr wr w.heap.size 172 [.int .i64 (P:Int),.int .i64 (K:Int),.slice x n c,.int .i64 (Q:Int)]∧Arr wr (w.heap.size+1) 168 (pv a)∧Below w.heap.size w wr) (fun _ i _=>(intOf i+1).toNat)
 case atStart=>exact⟨K,Nat.le_refl _,rfl,by rw[←HF.out,HE.out];rfl,HS.out.1,HS.out.2.1,HS.out.2.2⟩
 case round=>
  clear HS
  obtain⟨j,hj,rfl,rfl,hR,hA,hb⟩:=hrel
  have k0:=hR.cell 0
  simp only[List.getElem?_cons_zero]at k0
  have HW:=hid (And.intro hR (And.intro hA hb))
  by_cases hpos:1≤j
  ·have hge:(0:Int)≤(j:Int)-1:=by omega
   have hd:=HD.out (j-1) (by omega)
   rw[show j-1+1=j by omega,HG.out (j-1) (by omega),HF.out,HF.out]at hd
   have hce:=hA.cell (j-1)
   rw[pv_get (by omega)]at hce
   have hx:=HL.out (j-1)
   have hbd:=HBD.out j hj
   rw[HF.out]at hbd
   have hbd2:=HBD.out (j-1) (by omega)
   rw[HF.out]at hbd2
   have n0:(j:Int)-1=((j-1:Nat):Int):=by omega
   have n1:(f j:Int)*(P:Int)=((P*f j:Nat):Int):=by rw[Int.natCast_mul,Int.mul_comm]
   have hm:P*f j≤4096:=Nat.mul_le_mul hP2 hbd
   have n2:((P*f j:Nat):Int)+((a.getD (j-1) 0:Nat):Int)=((f (j-1):Nat):Int):=by rw[hd];omega
   have hj7:((j-1:Nat):Int)<7:=by omega
   clear hR hA hb hd
   rw[n0]
   obtain⟨i,hi⟩:∃i,i=j-1:=⟨_,rfl⟩
   rw[←hi]at n0 n2 hj7 hx hbd2 hce⊢
   have hij:j=i+1:=by omega
   clear hi
   subst hij
   generalize P*f (i+1)=pf at*
   generalize f (i+1)=y at*
   obtain⟨z,hz⟩:∃z,z=f i:=⟨_,rfl⟩
   rw[←hz]at n2 hbd2
   have HZ:=hid hz
   clear hz
   generalize a.getD i 0=av at*
   go_wp2
   go_quiet (fail)
   go_wp2
   go_roundw
   case rel=>exact⟨i,by omega,by go_num,by rw[HZ.out],HW.out.1,HW.out.2.1,below_drewN HW.out.2.2 _⟩
   case measure=>simp[intOf]<;>omega
  ·obtain rfl:j=0:=by omega
   have HR:Hid (f 0=R):=hid (by rw[←HF.out];exact H0.out)
   clear hR hA hb
   go_wp2
   go_ret
   exact⟨by rw[←HR.out];rfl,HW.out.2.2⟩
end Go.Proofs.YtnnaadmegeeinaaGreatDoor
