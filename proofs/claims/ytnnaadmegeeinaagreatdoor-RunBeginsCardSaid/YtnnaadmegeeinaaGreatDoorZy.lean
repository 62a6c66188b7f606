/-
  Part 25 of a proof: what it proves stands in the last text.
-/
import Derived.Test.YtnnaadmegeeinaaGreatDoorZx
set_option linter.unusedVariables false
set_option maxHeartbeats 8000000
set_option maxRecDepth 100000
namespace Go.Proofs.YtnnaadmegeeinaaGreatDoor
open Go.RowKit
def OpAt (ops:Array Oper) (i:Nat) (op:Op) (dst:Option Tmp):Prop:=∃o,ops[i]? =some o∧o.op=op∧o.dst=dst∧o.guard=none
theorem wpOp_at {ops:Array Oper} {i:Nat} {op:Op} {dst:Option Tmp} {P:Program} {Q:Exit→Act→World→Prop} {K:Act→World→Prop} {a:Act} {w w':World} {r:Value} (h:OpAt ops i op dst)
 (hr:∀o:Oper,o.op=op→(execOp a.eval o).run P w= .ok (.value r) w') (hK:K (a.put dst r) w'):wpOp P ops Q i K a w:=by
 obtain⟨o,h1,h2,h3,h4⟩:=h
 unfold wpOp
 simp only[h1]
 rw[if_pos (by simp[Region.wanted,h4])]
 left
 show o.upon P a K Q ((execOp a.eval o).run P w)
 rw[hr o h2]
 show K (a.put o.dst r) w'
 rw[h3]
 exact hK
theorem wpOp_by {ops:Array Oper} {i:Nat} {op:Op} {dst:Option Tmp} {P:Program} {Q:Exit→Act→World→Prop} {K:Act→World→Prop} {a:Act} {w:World} (h:OpAt ops i op dst)
 (hr:∀o:Oper,o.op=op→o.dst=dst→o.wp P a w K Q):wpOp P ops Q i K a w:=by
 obtain⟨o,h1,h2,h3,h4⟩:=h
 unfold wpOp
 simp only[h1]
 rw[if_pos (by simp[Region.wanted,h4])]
 exact .inl (hr o h2 h3)
theorem wpAny_inv {P:Program} {md:Region.Mode} {ops:Array Oper} {Q:Exit→Act→World→Prop} (Inv:Array Bool→Act→World→Prop)
 (hstep:∀listed a w,Inv listed a w→∀i∈Region.ready md ops listed,wpOp P ops Q i (fun a' w'=>Inv (listed.setIfInBounds i true) a' w') a w)
 (hend:∀listed a w,Inv listed a w→Region.ready md ops listed=[]→Q .normal a w):
 ∀(f:Nat) (listed:Array Bool) (a:Act) (w:World),listed.size=ops.size→(listed.toList.filter (·==false)).length≤f→Inv listed a w→wpAny P md ops Q f listed a w
 |0,listed,a,w,hs,hf,h=>by
  have h0:Region.ready md ops listed=[]:=by
   rw[List.eq_nil_iff_forall_not_mem]
   intro j hj
   obtain⟨h1,o,h2,_⟩:=mem_ready.1 hj
   have hlt:j<listed.size:=by rw[hs];exact(Array.getElem?_eq_some_iff.1 h2).1
   have h3:listed[j]=false:=by simpa [hlt]using h1
   have h4:(listed.toList.filter (·==false))=[]:=List.eq_nil_of_length_eq_zero (by omega)
   rw[List.filter_eq_nil_iff]at h4
   exact h4 listed[j] (by simp) (by rw[h3];rfl)
  exact⟨h0,hend _ _ _ h h0⟩
 |f+1,listed,a,w,hs,hf,h=>by
  refine⟨fun h0=>hend _ _ _ h h0,fun i hi=> ?_⟩
  refine wpOp_mono (fun a' w' h'=>wpAny_inv Inv hstep hend f _ a' w' (by simpa using hs) ?_ h') (hstep _ _ _ h i hi)
  obtain⟨h1,o,h2,_⟩:=mem_ready.1 hi
  have hlt:i<listed.size:=by rw[hs];exact(Array.getElem?_eq_some_iff.1 h2).1
  have h3:listed[i]=false:=by simpa [hlt]using h1
  have key:∀(l:List Bool) (i:Nat) (hi:i<l.length),l[i]=false→((l.set i true).filter (·==false)).length+1=(l.filter (·==false)).length:=by
   intro l
   induction l with
   |nil=>intro i hi;simp at hi
   |cons x l ih=>
    intro i hi hx
    cases i with
    |zero=>simp at hx;subst hx;simp
    |succ i=>
     simp only[List.set_cons_succ,List.filter_cons]
     have:=ih i (by simpa using hi) (by simpa using hx)
     cases x<;>simp at this⊢<;>omega
  have:=key listed.toList i (by simpa using hlt) (by simpa using h3)
  rw[Array.toList_setIfInBounds]
  omega
theorem listed_set {listed:Array Bool} {i j:Nat} (h:i<listed.size):(listed.setIfInBounds i true).getD j false=if i=j then true else listed.getD j false:=by
 by_cases e:i=j
 ·subst e;simp[h]
 ·simp[e]
theorem put_get {a:Act} {d j:Nat} {v:Value} (h:d<a.tmps.size):(a.put (some d) v).tmps.getD j undef=if d=j then v else a.tmps.getD j undef:=by
 show(a.tmps.setIfInBounds d v).getD j undef=_
 by_cases e:d=j
 ·subst e;simp[h]
 ·simp[e]
theorem put_size {a:Act} {d:Nat} {v:Value}:(a.put (some d) v).tmps.size=a.tmps.size:=by
 show(a.tmps.setIfInBounds d v).size=_
 simp
theorem waits_listed {ops:Array Oper} {listed:Array Bool} {i d:Nat} (hi:i∈Region.ready .any ops listed) (hd:Region.waitsFor .any ops i d=true):listed.getD d false=true:=by
 obtain⟨o,h1,e,h2,h3,h4⟩:=Region.waitsFor_spec hd
 obtain⟨_,o',h5,h6⟩:=mem_ready.1 hi
 rw[h1]at h5
 cases h5
 rw[←h4]
 exact h6 e h2 h3
def backB (ops:Array Oper):Bool:=(List.range ops.size).all fun j=>((ops[j]?).map fun o=>o.after.all fun e=>decide (e.on<j)).getD true
theorem all_listed {ops:Array Oper} {listed:Array Bool} {n:Nat} (hb:backB ops=true) (hl:listed.size=n) (hs:ops.size=n) (h0:Region.ready .any ops listed=[]):∀j,j<n→listed.getD j false=true:=by
 intro j
 induction j using Nat.strongRecOn with
 |_ j ih=>
  intro hj
  cases e:listed.getD j false with
  |true=>rfl
  |false=>
   exfalso
   have hlt:j<ops.size:=by omega
   have h1:j∈Region.ready .any ops listed:=by
    refine mem_ready.2 ⟨getD_in (by omega) e,ops[j],by simp[hlt],fun a ha _=> ?_⟩
    have h2:=List.all_eq_true.1 hb j (List.mem_range.2 hlt)
    rw[Array.getElem?_eq_getElem hlt]at h2
    simp only[Option.map_some,Option.getD_some]at h2
    have h3:=Array.all_eq_true_iff_forall_mem.1 h2 a ha
    have h4:a.on<j:=by simpa using h3
    exact ih a.on h4 (by omega)
   rw[h0]at h1
   cases h1
def valD (bR P x y:Nat) (D1 D2:List Nat):Nat→Value
 |0=> .pointer (some ⟨bR,0,none⟩)
 |1=> .pointer (some ⟨bR,0,none⟩)
 |2=> .int .i64 P
 |3=> .int .i64 x
 |4=> .agg (pv D1).toArray
 |5=> .pointer (some ⟨bR,0,none⟩)
 |6=> .pointer (some ⟨bR,0,none⟩)
 |7=> .int .i64 P
 |8=> .int .i64 y
 |_=> .agg (pv D2).toArray
structure InvD (s0 n bR P x y b7 b8:Nat) (D1 D2:List Nat) (T:Nat→Value) (cs:List Value) (W:World) (listed:Array Bool) (a:Act) (w:World):Prop where
 ls:listed.size=14
 ts:a.tmps.size=n
 df:a.defers=[]
 oth:∀j,j≠7→j≠8→(j<s0∨s0+10≤j)→a.tmps.getD j undef=T j
 rd:∀i,i<10→listed.getD i false=true→a.tmps.getD (s0+i) undef=valD bR P x y D1 D2 i
 bel:Below W.heap.size W w
 rm:Arr w bR 172 cs
 a7:listed.getD 10 false=true→a.tmps.getD 7 undef= .pointer (some ⟨b7,0,none⟩)∧W.heap.size≤b7∧Arr w b7 168 (if listed.getD 12 false=true then pv D1 else pv (List.replicate 7 0))
 a8:listed.getD 11 false=true→a.tmps.getD 8 undef= .pointer (some ⟨b8,0,none⟩)∧W.heap.size≤b8∧Arr w b8 168 (if listed.getD 13 false=true then pv D2 else pv (List.replicate 7 0))
 ne:listed.getD 10 false=true→listed.getD 11 false=true→b7≠b8
 o12:listed.getD 12 false=true→listed.getD 10 false=true
 o13:listed.getD 13 false=true→listed.getD 11 false=true
section
variable {s0 n bR P x y b7 b8:Nat} {D1 D2:List Nat} {T:Nat→Value} {cs:List Value} {W:World} {listed:Array Bool} {a:Act} {w w':World}
theorem InvD.read (h:InvD s0 n bR P x y b7 b8 D1 D2 T cs W listed a w) (hs:8<s0) (hn:s0+10≤n) {i:Nat} (hi:i<10) (hb:Below w.heap.size w w'):InvD s0 n bR P x y b7 b8 D1 D2 T cs W (listed.setIfInBounds i true) (a.put (some (s0+i)) (valD bR P x y D1 D2 i)) w':=by
 have hts:=h.ts
 have hls:=h.ls
 have hp:∀j,(a.put (some (s0+i)) (valD bR P x y D1 D2 i)).tmps.getD j undef=if s0+i=j then valD bR P x y D1 D2 i else a.tmps.getD j undef:=fun j=>put_get (by omega)
 have hl:∀j,(listed.setIfInBounds i true).getD j false=if i=j then true else listed.getD j false:=fun j=>listed_set (by omega)
 refine⟨by simp[h.ls],by rw[put_size];exact h.ts,h.df,?_,?_,h.bel.trans (hb.mono h.bel.size),h.rm.below hb,?_,?_,?_,?_,?_⟩
 ·intro j h7 h8 hj
  rw[hp,if_neg (by omega)]
  exact h.oth j h7 h8 hj
 ·intro j hj hlj
  rw[hp]
  by_cases e:i=j
  ·subst e;rw[if_pos rfl]
  ·rw[if_neg (by omega)]
   rw[hl,if_neg e]at hlj
   exact h.rd j hj hlj
 ·rw[(hl 10).trans (if_neg (by omega)),(hl 12).trans (if_neg (by omega)),(hp 7).trans (if_neg (by omega))]
  intro e
  obtain⟨h1,h2,h3⟩:=h.a7 e
  exact⟨h1,h2,h3.below hb⟩
 ·rw[(hl 11).trans (if_neg (by omega)),(hl 13).trans (if_neg (by omega)),(hp 8).trans (if_neg (by omega))]
  intro e
  obtain⟨h1,h2,h3⟩:=h.a8 e
  exact⟨h1,h2,h3.below hb⟩
 ·rw[(hl 10).trans (if_neg (by omega)),(hl 11).trans (if_neg (by omega))]
  exact h.ne
 ·rw[(hl 12).trans (if_neg (by omega)),(hl 10).trans (if_neg (by omega))]
  exact h.o12
 ·rw[(hl 13).trans (if_neg (by omega)),(hl 11).trans (if_neg (by omega))]
  exact h.o13
theorem InvD.alloc7 (h:InvD s0 n bR P x y b7 b8 D1 D2 T cs W listed a w) (hs:8<s0) (hn:s0+10≤n) (hno:listed.getD 10 false=false):InvD s0 n bR P x y w.heap.size b8 D1 D2 T cs W (listed.setIfInBounds 10 true) (a.put (some 7) (.pointer (some ⟨w.heap.size,0,none⟩))) (w.alloc (.cells (pv (List.replicate 7 0)).toArray 168)):=by
 have hts:=h.ts
 have hls:=h.ls
 have hp:∀j,(a.put (some 7) (.pointer (some ⟨w.heap.size,0,none⟩))).tmps.getD j undef=if 7=j then .pointer (some ⟨w.heap.size,0,none⟩)else a.tmps.getD j undef:=fun j=>put_get (by omega)
 have hl:∀j,(listed.setIfInBounds 10 true).getD j false=if 10=j then true else listed.getD j false:=fun j=>listed_set (by omega)
 have hbel:=h.bel.size
 have hb:Below w.heap.size w (w.alloc (.cells (pv (List.replicate 7 0)).toArray 168)):=(Below.refl _ _).alloc (Nat.le_refl _) _
 have hst:listed.getD 12 false=false:=by
  cases e:listed.getD 12 false with
  |false=>rfl
  |true=>have:=h.o12 e;rw[hno]at this;cases this
 refine⟨by simp[h.ls],by rw[put_size];exact h.ts,h.df,?_,?_,h.bel.trans (hb.mono h.bel.size),h.rm.below hb,?_,?_,?_,?_,?_⟩
 ·intro j h7 h8 hj
  rw[hp,if_neg (by omega)]
  exact h.oth j h7 h8 hj
 ·intro j hj hlj
  rw[hp,if_neg (by omega)]
  rw[hl,if_neg (by omega)]at hlj
  exact h.rd j hj hlj
 ·rw[(hl 10).trans (if_pos rfl),(hl 12).trans (if_neg (by omega)),(hp 7).trans (if_pos rfl),hst]
  intro _
  exact⟨rfl,hbel,Arr.new _ _ _⟩
 ·rw[(hl 11).trans (if_neg (by omega)),(hl 13).trans (if_neg (by omega)),(hp 8).trans (if_neg (by omega))]
  intro e
  obtain⟨h1,h2,h3⟩:=h.a8 e
  exact⟨h1,h2,h3.below hb⟩
 ·rw[(hl 10).trans (if_pos rfl),(hl 11).trans (if_neg (by omega))]
  intro _ e
  have:=(h.a8 e).2.2.lt
  omega
 ·rw[(hl 12).trans (if_neg (by omega)),(hl 10).trans (if_pos rfl)]
  exact fun _=>rfl
 ·rw[(hl 13).trans (if_neg (by omega)),(hl 11).trans (if_neg (by omega))]
  exact h.o13
theorem InvD.store7 (h:InvD s0 n bR P x y b7 b8 D1 D2 T cs W listed a w) (hbR:bR<W.heap.size) (hs:8<s0) (hn:s0+10≤n) (hyes:listed.getD 10 false=true) (hD:D1.length=7):InvD s0 n bR P x y b7 b8 D1 D2 T cs W (listed.setIfInBounds 12 true) (a.put none undef) (w.setCells b7 0 (pv D1)):=by
 have hts:=h.ts
 have hls:=h.ls
 have hl:∀j,(listed.setIfInBounds 12 true).getD j false=if 12=j then true else listed.getD j false:=fun j=>listed_set (by omega)
 obtain⟨e1,e2,e3⟩:=h.a7 hyes
 have hg:=grown_setCells (b:=b7) (pv D1) 0 w
 have hset:Arr (w.setCells b7 0 (pv D1)) b7 168 (pv D1):=by
  obtain⟨zs,hz1,hz2⟩:∃zs:List Value,Arr w b7 168 zs∧zs.length=7:=⟨_,e3,by cases listed.getD 12 false<;>simp[pv_len,hD]⟩
  exact Arr.setCells (pv D1) [] zs w hz1 (by rw[hz2,pv_len,hD])
 refine⟨by simp[h.ls],h.ts,h.df,h.oth,?_,h.bel.grown hg h.bel.size (fun k hk=>by cases hk;exact e2),h.rm.kept hg (fun e=>by cases e;omega),?_,?_,?_,?_,?_⟩
 ·intro j hj hlj
  rw[hl,if_neg (by omega)]at hlj
  exact h.rd j hj hlj
 ·rw[(hl 10).trans (if_neg (by omega)),(hl 12).trans (if_pos rfl),if_pos rfl]
  exact fun _=>⟨e1,e2,hset⟩
 ·rw[(hl 11).trans (if_neg (by omega)),(hl 13).trans (if_neg (by omega))]
  intro e
  obtain⟨h1,h2,h3⟩:=h.a8 e
  exact⟨h1,h2,h3.kept hg (fun e'=>h.ne hyes e (Option.some.inj e').symm)⟩
 ·rw[(hl 10).trans (if_neg (by omega)),(hl 11).trans (if_neg (by omega))]
  exact h.ne
 ·rw[(hl 10).trans (if_neg (by omega))]
  exact fun _=>hyes
 ·rw[(hl 11).trans (if_neg (by omega))]
  rw[(hl 13).trans (if_neg (by omega))]
  exact h.o13
theorem InvD.alloc8 (h:InvD s0 n bR P x y b7 b8 D1 D2 T cs W listed a w) (hs:8<s0) (hn:s0+10≤n) (hno:listed.getD 11 false=false):InvD s0 n bR P x y b7 w.heap.size D1 D2 T cs W (listed.setIfInBounds 11 true) (a.put (some 8) (.pointer (some ⟨w.heap.size,0,none⟩))) (w.alloc (.cells (pv (List.replicate 7 0)).toArray 168)):=by
 have hts:=h.ts
 have hls:=h.ls
 have hp:∀j,(a.put (some 8) (.pointer (some ⟨w.heap.size,0,none⟩))).tmps.getD j undef=if 8=j then .pointer (some ⟨w.heap.size,0,none⟩)else a.tmps.getD j undef:=fun j=>put_get (by omega)
 have hl:∀j,(listed.setIfInBounds 11 true).getD j false=if 11=j then true else listed.getD j false:=fun j=>listed_set (by omega)
 have hbel:=h.bel.size
 have hb:Below w.heap.size w (w.alloc (.cells (pv (List.replicate 7 0)).toArray 168)):=(Below.refl _ _).alloc (Nat.le_refl _) _
 have hst:listed.getD 13 false=false:=by
  cases e:listed.getD 13 false with
  |false=>rfl
  |true=>have:=h.o13 e;rw[hno]at this;cases this
 refine⟨by simp[h.ls],by rw[put_size];exact h.ts,h.df,?_,?_,h.bel.trans (hb.mono h.bel.size),h.rm.below hb,?_,?_,?_,?_,?_⟩
 ·intro j h7 h8 hj
  rw[hp,if_neg (by omega)]
  exact h.oth j h7 h8 hj
 ·intro j hj hlj
  rw[hp,if_neg (by omega)]
  rw[hl,if_neg (by omega)]at hlj
  exact h.rd j hj hlj
 ·rw[(hl 10).trans (if_neg (by omega)),(hl 12).trans (if_neg (by omega)),(hp 7).trans (if_neg (by omega))]
  intro e
  obtain⟨h1,h2,h3⟩:=h.a7 e
  exact⟨h1,h2,h3.below hb⟩
 ·rw[(hl 11).trans (if_pos rfl),(hl 13).trans (if_neg (by omega)),(hp 8).trans (if_pos rfl),hst]
  intro _
  exact⟨rfl,hbel,Arr.new _ _ _⟩
 ·rw[(hl 10).trans (if_neg (by omega)),(hl 11).trans (if_pos rfl)]
  intro e _
  have:=(h.a7 e).2.2.lt
  omega
 ·rw[(hl 12).trans (if_neg (by omega)),(hl 10).trans (if_neg (by omega))]
  exact h.o12
 ·rw[(hl 13).trans (if_neg (by omega)),(hl 11).trans (if_pos rfl)]
  exact fun _=>rfl
theorem InvD.store8 (h:InvD s0 n bR P x y b7 b8 D1 D2 T cs W listed a w) (hbR:bR<W.heap.size) (hs:8<s0) (hn:s0+10≤n) (hyes:listed.getD 11 false=true) (hD:D2.length=7):InvD s0 n bR P x y b7 b8 D1 D2 T cs W (listed.setIfInBounds 13 true) (a.put none undef) (w.setCells b8 0 (pv D2)):=by
 have hts:=h.ts
 have hls:=h.ls
 have hl:∀j,(listed.setIfInBounds 13 true).getD j false=if 13=j then true else listed.getD j false:=fun j=>listed_set (by omega)
 obtain⟨e1,e2,e3⟩:=h.a8 hyes
 have hg:=grown_setCells (b:=b8) (pv D2) 0 w
 have hset:Arr (w.setCells b8 0 (pv D2)) b8 168 (pv D2):=by
  obtain⟨zs,hz1,hz2⟩:∃zs:List Value,Arr w b8 168 zs∧zs.length=7:=⟨_,e3,by cases listed.getD 13 false<;>simp[pv_len,hD]⟩
  exact Arr.setCells (pv D2) [] zs w hz1 (by rw[hz2,pv_len,hD])
 refine⟨by simp[h.ls],h.ts,h.df,h.oth,?_,h.bel.grown hg h.bel.size (fun k hk=>by cases hk;exact e2),h.rm.kept hg (fun e=>by cases e;omega),?_,?_,?_,?_,?_⟩
 ·intro j hj hlj
  rw[hl,if_neg (by omega)]at hlj
  exact h.rd j hj hlj
 ·rw[(hl 10).trans (if_neg (by omega)),(hl 12).trans (if_neg (by omega))]
  intro e
  obtain⟨h1,h2,h3⟩:=h.a7 e
  exact⟨h1,h2,h3.kept hg (fun e'=>h.ne e hyes (Option.some.inj e'))⟩
 ·rw[(hl 11).trans (if_neg (by omega)),(hl 13).trans (if_pos rfl),if_pos rfl]
  exact fun _=>⟨e1,e2,hset⟩
 ·rw[(hl 10).trans (if_neg (by omega)),(hl 11).trans (if_neg (by omega))]
  exact h.ne
 ·rw[(hl 10).trans (if_neg (by omega))]
  rw[(hl 12).trans (if_neg (by omega))]
  exact h.o12
 ·rw[(hl 11).trans (if_neg (by omega))]
  exact fun _=>hyes
end
theorem digits_region {ops:Array Oper} {Q:Exit→Act→World→Prop} {s0 n bR P x y:Nat} {T:Nat→Value} {cs:List Value} {W:World} {a:Act}
 (hsz:ops.size=14) (q0:OpAt ops 0 (.fieldAddr 172 (.tmp 3) 0) (some s0)) (q1:OpAt ops 1 (.fieldAddr 60 (.tmp s0) 0) (some (s0+1))) (q2:OpAt ops 2 (.load 3 (.tmp (s0+1))) (some (s0+2))) (q3:OpAt ops 3 (.move (.tmp 1)) (some (s0+3)))
 (q4:OpAt ops 4 (.call {callee:= .value (.func 182),args:= #[.tmp (s0+2),.tmp (s0+3)],argTypes:= #[3,3]}) (some (s0+4)))
 (q5:OpAt ops 5 (.fieldAddr 172 (.tmp 3) 0) (some (s0+5))) (q6:OpAt ops 6 (.fieldAddr 60 (.tmp (s0+5)) 0) (some (s0+6))) (q7:OpAt ops 7 (.load 3 (.tmp (s0+6))) (some (s0+7))) (q8:OpAt ops 8 (.move (.tmp 2)) (some (s0+8)))
 (q9:OpAt ops 9 (.call {callee:= .value (.func 182),args:= #[.tmp (s0+7),.tmp (s0+8)],argTypes:= #[3,3]}) (some (s0+9)))
 (q10:OpAt ops 10 (.alloc 168) (some 7)) (q11:OpAt ops 11 (.alloc 168) (some 8)) (q12:OpAt ops 12 (.store 168 (.tmp 7) (.tmp (s0+4))) none) (q13:OpAt ops 13 (.store 168 (.tmp 8) (.tmp (s0+9))) none)
 (hdB:([(1,0),(2,1),(4,2),(4,3),(6,5),(7,6),(9,7),(9,8),(12,10),(12,4),(12,11),(13,11),(13,9),(13,12),(13,10)]:List (Nat×Nat)).all (fun p=>Region.waitsFor .any ops p.1 p.2)=true)
 (hback:backB ops=true) (hs:8<s0) (hn:s0+10≤n) (hP:2≤P) (hP2:P≤64) (hx:x<128) (hy:y<128)
 (hts:a.tmps.size=n) (hdf:a.defers=[]) (hT:∀j,j≠7→j≠8→(j<s0∨s0+10≤j)→a.tmps.getD j undef=T j) (t1:T 1= .int .i64 x) (t2:T 2= .int .i64 y) (t3:T 3= .pointer (some ⟨bR,0,none⟩))
 (hR:Arr W bR 172 cs) (hcs:cs[0]? =some (.int .i64 P))
 (hQ:∀a' w' b7 b8,a'.tmps.size=n→a'.defers=[]→(∀j,j≠7→j≠8→(j<s0∨s0+10≤j)→a'.tmps.getD j undef=T j)→a'.tmps.getD 7 undef= .pointer (some ⟨b7,0,none⟩)→a'.tmps.getD 8 undef= .pointer (some ⟨b8,0,none⟩)→W.heap.size≤b7→W.heap.size≤b8→b7≠b8→
   Arr w' b7 168 (pv (dgL P x 7))→Arr w' b8 168 (pv (dgL P y 7))→Arr w' bR 172 cs→Below W.heap.size W w'→Q .normal a' w'):
 wpAny Tryz.prog .any ops Q ops.size (Array.replicate ops.size false) a W:=by
 have hd:=List.all_eq_true.1 hdB
 have hrep:∀j,(Array.replicate ops.size false).getD j false=false:=fun j=>getD_replicate_false _ _
 refine wpAny_inv (fun l a w=>∃b7 b8,InvD s0 n bR P x y b7 b8 (dgL P x 7) (dgL P y 7) T cs W l a w) ?_ ?_ _ _ _ _ (by simp) ?_ ?_
 ·rintro listed z w ⟨b7,b8,h⟩ i hi
  have hni:listed.getD i true=false:=(mem_ready.1 hi).1
  have hi14:i<14:=by
   obtain⟨_,o,h2,_⟩:=mem_ready.1 hi
   have:=(Array.getElem?_eq_some_iff.1 h2).1
   omega
  have hni':listed.getD i false=false:=getD_both hni
  have dep:∀d,Region.waitsFor .any ops i d=true→listed.getD d false=true:=fun d hd=>waits_listed hi hd
  have rd:∀j,j<10→Region.waitsFor .any ops i j=true→z.tmps.getD (s0+j) undef=valD bR P x y (dgL P x 7) (dgL P y 7) j:=fun j hj hw=>h.rd j hj (dep j hw)
  have y1:z.tmps.getD 1 undef= .int .i64 x:=(h.oth 1 (by decide) (by decide) (.inl (by omega))).trans t1
  have y2:z.tmps.getD 2 undef= .int .i64 y:=(h.oth 2 (by decide) (by decide) (.inl (by omega))).trans t2
  have y3:z.tmps.getD 3 undef= .pointer (some ⟨bR,0,none⟩):=(h.oth 3 (by decide) (by decide) (.inl (by omega))).trans t3
  have k0:=h.rm.cell 0
  rw[hcs]at k0
  have hbr:=Below.refl w.heap.size w
  have hbR:=hR.lt
  have hi':i=0∨i=1∨i=2∨i=3∨i=4∨i=5∨i=6∨i=7∨i=8∨i=9∨i=10∨i=11∨i=12∨i=13:=by omega
  rcases hi' with rfl|rfl|rfl|rfl|rfl|rfl|rfl|rfl|rfl|rfl|rfl|rfl|rfl|rfl
  ·refine wpOp_at q0 (fun o ho=> ?_) ⟨b7,b8,h.read hs hn (i:=0) (by omega) hbr⟩
   unfold execOp
   simp only[ho,Act.eval,y3]
   go_simp
   all_goals (try rfl)
  ·have r0:z.tmps.getD s0 undef= .pointer (some ⟨bR,0,none⟩):=rd 0 (by omega) (hd (1,0) (by simp))
   refine wpOp_at q1 (fun o ho=> ?_) ⟨b7,b8,h.read hs hn (i:=1) (by omega) hbr⟩
   unfold execOp
   simp only[ho,Act.eval,r0]
   go_simp
   all_goals (try rfl)
  ·have r0:z.tmps.getD (s0+1) undef= .pointer (some ⟨bR,0,none⟩):=rd 1 (by omega) (hd (2,1) (by simp))
   refine wpOp_at q2 (fun o ho=> ?_) ⟨b7,b8,h.read hs hn (i:=2) (by omega) hbr⟩
   unfold execOp
   simp only[ho,Act.eval,r0]
   go_simp
   all_goals (try rfl)
  ·refine wpOp_at q3 (fun o ho=> ?_) ⟨b7,b8,h.read hs hn (i:=3) (by omega) hbr⟩
   unfold execOp
   simp only[ho,Act.eval,y1]
   go_simp
   all_goals (try rfl)
  ·have r2:z.tmps.getD (s0+2) undef= .int .i64 P:=rd 2 (by omega) (hd (4,2) (by simp))
   have r3:z.tmps.getD (s0+3) undef= .int .i64 x:=rd 3 (by omega) (hd (4,3) (by simp))
   refine wpOp_by q4 (fun o ho hdst=> ?_)
   unfold Oper.wp execOp
   simp only[ho]
   go_simp
   refine(digits_ok P x w hP hP2 hx).mono ?_
   rintro e w' ⟨rfl,hb⟩
   exact⟨b7,b8,h.read hs hn (i:=4) (by omega) hb⟩
  ·refine wpOp_at q5 (fun o ho=> ?_) ⟨b7,b8,h.read hs hn (i:=5) (by omega) hbr⟩
   unfold execOp
   simp only[ho,Act.eval,y3]
   go_simp
   all_goals (try rfl)
  ·have r0:z.tmps.getD (s0+5) undef= .pointer (some ⟨bR,0,none⟩):=rd 5 (by omega) (hd (6,5) (by simp))
   refine wpOp_at q6 (fun o ho=> ?_) ⟨b7,b8,h.read hs hn (i:=6) (by omega) hbr⟩
   unfold execOp
   simp only[ho,Act.eval,r0]
   go_simp
   all_goals (try rfl)
  ·have r0:z.tmps.getD (s0+6) undef= .pointer (some ⟨bR,0,none⟩):=rd 6 (by omega) (hd (7,6) (by simp))
   refine wpOp_at q7 (fun o ho=> ?_) ⟨b7,b8,h.read hs hn (i:=7) (by omega) hbr⟩
   unfold execOp
   simp only[ho,Act.eval,r0]
   go_simp
   all_goals (try rfl)
  ·refine wpOp_at q8 (fun o ho=> ?_) ⟨b7,b8,h.read hs hn (i:=8) (by omega) hbr⟩
   unfold execOp
   simp only[ho,Act.eval,y2]
   go_simp
   all_goals (try rfl)
  ·have r2:z.tmps.getD (s0+7) undef= .int .i64 P:=rd 7 (by omega) (hd (9,7) (by simp))
   have r3:z.tmps.getD (s0+8) undef= .int .i64 y:=rd 8 (by omega) (hd (9,8) (by simp))
   refine wpOp_by q9 (fun o ho hdst=> ?_)
   unfold Oper.wp execOp
   simp only[ho]
   go_simp
   refine(digits_ok P y w hP hP2 hy).mono ?_
   rintro e w' ⟨rfl,hb⟩
   exact⟨b7,b8,h.read hs hn (i:=9) (by omega) hb⟩
  ·refine wpOp_at (w':=w.alloc (.cells (pv (List.replicate 7 0)).toArray 168)) (r:= .pointer (some ⟨w.heap.size,0,none⟩)) q10 (fun o ho=> ?_) ⟨w.heap.size,b8,h.alloc7 hs hn hni'⟩
   unfold execOp
   simp only[ho]
   go_simp
   all_goals (try rfl)
  ·refine wpOp_at (w':=w.alloc (.cells (pv (List.replicate 7 0)).toArray 168)) (r:= .pointer (some ⟨w.heap.size,0,none⟩)) q11 (fun o ho=> ?_) ⟨b7,w.heap.size,h.alloc8 hs hn hni'⟩
   unfold execOp
   simp only[ho]
   go_simp
   all_goals (try rfl)
  ·refine wpOp_by q12 (fun o ho hdst=> ?_)
   have r4:z.tmps.getD (s0+4) undef= .agg (pv (dgL P x 7)).toArray:=rd 4 (by omega) (hd (12,4) (by simp))
   obtain⟨e1,e2,e3⟩:=h.a7 (dep 10 (hd (12,10) (by simp)))
   refine wp_store_mid 168 _ _ ho b7 0 (pv (dgL P x 7)).toArray e1 r4 ?_ ?_ (pv_one _) ?_
   ·have:=e3.there
    simpa [pv_len,dgL_len,apply_ite List.length]using this
   ·simp[pv_len,dgL_len]
    decide
   ·rw[hdst]
    exact⟨b7,b8,h.store7 hbR hs hn (dep 10 (hd (12,10) (by simp))) (dgL_len _ _ _)⟩
  ·refine wpOp_by q13 (fun o ho hdst=> ?_)
   have r4:z.tmps.getD (s0+9) undef= .agg (pv (dgL P y 7)).toArray:=rd 9 (by omega) (hd (13,9) (by simp))
   obtain⟨e1,e2,e3⟩:=h.a8 (dep 11 (hd (13,11) (by simp)))
   refine wp_store_mid 168 _ _ ho b8 0 (pv (dgL P y 7)).toArray e1 r4 ?_ ?_ (pv_one _) ?_
   ·have:=e3.there
    simpa [pv_len,dgL_len,apply_ite List.length]using this
   ·simp[pv_len,dgL_len]
    decide
   ·rw[hdst]
    exact⟨b7,b8,h.store8 hbR hs hn (dep 11 (hd (13,11) (by simp))) (dgL_len _ _ _)⟩
 ·rintro listed z w ⟨b7,b8,h⟩ h0
  have hall:=all_listed hback h.ls hsz h0
  obtain⟨e1,e2,e3⟩:=h.a7 (hall 10 (by omega))
  obtain⟨e4,e5,e6⟩:=h.a8 (hall 11 (by omega))
  rw[if_pos (hall 12 (by omega))]at e3
  rw[if_pos (hall 13 (by omega))]at e6
  exact hQ z w b7 b8 h.ts h.df h.oth e1 e4 e2 e5 (h.ne (hall 10 (by omega)) (hall 11 (by omega))) e3 e6 h.rm h.bel
 ·exact Nat.le_trans (List.length_filter_le _ _) (by simp)
 ·refine⟨0,0,by simp[hsz],hts,hdf,hT,fun i _ e=> ?_,Below.refl _ _,hR,fun e=> ?_,fun e=> ?_,fun e=> ?_,fun e=> ?_,fun e=> ?_⟩
  all_goals (rw[hrep]at e;cases e)
theorem arr_explode {t:Array Value} {n:Nat} (h:t.size=n):t=((List.range n).map fun j=>t.getD j undef).toArray:=by
 subst h
 apply Array.ext
 ·simp
 ·intro i h1 h2
  simp[h1]
theorem by_slots {n s0:Nat} {T:Nat→Value} {P:Act→World→Nat→Nat→Prop} (h:∀(f:Nat→Value) w' b7 b8,(∀j,j≠7→j≠8→(j<s0∨s0+10≤j)→f j=T j)→f 7= .pointer (some ⟨b7,0,none⟩)→f 8= .pointer (some ⟨b8,0,none⟩)→P ⟨((List.range n).map f).toArray,[]⟩ w' b7 b8):
 ∀(a':Act) w' b7 b8,a'.tmps.size=n→a'.defers=[]→(∀j,j≠7→j≠8→(j<s0∨s0+10≤j)→a'.tmps.getD j undef=T j)→a'.tmps.getD 7 undef= .pointer (some ⟨b7,0,none⟩)→a'.tmps.getD 8 undef= .pointer (some ⟨b8,0,none⟩)→P a' w' b7 b8:=by
 rintro⟨t,df⟩ w' b7 b8 h1 h2 h3 h4 h5
 simp only at h1 h2 h3 h4 h5
 subst h2
 rw[arr_explode h1]
 exact h _ w' b7 b8 h3 h4 h5
end Go.Proofs.YtnnaadmegeeinaaGreatDoor
namespace Go.Proofs.YtnnaadmegeeinaaGreatDoor
open Go.RowKit
def adL (P:Nat) (a b:List Nat) (j:Nat):List Nat:=(List.range 7).map fun i=>if i<j then(a.getD i 0+b.getD i 0)%P else a.getD i 0
theorem adL_len (P:Nat) (a b:List Nat) (j:Nat):(adL P a b j).length=7:=by simp[adL]
theorem adL_get {P:Nat} {a b:List Nat} {j i:Nat} (h:i<7):(adL P a b j).getD i 0=if i<j then(a.getD i 0+b.getD i 0)%P else a.getD i 0:=by
 rw[List.getD_eq_getElem?_getD,adL,List.getElem?_map,List.getElem?_range h]
 rfl
theorem adL_zero {P:Nat} {a b:List Nat} (h:a.length=7):adL P a b 0=a:=by
 apply List.ext_getElem
 ·rw[adL_len,h]
 ·intro i h1 h2
  have:=adL_get (P:=P) (a:=a) (b:=b) (j:=0) (i:=i) (by omega)
  rw[if_neg (by omega),List.getD_eq_getElem?_getD,List.getD_eq_getElem?_getD,List.getElem?_eq_getElem h1,List.getElem?_eq_getElem h2]at this
  exact this
theorem adL_succ {P:Nat} {a b:List Nat} {j:Nat} (hj:j<7):adL P a b (j+1)=(adL P a b j).set j ((a.getD j 0+b.getD j 0)%P):=by
 apply List.ext_getElem
 ·simp[adL_len]
 ·intro i h1 h2
  rw[adL_len]at h1
  simp only[adL,List.getElem_map,List.getElem_range,List.getElem_set]
  by_cases e:j=i
  ·subst e;simp
  ·by_cases e2:i<j
   ·rw[if_pos (by omega),if_neg e,if_pos e2]
   ·rw[if_neg (by omega),if_neg e,if_neg e2]
theorem adL_lt {P:Nat} {a b:List Nat} (hP:1≤P) (ha:∀j,a.getD j 0<P) (n:Nat):∀j,(adL P a b n).getD j 0<P:=by
 intro j
 by_cases h:j<7
 ·rw[adL_get h]
  split
  ·exact Nat.mod_lt _ (by omega)
  ·exact ha j
 ·rw[List.getD_eq_getElem?_getD,List.getElem?_eq_none (by rw[adL_len];omega)]
  exact hP
end Go.Proofs.YtnnaadmegeeinaaGreatDoor
