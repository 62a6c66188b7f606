/-
  Part 3 of a proof: what it proves stands in the last text.
-/
import Derived.Test.YtnnaadmegeeinaaGreatDoorRows
import Derived.WalkKit
import Derived.Deep.QuietTactic
import Derived.BigQuiet
import Derived.StillTailTactics
import Derived.Outline
import Derived.Deep.DeepFit
import Derived.Deep.AppendLies
import Derived.Laws.AppendOwnNone
import Derived.WalkSpells
import Derived.Deep.RegionLaw
import Derived.ProofKit
import Derived.OpenShut
import Derived.SizedLaws
set_option linter.unusedVariables false
set_option maxHeartbeats 8000000
set_option maxRecDepth 100000
namespace Go.Proofs.YtnnaadmegeeinaaGreatDoor
open Go.RowKit
theorem below_drewN {B:Nat} {a w:World} (h:Below B a w) (n:Nat):Below B a (w.drewN n):=⟨h.os,h.tape,h.output,h.size,h.block⟩
theorem Tryz.info3:(Tryz.prog.info? 3).map (fun i=>(i.zero,i.size,i.bytes))=some (some (.int .i64 0),1,8):=by kernel_rfl
theorem hid {p:Prop} (h:p):Hid p:=h
def I64 (x:Int):Prop:= -9223372036854775808≤x∧x≤9223372036854775807
theorem I64.of_wf {x:Int} (h:(Lit.int .i64 x).wf=true):I64 x:=by
 simp only[Lit.wf,IntKind.min,IntKind.max,IntKind.signed,IntKind.bits,Bool.and_eq_true,decide_eq_true_eq,if_true]at h
 unfold I64
 omega
def Rd (w:World) (v:Value) (xs:List Value):Prop:=
 ∃a c,v= .slice a xs.length c∧(xs.length≤17592186044416∧xs.length≤c)∧(0<xs.length→∃b off,a=some ⟨b,off,none⟩∧b<w.heap.size∧∀i,i<xs.length→w.cell? ⟨b,off+i,none⟩=xs[i]?)
def Sl (w:World) (v:Value) (l:List Int):Prop:=Rd w v (l.map (Value.int .i64))
def Ow (E:TypeId) (B:Nat) (w:World) (v:Value) (xs:List Value):Prop:=w.ownsRow B E 1 v xs.length xs
def OI (B:Nat) (w:World) (v:Value) (l:List Int):Prop:=Ow 3 B w v (l.map (Value.int .i64))
section
variable {E:TypeId} {B:Nat} {w w':World} {v:Value} {xs:List Value}
theorem Ow.nil (E:TypeId) (B:Nat) (w:World):Ow E B w (.slice none 0 0) []:=World.ownsRow_nil _ _ _ _
theorem Ow.alloc (h:Ow E B w v xs) (o:Obj):Ow E B (w.alloc o) v xs:=World.ownsRow.alloc h o
theorem Ow.lt (h:Ow E B w v xs):∀k,v.ownBlock=some k→B≤k∧k<w.heap.size:=World.ownsRow.lt h
theorem Ow.mono {B':Nat} (h:Ow E B w v xs) (hb:B'≤B):Ow E B' w v xs:=by
 obtain⟨h1,h2⟩:=h
 refine⟨h1,h2.imp id ?_⟩
 rintro⟨g,cap,cur,e,hg,r⟩
 exact⟨g,cap,cur,e,Nat.le_trans hb hg,r⟩
theorem Ow.kept {row:Option Nat} (h:Ow E B w v xs) (hg:w.grownBy w' row) (hne:v.ownBlock=none∨v.ownBlock≠row):Ow E B w' v xs:=World.ownsRow.kept h hg hne
theorem Ow.below (h:Ow E B w v xs) (hb:Below w.heap.size w w'):Ow E B w' v xs:=by
 obtain⟨h1,h2⟩:=h
 refine⟨h1,h2.imp id ?_⟩
 rintro⟨g,cap,cur,e,hg,hh,r⟩
 exact⟨g,cap,cur,e,hg,by rw[hb.block g (Array.getElem?_eq_some_iff.1 hh).1];exact hh,r⟩
theorem Ow.len (h:Ow E B w v xs):∃a c,v= .slice a xs.length c:=by
 rcases h.2 with⟨rfl,h0⟩|⟨g,cap,cur,rfl,_⟩
 ·exact⟨none,0,by rw[h0]⟩
 ·exact⟨_,_,rfl⟩
theorem Ow.form (h:Ow E B w v xs) (hn:0<xs.length):∃g c,v= .slice (some ⟨g,0,none⟩) xs.length c∧B≤g∧g<w.heap.size:=World.ownsRow.form h hn
theorem Ow.cell {g n c:Nat} (h:Ow E B w (.slice (some ⟨g,0,none⟩) n c) xs) (i:Nat) (hi:i<xs.length):w.cell? ⟨g,i,none⟩=xs[i]? :=by
 obtain⟨a,c',e⟩:=h.len
 simp only[Value.slice.injEq]at e
 obtain⟨_,rfl,_⟩:=e
 exact World.ownsRow.cellAt h i (by omega)
theorem Ow.frozen {g n c:Nat} (h:Ow E B w (.slice (some ⟨g,0,none⟩) n c) xs) (i:Nat):w.frozen? ⟨g,i,none⟩=false:=by
 obtain⟨a,c',e⟩:=h.len
 simp only[Value.slice.injEq]at e
 obtain⟨_,rfl,_⟩:=e
 exact World.ownsRow.frozenAt h i
theorem Ow.rd (h:Ow E B w v xs) (hl:xs.length≤17592186044416):Rd w v xs:=by
 rcases h.2 with⟨rfl,h0⟩|⟨g,cap,cur,rfl,hb,hg,hnc,hcm,hcs,htake⟩
 ·exact⟨none,0,by rw[h0],by omega,fun hp=>by omega⟩
 ·exact⟨_,_,rfl,by omega,fun _=>⟨g,0,rfl,(Array.getElem?_eq_some_iff.1 hg).1,fun i hi=>by rw[Nat.zero_add];exact Ow.cell h i hi⟩⟩
theorem Ow.cap {a:Option Addr} {n c:Nat} (h:Ow E B w (.slice a n c) xs):n≤c∧n=xs.length:=by
 rcases h.2 with⟨h1,h0⟩|⟨g,cap,cur,h1,hb,hg,hnc,hcm,hcs,htake⟩
 ·simp only[Value.slice.injEq]at h1
  omega
 ·simp only[Value.slice.injEq]at h1
  omega
theorem Ow.stored {g n c:Nat} (h:Ow E B w (.slice (some ⟨g,0,none⟩) n c) xs) (i:Nat) (u:Value):
 Ow E B (w.setCell ⟨g,i,none⟩ u) (.slice (some ⟨g,0,none⟩) n c) (xs.set i u)∧w.grownBy (w.setCell ⟨g,i,none⟩ u) (some g):=by
 obtain⟨a,c',e⟩:=h.len
 simp only[Value.slice.injEq]at e
 obtain⟨_,rfl,_⟩:=e
 have:=World.ownsRow.stored h i u
 refine⟨?_,this.2⟩
 unfold Ow
 rw[List.length_set]
 exact this.1
theorem Ow.lit (E:TypeId) (B:Nat) (w:World) (cs:Array Value) (n:Nat) (hb:B≤w.heap.size) (hn:cs.size=n) (hm:n≤1000000000000):Ow E B (w.alloc (.cells cs E)) (.slice (some ⟨w.heap.size,0,none⟩) n n) cs.toList:=by
 have:=World.ownsRow_lit (base:=B) (e:=E) (size:=1) w cs n hb (by unfold maxLen;omega) (by omega)
 unfold Ow
 rw[Array.length_toList,hn]
 exact this
theorem Rd.below (h:Rd w v xs) (hb:Below w.heap.size w w'):Rd w' v xs:=by
 obtain⟨a,c,hv,hl,hc⟩:=h
 refine⟨a,c,hv,hl,fun h0=> ?_⟩
 obtain⟨b,off,ha,hlt,hcell⟩:=hc h0
 exact⟨b,off,ha,Nat.lt_of_lt_of_le hlt hb.size,fun i hi=>(hb.cell (p:=⟨b,off+i,none⟩) hlt).trans (hcell i hi)⟩
theorem Rd.slice {a:Option Addr} {n c lo hi:Nat} (h:Rd w (.slice a n c) xs) (h1:lo≤hi) (h2:hi≤n):Rd w (.slice (if c=lo then a else a.map (·.add lo)) (hi-lo) (c-lo)) ((xs.drop lo).take (hi-lo)):=by
 obtain⟨a',c',hv,hl,hc⟩:=h
 simp only[Value.slice.injEq]at hv
 obtain⟨rfl,rfl,rfl⟩:=hv
 have hlen:((xs.drop lo).take (hi-lo)).length=hi-lo:=by rw[List.length_take,List.length_drop];omega
 refine⟨_,_,by rw[hlen],by omega,fun h0=> ?_⟩
 rw[hlen]at h0⊢
 obtain⟨b,off,rfl,hlt,hcell⟩:=hc (by omega)
 rw[if_neg (by omega)]
 refine⟨b,off+lo,?_,hlt,fun i hi'=> ?_⟩
 ·simp only[Option.map_some,Addr.add]
  split
  ·rename_i h3;subst h3;simp
  ·rfl
 ·rw[Nat.add_assoc,hcell (lo+i) (by omega),List.getElem?_take,if_pos hi',List.getElem?_drop]
end
section
variable {B:Nat} {w w':World} {v:Value} {l:List Int}
theorem OI.nil (B:Nat) (w:World):OI B w (.slice none 0 0) []:=World.ownsRow_nil _ _ _ _
theorem OI.alloc (h:OI B w v l) (o:Obj):OI B (w.alloc o) v l:=Ow.alloc h o
theorem OI.drew (h:OI B w v l):OI B w.drew v l:=h
theorem OI.drewN (h:OI B w v l) (n:Nat):OI B (w.drewN n) v l:=h
theorem OI.lt (h:OI B w v l):∀k,v.ownBlock=some k→B≤k∧k<w.heap.size:=Ow.lt h
theorem OI.mono {B':Nat} (h:OI B w v l) (hb:B'≤B):OI B' w v l:=Ow.mono h hb
theorem OI.kept {row:Option Nat} (h:OI B w v l) (hg:w.grownBy w' row) (hne:v.ownBlock=none∨v.ownBlock≠row):OI B w' v l:=Ow.kept h hg hne
theorem OI.below (h:OI B w v l) (hb:Below w.heap.size w w'):OI B w' v l:=Ow.below h hb
theorem OI.len (h:OI B w v l):∃a c,v= .slice a l.length c:=by simpa using Ow.len h
theorem OI.cap {a:Option Addr} {n c:Nat} (h:OI B w (.slice a n c) l):n≤c:=(Ow.cap h).1
theorem OI.form (h:OI B w v l) (hn:0<l.length):∃g c,v= .slice (some ⟨g,0,none⟩) l.length c∧B≤g∧g<w.heap.size:=by simpa using Ow.form h (by simpa using hn)
theorem OI.cell {g n c:Nat} (h:OI B w (.slice (some ⟨g,0,none⟩) n c) l) (i:Nat) (hi:i<l.length):w.cell? ⟨g,i,none⟩=some (.int .i64 (l.getD i 0)):=by
 rw[Ow.cell h i (by simpa using hi)];simp[hi]
theorem OI.frozen {g n c:Nat} (h:OI B w (.slice (some ⟨g,0,none⟩) n c) l) (i:Nat):w.frozen? ⟨g,i,none⟩=false:=Ow.frozen h i
theorem OI.stored {g n c:Nat} (h:OI B w (.slice (some ⟨g,0,none⟩) n c) l) (i:Nat) (x:Int):
 OI B (w.setCell ⟨g,i,none⟩ (.int .i64 x)) (.slice (some ⟨g,0,none⟩) n c) (l.set i x)∧w.grownBy (w.setCell ⟨g,i,none⟩ (.int .i64 x)) (some g):=by
 have:=Ow.stored h i (.int .i64 x)
 rw[←List.map_set]at this
 exact this
theorem OI.snoc {x:Int} (h:Ow 3 B w v (l.map (Value.int .i64)++[.int .i64 x])):OI B w v (l++[x]):=by unfold OI;simpa using h
theorem OI.ofApp {m:List Int} (h:Ow 3 B w v (l.map (Value.int .i64)++m.map (Value.int .i64))):OI B w v (l++m):=by unfold OI;simpa using h
theorem OI.cast {l':List Int} (h:OI B w v l) (e:l=l'):OI B w v l':=e▸h
theorem OI.grown {W:World} (h:OI B w v l) (hb:Below B W w) (hg:w.grownBy w' v.ownBlock) (hB:B≤w.heap.size):Below B W w':=hb.grown hg hB (fun k hk=>(h.lt k hk).1)
theorem OI.lit0 (B:Nat) (w:World) (hb:B≤w.heap.size):OI B (w.alloc (.cells #[] 3)) (.slice (some ⟨w.heap.size,0,none⟩) 0 0) []:=Ow.lit 3 B w #[] 0 hb rfl (by decide)
theorem ints_one (l:List Int):∀x∈l.map (Value.int .i64),x.oneCell'=true:=by intro x hx;simp only[List.mem_map]at hx;obtain⟨y,_,rfl⟩:=hx;rfl
theorem OI.lit1 (B:Nat) (w:World) (x:Int) (hb:B≤w.heap.size):OI B (w.alloc (.cells #[.int .i64 x] 3)) (.slice (some ⟨w.heap.size,0,none⟩) 1 1) [x]:=Ow.lit 3 B w #[.int .i64 x] 1 hb rfl (by decide)
theorem OI.take {g n c:Nat} (h:OI B w (.slice (some ⟨g,0,none⟩) n c) l) (m:Nat) (hm:m≤n):OI B w (.slice (some ⟨g,0,none⟩) m c) (l.take m):=by
 obtain⟨a,c',e⟩:=h.len
 simp only[Value.slice.injEq]at e
 obtain⟨_,rfl,_⟩:=e
 have hlen:((l.take m).map (Value.int .i64)).length=m:=by simp;omega
 unfold OI Ow
 rw[hlen]
 refine⟨by rw[hlen];omega,.inr ?_⟩
 rcases h.2 with⟨h1,_⟩|⟨g',cap,cur,h1,hb,hg,hnc,hcm,hcs,htake⟩
 ·simp at h1
 ·simp only[Value.slice.injEq,Option.some.injEq,Addr.mk.injEq,and_true]at h1
  obtain⟨rfl,_,rfl⟩:=h1
  refine⟨g,c,cur,rfl,hb,hg,by rw[List.length_map]at hnc;omega,hcm,hcs,?_⟩
  rw[List.map_take,←htake,List.take_take]
  congr 1
  simp
  omega
theorem OI.sl (h:OI B w v l) (hl:l.length≤17592186044416):Sl w v l:=Ow.rd h (by simpa using hl)
theorem Sl.below (h:Sl w v l) (hb:Below w.heap.size w w'):Sl w' v l:=Rd.below h hb
theorem Sl.drewN (h:Sl w v l) (n:Nat):Sl (w.drewN n) v l:=h
theorem Sl.out (h:Sl w v l):∃a c,v= .slice a l.length c∧(l.length≤17592186044416∧l.length≤c)∧(0<l.length→∃b off,a=some ⟨b,off,none⟩∧b<w.heap.size∧∀i,i<l.length→w.cell? ⟨b,off+i,none⟩=some (.int .i64 (l.getD i 0))):=by
 obtain⟨a,c,hv,hl,hc⟩:=h
 simp only[List.length_map]at hv hl hc
 refine⟨a,c,hv,hl,fun h0=> ?_⟩
 obtain⟨b,off,ha,hlt,hcell⟩:=hc h0
 exact⟨b,off,ha,hlt,fun i hi=>by rw[hcell i hi];simp[hi]⟩
def Apart (v u:Value):Prop:=∀g,v.ownBlock=some g→u.ownBlock≠some g
theorem OI.keptA {B B':Nat} {w w':World} {v u:Value} {l m:List Int} (h:OI B w u l) (_ho:OI B' w v m) (hg:w.grownBy w' v.ownBlock) (ha:Apart v u):OI B w' u l:=by
 refine OI.kept h hg ?_
 cases hv:v.ownBlock with
 |none=>
  cases hu:u.ownBlock with
  |none=>exact .inl rfl
  |some x=>right;simp
 |some g=>right;exact ha g hv
theorem Apart.nil (u:Value):Apart (.slice none 0 0) u:=fun g h=>by simp[Value.ownBlock]at h
theorem Apart.fresh {B:Nat} {w w':World} {v u:Value} {l m:List Int} (hv:OI B w v l) (hu:OI w.heap.size w' u m):Apart v u:=by
 intro g hg e
 have h1:=(hv.lt g hg).2
 have h2:=(hu.lt g e).1
 omega
theorem Sl.len (h:Sl w v l):∃a c,v= .slice a l.length c:=by
 obtain⟨a,c,hv,_⟩:=h
 exact⟨a,c,by simpa using hv⟩
theorem Sl.open (h:Sl w v l):∃a c N,v= .slice a N c∧Hid (l.length=N)∧(N≤17592186044416∧N≤c)∧(0<N→∃b off,a=some ⟨b,off,none⟩∧b<w.heap.size∧∀i,i<N→w.cell? ⟨b,off+i,none⟩=some (.int .i64 (l[i]?.getD 0))):=by
 obtain⟨a,c,hv,hl,hc⟩:=h.out
 exact⟨a,c,l.length,hv,hid rfl,hl,hc⟩
theorem Sl.slice {a:Option Addr} {n c lo hi:Nat} (h:Sl w (.slice a n c) l) (h1:lo≤hi) (h2:hi≤n):Sl w (.slice (if c=lo then a else a.map (·.add lo)) (hi-lo) (c-lo)) ((l.drop lo).take (hi-lo)):=by
 have:=Rd.slice h h1 h2
 unfold Sl
 simpa using this
theorem Sl.mid {b off n c i j:Nat} (h:Sl w (.slice (some ⟨b,off,none⟩) n c) l) (h1:i<j) (h2:j≤n):Sl w (.slice (some ⟨b,off+i,none⟩) (j-i) (c-i)) ((l.drop i).take (j-i)):=by
 obtain⟨a',c',hv,hl,hc⟩:=h.out
 simp only[Value.slice.injEq]at hv
 obtain⟨rfl,rfl,rfl⟩:=hv
 have:=h.slice (lo:=i) (hi:=j) (by omega) h2
 rw[if_neg (by omega)]at this
 have e:(some (⟨b,off,none⟩:Addr)).map (·.add i)=some ⟨b,off+i,none⟩:=by
  simp only[Option.map_some,Addr.add]
  split
  ·rename_i h3;subst h3;simp
  ·rfl
 rw[e]at this
 exact this
theorem Sl.nil' (a:Option Addr) (c:Nat):Sl w (.slice a 0 c) []:=⟨a,c,rfl,by simp,fun h=>by simp at h⟩
end
theorem lit_cell (w:World) (x:Value) (t:TypeId):(w.alloc (.cells #[x] t)).cell? ⟨w.heap.size,0,none⟩=some x:=by simp
theorem lit_cell_at (w:World) (x:Value) (t:TypeId) (H:Nat) (h:w.heap.size=H):(w.alloc (.cells #[x] t)).cell? ⟨H,0,none⟩=some x:=by subst h;simp
theorem lit_cell_drew (w:World) (x:Value) (t:TypeId):(w.alloc (.cells #[x] t)).drew.cell? ⟨w.heap.size,0,none⟩=some x:=by simp
theorem wpList_app {P:Program} {ops:Array Oper} {rest:List Oper} {o:Oper} {a:Act} {Q:Exit→Act→World→Prop} {w:World} {x:Value} {H:Nat} (w0:World) (s y:Operand) (st E:TypeId) (z:Value) (bytes:Nat)
 (hgd:o.guard=none) (ho:o.op= .call {callee:= .builtin .append,args:= #[s,y],argTypes:= #[st,st]})
 (ht:P.underlying st=some (.slice E)) (hi:(P.info? E).map (fun i=>(i.zero,i.size,i.bytes))=some (some z,1,bytes)) (hzs:z.cells.size=1) (hbt:bytes≤100)
 (B:Nat) (v:Value) (xs:List Value) (hs:a.eval s=v) (hown:Ow E B w0 v xs) (hy:a.eval y= .slice (some ⟨H,0,none⟩) 1 1)
 (hx:x.oneCell'=true) (hlen:xs.length≤1000000000000) (hB:B≤w0.heap.size)
 (h:∀g c w',Ow E B w' (.slice (some ⟨g,0,none⟩) (xs.length+1) c) (xs++[x])→w0.grownBy w' v.ownBlock→(v.ownBlock=some g∨w0.heap.size≤g)→g<w'.heap.size→wpList P ops Q rest (a.put o.dst (.slice (some ⟨g,0,none⟩) (xs.length+1) c)) w')
 (h0:Below w0.heap.size w0 w:=by first|exact(Below.refl _ _).alloc (Nat.le_refl _) _|exact((Below.refl _ _).alloc (Nat.le_refl _) _).drew|exact((Below.refl _ _).drew).alloc (Nat.le_refl _) _)
 (hcell:w.cell? ⟨H,0,none⟩=some x:=by first|exact lit_cell _ _ _|exact lit_cell_drew _ _ _|exact lit_cell_at _ _ _ _ (by simp[World.setCell])|go_simp):
 wpList P ops Q (o::rest) a w:=by
 obtain⟨i0,hi1,hz0,hz1,hz2⟩:=info_parts hi
 have hsz:=h0.size
 refine wpList_append_lies (P:=P) (w:=w) hgd s y st ho B E i0 z 1 bytes ht hi1 hz0 hz1 hz2 hzs (by decide) v xs.length xs hs (hown.below h0) ⟨H,0,none⟩ 1 1 [x] hy rfl ?_ ?_ (by decide) ?_ ?_ (by omega) _ rfl ?_
 ·intro j u hj
  match j,hj with
  |0,hj=>simp at hj;subst hj;simpa [Addr.add]using hcell
 ·intro u hu;simp at hu;subst hu;exact hx
 ·unfold maxLen;omega
 ·have:(xs.length+1)*bytes≤(xs.length+1)*100:=Nat.mul_le_mul_left _ hbt
  omega
 ·intro g cap w' h1 h2 h3 h4
  refine h g cap w' ?_ ?_ ?_ h4
  ·unfold Ow;simpa using h1
  ·exact⟨h2.os.trans h0.os,h2.tape.trans h0.tape,h2.output.trans h0.output,Nat.le_trans hsz h2.size,fun k hk hne=>(h2.block k (by omega) hne).trans (h0.block k hk)⟩
  ·rcases h3 with h3|h3
   ·exact .inl h3
   ·right;omega
theorem wpList_appi {P:Program} {ops:Array Oper} {rest:List Oper} {o:Oper} {a:Act} {Q:Exit→Act→World→Prop} {w:World} {x:Int} {H:Nat} (w0:World) (s y:Operand) (st:TypeId)
 (hgd:o.guard=none) (ho:o.op= .call {callee:= .builtin .append,args:= #[s,y],argTypes:= #[st,st]})
 (ht:P.underlying st=some (.slice 3)) (hi:(P.info? 3).map (fun i=>(i.zero,i.size,i.bytes))=some (some (.int .i64 0),1,8))
 (B:Nat) (v:Value) (l:List Int) (hs:a.eval s=v) (hown:OI B w0 v l) (hy:a.eval y= .slice (some ⟨H,0,none⟩) 1 1)
 (hlen:l.length≤1000000000000) (hB:B≤w0.heap.size)
 (h:∀g c w',OI B w' (.slice (some ⟨g,0,none⟩) (l.length+1) c) (l++[x])→w0.grownBy w' v.ownBlock→(v.ownBlock=some g∨w0.heap.size≤g)→g<w'.heap.size→wpList P ops Q rest (a.put o.dst (.slice (some ⟨g,0,none⟩) (l.length+1) c)) w')
 (h0:Below w0.heap.size w0 w:=by first|exact(Below.refl _ _).alloc (Nat.le_refl _) _|exact((Below.refl _ _).alloc (Nat.le_refl _) _).drew|exact((Below.refl _ _).drew).alloc (Nat.le_refl _) _)
 (hcell:w.cell? ⟨H,0,none⟩=some (.int .i64 x):=by first|exact lit_cell _ _ _|exact lit_cell_drew _ _ _|exact lit_cell_at _ _ _ _ (by simp[World.setCell])|go_simp):
 wpList P ops Q (o::rest) a w:=by
 refine wpList_app w0 s y st 3 (.int .i64 0) 8 hgd ho ht hi rfl (by decide) B v _ hs hown hy rfl (by simpa using hlen) hB (fun g c w' h1 h2 h3 h4=> ?_) h0 hcell
 have h1':=OI.snoc h1
 rw[List.length_map]at h1'⊢
 exact h g c w' h1' h2 h3 h4
theorem wpList_apps {P:Program} {ops:Array Oper} {rest:List Oper} {o:Oper} {a:Act} {Q:Exit→Act→World→Prop} {w:World} (s y:Operand) (st E:TypeId) (z:Value) (bytes:Nat)
 (hgd:o.guard=none) (ho:o.op= .call {callee:= .builtin .append,args:= #[s,y],argTypes:= #[st,st]})
 (ht:P.underlying st=some (.slice E)) (hi:(P.info? E).map (fun i=>(i.zero,i.size,i.bytes))=some (some z,1,bytes)) (hzs:z.cells.size=1) (hbt:bytes≤100)
 (B:Nat) (v u:Value) (xs ys:List Value) (hs:a.eval s=v) (hown:Ow E B w v xs) (hy:a.eval y=u) (hu:Rd w u ys) (h1:∀x∈ys,x.oneCell'=true)
 (hlen:xs.length+ys.length≤1000000000000) (hB:B≤w.heap.size)
 (h:∀v' w',Ow E B w' v' (xs++ys)→w.grownBy w' v.ownBlock→(∀g,v'.ownBlock=some g→v.ownBlock=some g∨w.heap.size≤g)→wpList P ops Q rest (a.put o.dst v') w'):
 wpList P ops Q (o::rest) a w:=by
 obtain⟨i0,hi1,hz0,hz1,hz2⟩:=info_parts hi
 obtain⟨ad,c,rfl,hl,hc⟩:=hu
 rcases Nat.eq_zero_or_pos ys.length with h0|h0
 ·obtain rfl:ys=[]:=List.eq_nil_of_length_eq_zero h0
  cases ad with
  |none=>
   have hr:(Builtin.append_ #[st,st] o.type #[v,.slice none 0 c]).run P w= .ok v w:=by
    have hown':w.ownsRow B E 1 v xs.length xs:=hown
    rcases hown'.2 with⟨rfl,_⟩|⟨g,cap,cur,rfl,_,_,hnc,_⟩
    ·simp[Builtin.append_,run_underlying ht,sizeOf,typeInfo,hi1,Builtin.lenOf,Builtin.firstCells]
    ·simp[Builtin.append_,run_underlying ht,sizeOf,typeInfo,hi1,Builtin.lenOf,Builtin.firstCells,hnc,storeCells]
   refine wpList_plain hgd fun K hK=> ?_
   unfold Oper.wp execOp
   simp only[ho,resolve,invoke,builtin,Sem.run_bind,Sem.run_pure,Result.andThen_ok,List.map_toArray,List.map_cons,List.map_nil,hs,hy,List.length_nil,hr]
   refine hK _ _ (h v w (by simpa using hown) ⟨rfl,rfl,rfl,Nat.le_refl _,fun _ _ _=>rfl⟩ (fun g hg=> .inl hg))
  |some ad=>
   refine wpList_append_own_at (P:=P) w hgd s y st ho B E i0 z 1 bytes ht hi1 hz0 hz1 hz2 hzs (by decide) v xs.length xs hs hown ad 0 c [] hy rfl (by simp) (by simp) (by unfold maxLen;simp at hlen;omega) ?_ hB ?_
   ·have:(xs.length+0)*bytes≤(xs.length+0)*100:=Nat.mul_le_mul_left _ hbt
    simp at hlen;omega
   ·intro v' w' h2 h3 _ h5
    refine h v' w' (by unfold Ow;simpa using h2) h3 (fun g hg=> ?_)
    rcases h5 with h5|h5
    ·exact .inl (by rw[←h5];exact hg)
    ·right;rw[h5]at hg;simp at hg;omega
 ·obtain⟨b,off,rfl,hb,hcell⟩:=hc h0
  refine wpList_append_lies (P:=P) (w:=w) hgd s y st ho B E i0 z 1 bytes ht hi1 hz0 hz1 hz2 hzs (by decide) v xs.length xs hs hown ⟨b,off,none⟩ ys.length c ys hy (by simp) ?_ h1 h0 ?_ ?_ hB _ rfl ?_
  ·intro j u hj
   have hlt:j<ys.length:=(List.getElem?_eq_some_iff.1 hj).1
   have:=hcell j hlt
   rw[hj]at this
   have hadd:(⟨b,off,none⟩:Addr).add j=⟨b,off+j,none⟩:=by unfold Addr.add;split<;>simp_all
   rw[hadd];exact this
  ·unfold maxLen;omega
  ·have:(xs.length+ys.length)*bytes≤(xs.length+ys.length)*100:=Nat.mul_le_mul_left _ hbt
   omega
  ·intro g cap w' h2 h3 h4 h5
   refine h _ w' ?_ h3 ?_
   ·unfold Ow;simpa using h2
   ·intro k hk
    simp[Value.ownBlock]at hk
    subst hk
    rcases h4 with h4|h4
    ·exact .inl h4
    ·right;omega
theorem wpList_mk {P:Program} {ops:Array Oper} {rest:List Oper} {o:Oper} {a:Act} {Q:Exit→Act→World→Prop} {w:World} (l c:Operand) (st E:TypeId) (z:Value) (bytes:Nat)
 (hgd:o.guard=none) (ho:o.op=Op.makeSlice st l c)
 (ht:P.underlying st=some (.slice E)) (hi:(P.info? E).map (fun i=>(i.zero,i.size,i.bytes))=some (some z,1,bytes)) (hzs:z.cells= #[z]) (hbt:bytes≤100)
 (B:Nat) (L:Int) (n:Nat) (hl:a.eval l= .int .i64 L) (hc:a.eval c= .int .i64 L) (hL:L=(n:Int)) (hn:n≤1000000000000) (hB:B≤w.heap.size)
 (h:∀w',Ow E B w' (.slice (some ⟨w.heap.size,0,none⟩) n n) (List.replicate n z)→w.grownBy w' none→w.heap.size<w'.heap.size→wpList P ops Q rest (a.put o.dst (.slice (some ⟨w.heap.size,0,none⟩) n n)) w'):
 wpList P ops Q (o::rest) a w:=by
 obtain⟨i0,hi1,hz0,hz1,hz2⟩:=info_parts hi
 refine wpList_make_full (P:=P) w hgd l c st ho B E i0 z 1 ht hi1 hz0 hz1 .i64 .i64 L L n hl hc hL hL ?_ (by unfold maxLen;omega) hB ?_
 ·rw[hz2]
  have:bytes*n≤100*n:=Nat.mul_le_mul_right _ hbt
  omega
 ·intro w' h1 h2
  have h3:Ow E B w' (.slice (some ⟨w.heap.size,0,none⟩) n n) (List.replicate n z):=by
   unfold Ow
   rw[hzs,Nat.mul_one,toList_madeCells_one]at h1
   simpa using h1
  refine h w' h3 h2 ?_
  rcases h1.2 with⟨h1,_⟩|⟨g,cap,cur,h4,_,h5,_⟩
  ·simp at h1
  ·simp only[Value.slice.injEq,Option.some.injEq,Addr.mk.injEq,and_true,true_and]at h4
   rw[h4.1]
   exact(Array.getElem?_eq_some_iff.1 h5).1
theorem bv_i64 (a:Nat) (ha:a<9223372036854775808):(BitVec.ofInt IntKind.i64.bits (a:Int)).toNat=a:=by
 show(BitVec.ofInt 64 (a:Int)).toNat=a
 rw[BitVec.toNat_ofInt]
 omega
theorem and_i64 (a b:Nat) (ha:a<9223372036854775808) (hb:b<9223372036854775808):bits .and .i64 (a:Int) (b:Int)=((a&&&b:Nat):Int):=by
 have hx:a&&&b<2^63:=Nat.and_lt_two_pow _ (by omega)
 show IntKind.i64.wrap ((BitVec.ofInt IntKind.i64.bits (a:Int)&&&BitVec.ofInt IntKind.i64.bits (b:Int)).toNat:Int)=_
 rw[BitVec.toNat_and,bv_i64 a ha,bv_i64 b hb,IntWalk.i64_in _ (by omega)]
theorem or_i64 (a b:Nat) (ha:a<9223372036854775808) (hb:b<9223372036854775808):bits .or .i64 (a:Int) (b:Int)=((a|||b:Nat):Int):=by
 have hx:a|||b<2^63:=Nat.or_lt_two_pow (by omega) (by omega)
 show IntKind.i64.wrap ((BitVec.ofInt IntKind.i64.bits (a:Int)|||BitVec.ofInt IntKind.i64.bits (b:Int)).toNat:Int)=_
 rw[BitVec.toNat_or,bv_i64 a ha,bv_i64 b hb,IntWalk.i64_in _ (by omega)]
end Go.Proofs.YtnnaadmegeeinaaGreatDoor
namespace Go.Proofs.YtnnaadmegeeinaaGreatDoor
open Go.RowKit
theorem Tryz.info45:(Tryz.prog.info? 45).map (fun i=>(i.zero,i.size,i.bytes))=some (some (.slice none 0 0),1,24):=by kernel_rfl
def OL (B U:Nat) (w:World) (v:Value) (ll:List (List Int)):Prop:=
 ∃vs:List Value,Ow 45 B w v vs∧(∀k,v.ownBlock=some k→k<U)∧vs.length=ll.length∧∀i,i<ll.length→OI B w (vs.getD i undef) (ll.getD i [])∧∀k,(vs.getD i undef).ownBlock=some k→k<U
section
variable {B U:Nat} {w w':World} {v u:Value} {ll:List (List Int)} {l:List Int}
theorem OL.nil (B U:Nat) (w:World):OL B U w (.slice none 0 0) []:=⟨[],Ow.nil _ _ _,by simp[Value.ownBlock],rfl,fun i h=>by simp at h⟩
theorem OL.kept {row:Option Nat} (h:OL B U w v ll) (hg:w.grownBy w' row) (hr:∀k,row=some k→k<B∨U≤k):OL B U w' v ll:=by
 obtain⟨vs,h1,h2,h3,h4⟩:=h
 have hne:∀x:Value,(∀k,x.ownBlock=some k→B≤k∧k<U)→x.ownBlock=none∨x.ownBlock≠row:=by
  intro x hx
  cases hb:x.ownBlock with
  |none=>exact .inl rfl
  |some k=>
   right
   intro e
   have:=hx k hb
   have:=hr k e.symm
   omega
 refine⟨vs,h1.kept hg (hne v fun k hk=>⟨(h1.lt k hk).1,h2 k hk⟩),h2,h3,fun i hi=> ?_⟩
 obtain⟨h5,h6⟩:=h4 i hi
 exact⟨h5.kept hg (hne _ fun k hk=>⟨(h5.lt k hk).1,h6 k hk⟩),h6⟩
theorem OL.below (h:OL B U w v ll) (hb:Below w.heap.size w w'):OL B U w' v ll:=by
 obtain⟨vs,h1,h2,h3,h4⟩:=h
 exact⟨vs,h1.below hb,h2,h3,fun i hi=>⟨(h4 i hi).1.below hb,(h4 i hi).2⟩⟩
theorem OL.mono {B' U':Nat} (h:OL B U w v ll) (hB:B'≤B) (hU:U≤U'):OL B' U' w v ll:=by
 obtain⟨vs,h1,h2,h3,h4⟩:=h
 exact⟨vs,h1.mono hB,fun k hk=>Nat.lt_of_lt_of_le (h2 k hk) hU,h3,fun i hi=>⟨(h4 i hi).1.mono hB,fun k hk=>Nat.lt_of_lt_of_le ((h4 i hi).2 k hk) hU⟩⟩
theorem OL.len (h:OL B U w v ll):∃a c,v= .slice a ll.length c:=by
 obtain⟨vs,h1,_,h3,_⟩:=h
 obtain⟨a,c,e⟩:=h1.len
 exact⟨a,c,by rw[e,h3]⟩
theorem OL.form (h:OL B U w v ll) (hn:0<ll.length):∃g c,v= .slice (some ⟨g,0,none⟩) ll.length c∧B≤g∧g<w.heap.size:=by
 obtain⟨vs,h1,_,h3,_⟩:=h
 obtain⟨g,c,e,h⟩:=h1.form (by omega)
 exact⟨g,c,by rw[e,h3],h⟩
theorem OL.get {g n c:Nat} (h:OL B U w (.slice (some ⟨g,0,none⟩) n c) ll) (i:Nat) (hi:i<ll.length):∃u,w.cell? ⟨g,i,none⟩=some u∧OI B w u (ll.getD i []):=by
 obtain⟨vs,h1,_,h3,h4⟩:=h
 refine⟨vs.getD i undef,?_,(h4 i hi).1⟩
 rw[h1.cell i (by omega)]
 simp[show i<vs.length by omega]
theorem ow_apart {B':Nat} {vs:List Value} (h:Ow 45 B w v vs) (g:OI B' w u l):u.ownBlock=none∨u.ownBlock≠v.ownBlock:=by
 rcases h.2 with⟨rfl,_⟩|⟨b,cap,cur,rfl,_,hb,_⟩
 ·cases hu:u.ownBlock with
  |none=>exact .inl rfl
  |some k=>right;simp[Value.ownBlock]
 ·rcases g.2 with⟨rfl,_⟩|⟨b2,cap2,cur2,rfl,_,hb2,_⟩
  ·exact .inl rfl
  ·right
   intro e
   simp only[Value.ownBlock,Option.some.injEq]at e
   subst e
   rw[hb]at hb2
   simp at hb2
theorem OL.snoc {B':Nat} {w1:World} {v':Value} {vs:List Value} (h1:Ow 45 B w v vs) (h2:∀k,v.ownBlock=some k→k<U) (h3:vs.length=ll.length) (h4:∀i,i<ll.length→OI B w (vs.getD i undef) (ll.getD i [])∧∀k,(vs.getD i undef).ownBlock=some k→k<U)
 (hu:OI B' w u l) (hB:B≤B') (hown:Ow 45 B w1 v' (vs++[u])) (hg:w.grownBy w1 v.ownBlock):OL B w1.heap.size w1 v' (ll++[l]):=by
 have hs:=hg.size
 refine⟨vs++[u],hown,fun k hk=>(hown.lt k hk).2,by simp[h3],fun i hi=> ?_⟩
 have hlast:OI B w1 u l:=(hu.kept hg (ow_apart h1 hu)).mono hB
 by_cases e:i<ll.length
 ·rw[List.getD_eq_getElem?_getD,List.getElem?_append_left (by omega),←List.getD_eq_getElem?_getD,List.getD_eq_getElem?_getD (l:=ll++[l]),List.getElem?_append_left e,←List.getD_eq_getElem?_getD]
  have h5:=(h4 i e).1.kept hg (ow_apart h1 (h4 i e).1)
  exact⟨h5,fun k hk=>(h5.lt k hk).2⟩
 ·obtain rfl:i=ll.length:=by simp at hi;omega
  rw[List.getD_eq_getElem?_getD,←h3,List.getElem?_append_right (Nat.le_refl _),Nat.sub_self,h3,List.getD_eq_getElem?_getD,List.getElem?_append_right (Nat.le_refl _),Nat.sub_self]
  exact⟨hlast,fun k hk=>(hlast.lt k hk).2⟩
end
end Go.Proofs.YtnnaadmegeeinaaGreatDoor
