/-
  Part 2 of a proof: what it proves stands in the last text.
-/
import Derived.Test.YtnnaadmegeeinaaGreatDoorYa
import Derived.WalkKit
import Derived.Deep.QuietTactic
import Derived.BigQuiet
import Derived.StillTailTactics
import Derived.Outline
import Derived.Deep.DeepFit
import Derived.Deep.AppendLies
import Derived.Laws.AppendOwnNone
import Derived.WalkSpells
import Derived.Deep.RegionLaw
import Derived.OpenShut
import Derived.SizedLaws
set_option linter.all false
set_option maxHeartbeats 8000000
set_option maxRecDepth 100000
namespace Go.Proofs.YtnnaadmegeeinaaGreatDoor
open Tryz Go.Proofs.Tryz
open Go.RowKit
def f0:=@Below.refl
def gp:=@decide_eq_false
def gv:=@List.length_map
def gH:=@Option.some.injEq
def gS:=@Nat.lt_of_lt_of_le
def gZ:=@Array.getElem?_eq_some_iff
def iB:=@Nat.mul_le_mul_right
def iE:=@IntWalk.i64_in
def iT:=@bne_iff_ne
def iU:=@Value.slice.injEq
def iX:=@List.eq_nil_of_length_eq_zero
def je:=@List.getElem_of_mem
def jk:=@List.length_nil
def jH:=@List.take_add_one
def jZ:=@Option.map_some
def kd:=@List.getElem?_append_left
def kN:=@Nat.add_sub_cancel
def lz:=@Addr.mk.injEq
def lD:=@List.map_toArray
def lP:=@List.getElem?_eq_some_iff
def ml:=@info_parts
def mR:=@List.map_nil
def mS:=@Nat.pow_succ
def pG:=@List.map_set
def pI:=@World.drewN_drewN
def pJ:=@World.ownsRow_nil
def pN:=@run_underlying
def qT:=@Nat.mul_one
def qW:=@and_true
def ss:=@Nat.gcd_comm
def uA:=@Nat.or_lt_two_pow
def Cv:=@Nat.gcd_zero_right
def Gh:=@Sem.run_bind
def JE:=@Int.ediv_le_self
def JK:=@World.ownsRow.lt
def R7:=@Int.ediv_nonneg
def aks:=@Nat.gcd_rec
def akA:=@toList_madeCells_one
def al6:=@World.ownsRow.form
def al7:=@World.ownsRow.kept
def ama:=@wpList_append_lies
def amg:=@List.any_eq_false
def ami:=@Result.andThen_ok
def amj:=@World.ownsRow_lit
theorem Of{p:Prop}(h:p:=by
 go_wp2;go_ret
 exact Oy):p:=h
theorem Oy{p:Prop}(h:p:=by exact⟨rfl,rfl⟩):p:=h
theorem OE{p:Prop}(h:p:=by
 clear dO;go_wp2;go_round
 case rel=>exact⟨j+1,p*k,by omega,by go_num,by simp,gb QP⟩
 case measure=>exact gQ):p:=h
theorem ON{p:Prop}(h:p:=by rw[hN.out];exact h):p:=h
theorem OR{p:Prop}(h:p:=by
 go_roundw
 case rel=>grind
 case measure=>exact gQ):p:=h
theorem OW{p:Prop}(h:p:=by
 go_enter func105,ntmps105;go_wp2_with fail;refine(HT.out _ HL.out).mono ?_;rintro e Z ⟨rfl,av⟩;have d6:=gb (HM.out.below av);have hz:=av.size;go_wp2_with fail;refine(bN.out _ d6.out).mono ?_;rintro e aj ⟨rfl,ar⟩;go_wp2;go_ret
 exact⟨by rw[HZ.out];rfl,av.trans (ar.mono hz)⟩):p:=h
theorem OX{p:Prop}(h:p:=by
 obtain⟨h1,h2⟩:=h;refine⟨h1,h2.imp id ?_⟩
 exact PS):p:=h
theorem Mb{p:Prop}(h:p:=by
 go_wp2
 all_goals (go_ret;exact⟨rfl,rfl⟩)):p:=h
theorem Md{p:Prop}(h:p:=by
 go_enter func60,ntmps60;go_wp2_with fail;refine(HT.out _ HL.out).mono ?_;rintro e V ⟨rfl,n,rfl⟩;go_wp2_with fail;refine(bN.out _ (HM.out.drewN _)).mono ?_;rintro e V ⟨rfl,n2,rfl⟩;go_wp2;go_ret
 exact⟨by rw[HZ.out];rfl,_,rfl⟩):p:=h
theorem Mj{p:Prop}(h:p:=by
 clear h0;go_enter func147,ntmps147;go_wp2_with fail;refine HS.out.mono ?_;rintro e V ⟨rfl,rfl⟩;go_wp2_with fail;refine bN.out.mono ?_
 exact MA):p:=h
theorem Mk{p:Prop}(h:p:=by
 go_wp2;go_round
 case rel=>exact⟨j+1,p*k,by omega,by go_num,by simp,gb QP,H4.out⟩
 case measure=>exact gQ):p:=h
theorem Ml{p:Prop}(h:p:=by
 clear h0;go_enter func186,ntmps186;go_wp2_with fail;refine HS.out.mono ?_;rintro e V ⟨rfl,rfl⟩;go_wp2_with fail;refine bN.out.mono ?_;rintro e V ⟨rfl,av⟩;go_wp2;go_ret
 exact⟨by rw[HZ.out];rfl,av⟩):p:=h
theorem Mm{p:Prop}(h:p:=by unfold maxLen;omega):p:=h
theorem Mq{p:Prop}(h:p:=by exact⟨rfl,f0 _ _⟩):p:=h
theorem Mt{p:Prop}(h:p:=by
 intro j ag hj
 match j,hj with
 |0,hj=>simp at hj;subst hj;simpa [Addr.add]using aA):p:=h
theorem MA{p:Prop}(h:p:=by
 rintro e V ⟨rfl,n,rfl⟩;go_wp2;go_ret
 exact⟨by rw[HZ.out];rfl,n,rfl⟩):p:=h
theorem MZ{p:Prop}(h:p:=by
 go_wp2;go_ret
 exact⟨by rw[HP.out];rfl,0,rfl⟩):p:=h
theorem Se{p:Prop}(h:p:=by
 obtain rfl:=HE.out;go_enter func147,ntmps147;go_wp2_with fail;refine HS.out.mono ?_;rintro e V ⟨rfl,rfl⟩;go_wp2;go_ret
 exact⟨rfl,0,rfl⟩):p:=h
theorem Sf{p:Prop}(h:p:=by
 go_enter func105,ntmps105;go_wp2_with fail;refine(HT.out _ HL.out).mono ?_;rintro e Z ⟨rfl,av⟩;go_wp2;go_ret
 exact⟨by rw[HZ.out];rfl,av⟩):p:=h
theorem Sy{p:Prop}(h:p:=by rw[HE.out];simp[h8]):p:=h
theorem SV{p:Prop}(h:p:=by
 obtain⟨h1,h2⟩:=h;refine⟨h1,h2.imp id ?_⟩;rintro⟨g,bm,bV,e,hg,ah⟩
 exact⟨g,bm,bV,e,gt J hg,ah⟩):p:=h
theorem Ud{p:Prop}(h:p:=by simp[World.setCell]):p:=h
theorem Ug{p:Prop}(h:p:=by
 rw[hp]at hr;have b9:0<=ah:=by grind
 have HP:=gb hp;clear hr hp;go_wp2;go_ret
 exact⟨by rw[HP.out];rfl,rfl⟩):p:=h
theorem U3{p:Prop}(h:p:=by
 go_enter func191,ntmps191;go_wp2;go_ret
 exact⟨by rw[HB.out];rfl,rfl⟩):p:=h
theorem U7{p:Prop}(h:p:=by intro x hx;simp only[gK]at hx;obtain⟨y,_,rfl⟩:=hx;rfl):p:=h
theorem U9{p:Prop}(h:p:=by
 rcases h.2 with⟨rfl,h0⟩|⟨g,bm,bV,rfl,_⟩
 ·grind
 grind):p:=h
theorem Dn{p:Prop}(h:p:=by rw[HE.out];grind):p:=h
theorem Dv{p:Prop}(h:p:=by
 obtain⟨e,rfl⟩:∃e,d=e+1:=⟨d-1,by omega⟩
 rfl):p:=h
theorem Dw{p:Prop}(h:p:=by rw[HE.out];simp):p:=h
theorem DC{p:Prop}(h:p:=by rw[hp.out,HR.out]):p:=h
theorem Kb{p:Prop}(h:p:=by unfold Addr.add;grind):p:=h
theorem Kf{p:Prop}(h:p:=by have:=ao.out;omega):p:=h
theorem Km{p:Prop}(h:p:=by
 have e:nm p taps=1:=by unfold nm;grind
 grind [m6]):p:=h
theorem Ko{p:Prop}(h:p:=by first|exact⟨_,rfl⟩|(simp only[pI];grind)):p:=h
theorem KN{p:Prop}(h:p:=by
 go_wp2;go_ret2
 exact Oy):p:=h
theorem KO{p:Prop}(h:p:=by exact⟨h2.os.trans h0.os,h2.tape.trans h0.tape,h2.output.trans h0.output,gt aB h2.size,λk hk aK=>(h2.block k Oa aK).trans (h0.block k hk)⟩):p:=h
theorem KW{p:Prop}(h:p:=by
 have h2:(p:Int)*k<=1000000000000000000:=Oa;have h3:0<=(p:Int)*k:=lG Oa Oa
 exact OE):p:=h
theorem K4{p:Prop}(h:p:=by
 have h4:((p*k:Nat):Int)<=1000000000000000000:=by rw[wF Oa]at h1;omega
 have h2:(p:Int)*k<=1000000000000000000:=Oa;have h3:0<=(p:Int)*k:=lG Oa Oa;have H4:=gd (p*k<=1000000000000000000) Oa;clear h4
 exact Mk):p:=h
theorem Pg{p:Prop}(h:p:=by
 go_wp2;go_round
 case rel=>exact⟨k+1,by omega,by go_num,gb (λj hj=>by
  by_cases e:j=k
  ·rw[e];exact HP.out
  ·exact bg.out j Oa)⟩
 case measure=>exact gQ):p:=h
theorem Pr{p:Prop}(h:p:=by
 obtain rfl:=HE.out;go_enter func186,ntmps186;go_wp2_with fail;refine HS.out.mono ?_;rintro e V ⟨rfl,rfl⟩;go_wp2;go_ret
 exact Mq):p:=h
theorem PO{p:Prop}(h:p:=by
 go_wp2;go_ret
 exact OK):p:=h
theorem PS{p:Prop}(h:p:=by
 rintro⟨g,bm,bV,e,hg,hh,ah⟩
 exact⟨g,bm,bV,e,hg,by rw[J.block g (gZ.1 hh).1];exact hh,ah⟩):p:=h
theorem Qe{p:Prop}(h:p:=by
 go_enter func60,ntmps60;go_wp2_with fail;refine(HT.out _ HL.out).mono ?_
 exact MA):p:=h
theorem Qj{p:Prop}(h:p:=by
 exfalso;obtain rfl:j=n:=Oa;have:=ao.out;rw[<-hp.out]at this
 exact Oa):p:=h
theorem Qy{p:Prop}(h:p:=by
 have:(xs.length+1)*bytes<=(xs.length+1)*100:=iI _ dr
 exact Oa):p:=h
theorem QP{p:Prop}(h:p:=by rw[hp.out,rq]):p:=h
theorem QU{p:Prop}(h:p:=by rw[e]):p:=h
theorem Q9{p:Prop}(h:p:=by
 have dO:p*k<=ah:=by rw[hp.out,<-rq,HR.out];exact qE Oa ap
 have h1:¬(1000000000000000000:Int)/k<p:=by grind [wF]
 exact KW):p:=h
theorem Rg{p:Prop}(h:p:=by
 intro g bm V h1 h2 h3 h4;refine h g bm V ?_ ?_ ?_ h4
 ·grind [Ow]
 ·exact KO
 grind):p:=h
theorem Rp{p:Prop}(h:p:=by
 go_wp2
 exact OR):p:=h
theorem Rq{p:Prop}(h:p:=by
 obtain rfl:j=n:=by omega
 obtain rfl:p=ah:=DC
 exact KN):p:=h
abbrev np:=List Value
abbrev lO:=List (List Int)
theorem gd(p:Prop)(h:p):Hid p:=h
theorem gQ{p:Prop}(h:p:=by simp[intOf]<;>omega):p:=h
abbrev gm(w w':World):Prop:=Below w.heap.size w w'
section
theorem gM{B:Nat}{a w:World}(h:Below B a w)(n:Nat):Below B a (w.drewN n):=⟨h.os,h.tape,h.output,h.size,h.block⟩
theorem info3:(prog.info? 3).map (λi=>(i.zero,i.size,i.bytes))=some (some (.int .i64 0),1,8):=Ob
theorem gb{p:Prop}(h:p):Hid p:=h
def ja(x:Int):Prop:= -9223372036854775808<=x/\x<=9223372036854775807
def Rd(w:World)(v:Value)(xs:np):Prop:=
 ∃a c,v= .slice a xs.length c/\(xs.length<=17592186044416/\xs.length<=c)/\(0<xs.length->∃b d,a=some ⟨b,d,none⟩/\b<w.heap.size/\∀i,i<xs.length->w.cell? ⟨b,d+i,none⟩=xs[i]?)
def Sl(w:World)(v:Value)(l:gP):Prop:=Rd w v (l.map (Value.int .i64))
def Ow(E:TypeId)(B:Nat)(w:World)(v:Value)(xs:np):Prop:=w.ownsRow B E 1 v xs.length xs
def OI(B:Nat)(w:World)(v:Value)(l:gP):Prop:=Ow 3 B w v (l.map (Value.int .i64))
section
variable {E:TypeId} {B:Nat} {w w':World} {v:Value} {xs:np}
theorem Ow.nil(E:TypeId)(B:Nat)(w:World):Ow E B w (.slice none 0 0) []:=pJ _ _ _ _
theorem Ow.alloc(h:Ow E B w v xs)(o:Obj):Ow E B (w.alloc o) v xs:=World.ownsRow.alloc h o
theorem Ow.drew(h:Ow E B w v xs):Ow E B w.drew v xs:=h
theorem Ow.drewN(h:Ow E B w v xs)(n:Nat):Ow E B (w.drewN n) v xs:=h
theorem Ow.lt(h:Ow E B w v xs):∀k,v.ownBlock=some k->B<=k/\k<w.heap.size:=JK h
theorem Ow.mono{a:Nat}(h:Ow E B w v xs)(J:a<=B):Ow E a w v xs:=SV
theorem Ow.kept{a:Option Nat}(h:Ow E B w v xs)(b:w.grownBy w' a)(c:v.ownBlock=none\/v.ownBlock≠a):Ow E B w' v xs:=al7 h b c
theorem Ow.below(h:Ow E B w v xs)(J:gm w w'):Ow E B w' v xs:=OX
theorem Ow.len(h:Ow E B w v xs):∃a c,v= .slice a xs.length c:=U9
theorem Ow.form(h:Ow E B w v xs)(a:0<xs.length):∃g c,v= .slice (some ⟨g,0,none⟩) xs.length c/\B<=g/\g<w.heap.size:=al6 h a
theorem Ow.cell{g n c:Nat}(h:Ow E B w (.slice (some ⟨g,0,none⟩) n c) xs)(i:Nat)(hi:i<xs.length):w.cell? ⟨g,i,none⟩=xs[i]? :=by
 obtain⟨a,b,e⟩:=h.len;simp only[iU]at e;obtain⟨_,rfl,_⟩:=e;exact World.ownsRow.cellAt h i Oa
theorem Ow.frozen{g n c:Nat}(h:Ow E B w (.slice (some ⟨g,0,none⟩) n c) xs)(i:Nat):w.frozen? ⟨g,i,none⟩=false:=by
 obtain⟨a,b,e⟩:=h.len;simp only[iU]at e;obtain⟨_,rfl,_⟩:=e;exact World.ownsRow.frozenAt h i
theorem Ow.rd(h:Ow E B w v xs)(l:xs.length<=17592186044416):Rd w v xs:=by
 rcases h.2 with⟨rfl,a⟩|⟨g,d,e,rfl,f,b,n,j,k,p⟩
 ·exact⟨none,0,by rw[a],by omega,λo=>by omega⟩
 ·exact⟨_,_,rfl,by omega,λ_=>⟨g,0,rfl,(gZ.1 b).1,λi c=>by rw[iL];exact Ow.cell h i c⟩⟩
theorem Ow.cap{a:Option Addr}{n c:Nat}(h:Ow E B w (.slice a n c) xs):n<=c/\n=xs.length:=by
 rcases h.2 with⟨b,f⟩|⟨g,d,e,b,i,l,o,j,k,p⟩
 ·grind
 grind
theorem Ow.stored{g n c:Nat}(h:Ow E B w (.slice (some ⟨g,0,none⟩) n c) xs)(i:Nat)(u:Value):
 Ow E B (w.setCell ⟨g,i,none⟩ u) (.slice (some ⟨g,0,none⟩) n c) (xs.set i u)/\w.grownBy (w.setCell ⟨g,i,none⟩ u) (some g):=by
 obtain⟨a,b,e⟩:=h.len;simp only[iU]at e;obtain⟨_,rfl,_⟩:=e;have:=World.ownsRow.stored h i u;refine⟨?_,this.2⟩;unfold Ow
 grind
theorem Ow.lit(E:TypeId)(B:Nat)(w:World)(cs:Array Value)(n:Nat)(a:B<=w.heap.size)(c:cs.size=n)(b:n<=1000000000000):Ow E B (w.alloc (.cells cs E)) (.slice (some ⟨w.heap.size,0,none⟩) n n) cs.toList:=by
 have:=amj (base:=B) (e:=E) (size:=1) w cs n a Mm Oa;unfold Ow
 grind
theorem Rd.below(h:Rd w v xs)(a:gm w w'):Rd w' v xs:=by
 obtain⟨e,f,q,o,k⟩:=h;refine⟨e,f,q,o,λg=> ?_⟩;obtain⟨b,d,j,c,l⟩:=k g;exact⟨b,d,j,gS c a.size,λi n=>(a.cell (p:=⟨b,d+i,none⟩) c).trans (l i n)⟩
theorem Rd.slice{a:Option Addr}{n c lo hi:Nat}(h:Rd w (.slice a n c) xs)(o:lo<=hi)(p:hi<=n):Rd w (.slice (if c=lo then a else a.map (·.add lo)) (hi-lo) (c-lo)) ((xs.drop lo).take (hi-lo)):=by
 obtain⟨k,l,d,s,g⟩:=h;simp only[iU]at d;obtain⟨rfl,rfl,rfl⟩:=d;have b:((xs.drop lo).take (hi-lo)).length=hi-lo:=by grind
 refine⟨_,_,by rw[b],by omega,λf=> ?_⟩;rw[b]at f⊢;obtain⟨e,j,rfl,i,q⟩:=g Oa;rw[gh Oa];refine⟨e,j+lo,?_,i,λt r=> ?_⟩
 ·simp only[jZ,Addr.add]
  grind
 grind
end
section
variable {B:Nat} {w w':World} {v:Value} {l:gP}
theorem OI.nil(B:Nat)(w:World):OI B w (.slice none 0 0) []:=pJ _ _ _ _
theorem OI.alloc(h:OI B w v l)(o:Obj):OI B (w.alloc o) v l:=Ow.alloc h o
theorem OI.drew(h:OI B w v l):OI B w.drew v l:=h
theorem OI.drewN(h:OI B w v l)(n:Nat):OI B (w.drewN n) v l:=h
theorem OI.lt(h:OI B w v l):∀k,v.ownBlock=some k->B<=k/\k<w.heap.size:=Ow.lt h
theorem OI.mono{a:Nat}(h:OI B w v l)(b:a<=B):OI a w v l:=Ow.mono h b
theorem OI.kept{a:Option Nat}(h:OI B w v l)(b:w.grownBy w' a)(c:v.ownBlock=none\/v.ownBlock≠a):OI B w' v l:=Ow.kept h b c
theorem OI.below(h:OI B w v l)(a:gm w w'):OI B w' v l:=Ow.below h a
theorem OI.len(h:OI B w v l):∃a c,v= .slice a l.length c:=by simpa using Ow.len h
theorem OI.cap{a:Option Addr}{n c:Nat}(h:OI B w (.slice a n c) l):n<=c:=(Ow.cap h).1
theorem OI.form(h:OI B w v l)(a:0<l.length):∃g c,v= .slice (some ⟨g,0,none⟩) l.length c/\B<=g/\g<w.heap.size:=by simpa using Ow.form h (by grind)
theorem OI.cell{g n c:Nat}(h:OI B w (.slice (some ⟨g,0,none⟩) n c) l)(i:Nat)(hi:i<l.length):w.cell? ⟨g,i,none⟩=some (.int .i64 (l.getD i 0)):=by
 rw[Ow.cell h i (by grind)];simp[hi]
theorem OI.frozen{g n c:Nat}(h:OI B w (.slice (some ⟨g,0,none⟩) n c) l)(i:Nat):w.frozen? ⟨g,i,none⟩=false:=Ow.frozen h i
theorem OI.stored{g n c:Nat}(h:OI B w (.slice (some ⟨g,0,none⟩) n c) l)(i:Nat)(x:Int):
 OI B (w.setCell ⟨g,i,none⟩ (.int .i64 x)) (.slice (some ⟨g,0,none⟩) n c) (l.set i x)/\w.grownBy (w.setCell ⟨g,i,none⟩ (.int .i64 x)) (some g):=by
 have:=Ow.stored h i (.int .i64 x);rw[<-pG]at this;exact this
theorem OI.snoc{x:Int}(h:Ow 3 B w v (l.map (Value.int .i64)++[.int .i64 x])):OI B w v (l++[x]):=by unfold OI;grind
theorem OI.ofApp{m:gP}(h:Ow 3 B w v (l.map (Value.int .i64)++m.map (Value.int .i64))):OI B w v (l++m):=by unfold OI;grind
theorem OI.cast{l':gP}(h:OI B w v l)(e:l=l'):OI B w v l':=e▸h
theorem OI.grown{W:World}(h:OI B w v l)(b:Below B W w)(c:w.grownBy w' v.ownBlock)(a:B<=w.heap.size):Below B W w':=b.grown c a (λk d=>(h.lt k d).1)
theorem OI.lit0(B:Nat)(w:World)(a:B<=w.heap.size):OI B (w.alloc (.cells #[] 3)) (.slice (some ⟨w.heap.size,0,none⟩) 0 0) []:=Ow.lit 3 B w #[] 0 a rfl Oc
theorem wj(l:gP):∀x∈l.map (Value.int .i64),x.oneCell'=true:=U7
theorem OI.lit1(B:Nat)(w:World)(x:Int)(a:B<=w.heap.size):OI B (w.alloc (.cells #[.int .i64 x] 3)) (.slice (some ⟨w.heap.size,0,none⟩) 1 1) [x]:=Ow.lit 3 B w #[.int .i64 x] 1 a rfl Oc
theorem OI.take{g n c:Nat}(h:OI B w (.slice (some ⟨g,0,none⟩) n c) l)(m:Nat)(s:m<=n):OI B w (.slice (some ⟨g,0,none⟩) m c) (l.take m):=by
 obtain⟨o,p,e⟩:=h.len;simp only[iU]at e;obtain⟨_,rfl,_⟩:=e;have k:((l.take m).map (Value.int .i64)).length=m:=Oo;unfold OI Ow;rw[k];refine⟨by omega,.inr ?_⟩;rcases h.2 with⟨a,_⟩|⟨r,q,b,a,d,j,t,f,i,v⟩
 ·simp at a
 ·simp only[iU,gH,lz,qW]at a;obtain⟨rfl,_,rfl⟩:=a;refine⟨g,c,b,rfl,d,j,by omega,f,i,?_⟩
  grind [List.map_take]
theorem OI.sl(h:OI B w v l)(a:l.length<=17592186044416):Sl w v l:=Ow.rd h (by grind)
theorem Sl.below(h:Sl w v l)(a:gm w w'):Sl w' v l:=Rd.below h a
theorem Sl.drewN(h:Sl w v l)(n:Nat):Sl (w.drewN n) v l:=h
theorem Sl.out(h:Sl w v l):∃a c,v= .slice a l.length c/\(l.length<=17592186044416/\l.length<=c)/\(0<l.length->∃b d,a=some ⟨b,d,none⟩/\b<w.heap.size/\∀i,i<l.length->w.cell? ⟨b,d+i,none⟩=some (.int .i64 (l.getD i 0))):=by
 obtain⟨a,c,g,f,e⟩:=h
 grind
def qq(v u:Value):Prop:=∀g,v.ownBlock=some g->u.ownBlock≠some g
theorem OI.keptA{B a:Nat}{w w':World}{v u:Value}{l m:gP}(h:OI B w u l)(e:OI a w v m)(c:w.grownBy w' v.ownBlock)(b:qq v u):OI B w' u l:=by
 refine OI.kept h c ?_;cases d:v.ownBlock with
 |none=>
  grind
 |some g=>right;exact b g d
theorem qq.nil(u:Value):qq (.slice none 0 0) u:=λg h=>by simp[Value.ownBlock]at h
theorem qq.fresh{B:Nat}{w w':World}{v u:Value}{l m:gP}(c:OI B w v l)(b:OI w.heap.size w' u m):qq v u:=by
 intro g a e;have d:=(c.lt g a).2;have f:=(b.lt g e).1;exact Oa
theorem Ow.kept_other{E:TypeId}{B a:Nat}{w w':World}{v u:Value}{xs:np}{l:gP}{n c:Nat}(h:Ow E B w u xs)(f:u= .slice (some ⟨a,0,none⟩) n c)(d:OI (a+1) w v l)(b:w.grownBy w' v.ownBlock):Ow E B w' u xs:=by
 refine h.kept b (.inr ?_);subst f;simp only[Value.ownBlock];intro e;have:=(d.lt a e.symm).1;exact Oa
theorem Sl.len(h:Sl w v l):∃a c,v= .slice a l.length c:=by
 obtain⟨a,c,b,_⟩:=h
 grind
theorem Sl.open(h:Sl w v l):∃a c N,v= .slice a N c/\Hid (l.length=N)/\(N<=17592186044416/\N<=c)/\(0<N->∃b d,a=some ⟨b,d,none⟩/\b<w.heap.size/\∀i,i<N->w.cell? ⟨b,d+i,none⟩=some (.int .i64 (l[i]?.getD 0))):=by
 obtain⟨a,c,g,f,e⟩:=h.out;exact⟨a,c,l.length,g,gb rfl,f,e⟩
theorem Sl.slice{a:Option Addr}{n c lo hi:Nat}(h:Sl w (.slice a n c) l)(b:lo<=hi)(d:hi<=n):Sl w (.slice (if c=lo then a else a.map (·.add lo)) (hi-lo) (c-lo)) ((l.drop lo).take (hi-lo)):=by
 have:=Rd.slice h b d;unfold Sl;simpa using this
theorem Sl.mid{b a n c i j:Nat}(h:Sl w (.slice (some ⟨b,a,none⟩) n c) l)(o:i<j)(e:j<=n):Sl w (.slice (some ⟨b,a+i,none⟩) (j-i) (c-i)) ((l.drop i).take (j-i)):=by
 obtain⟨f,g,d,q,p⟩:=h.out;simp only[iU]at d;obtain⟨rfl,rfl,rfl⟩:=d;have:=h.slice (lo:=i) (hi:=j) Oa e;rw[gh Oa]at this;have k:(some (⟨b,a,none⟩:Addr)).map (·.add i)=some ⟨b,a+i,none⟩:=by
  simp only[jZ,Addr.add]
  grind
 grind
theorem Sl.nil'(a:Option Addr)(c:Nat):Sl w (.slice a 0 c) []:=⟨a,c,rfl,by simp,λh=>by simp at h⟩
end
theorem kY(w:World)(x:Value)(t:TypeId):(w.alloc (.cells #[x] t)).cell? ⟨w.heap.size,0,none⟩=some x:=On
theorem o0(w:World)(x:Value)(t:TypeId)(H:Nat)(h:w.heap.size=H):(w.alloc (.cells #[x] t)).cell? ⟨H,0,none⟩=some x:=by subst h;simp
theorem nk(w:World)(x:Value)(t:TypeId):(w.alloc (.cells #[x] t)).drew.cell? ⟨w.heap.size,0,none⟩=some x:=On
theorem jt{P:Program}{ops:Array Oper}{rest:List Oper}{o:Oper}{a:Act}{Q:Exit->Act->World->Prop}{w:World}{x:Value}{H:Nat}(b:World)(s y:Operand)(c E:TypeId)(z:Value)(bytes:Nat)
 (e:o.guard=none) (j:o.op= .call {callee:= .builtin .append,args:= #[s,y],argTypes:= #[c,c]})
 (n:P.underlying c=some (.slice E)) (hi:(P.info? E).map (λi=>(i.zero,i.size,i.bytes))=some (some z,1,bytes)) (A:z.cells.size=1) (dr:bytes<=100)
 (B:Nat) (v:Value) (xs:np) (l:a.eval s=v) (k:Ow E B b v xs) (p:a.eval y= .slice (some ⟨H,0,none⟩) 1 1)
 (G:x.oneCell'=true) (F:xs.length<=1000000000000) (D:B<=b.heap.size)
 (h:∀g d V,Ow E B V (.slice (some ⟨g,0,none⟩) (xs.length+1) d) (xs++[x])->b.grownBy V v.ownBlock->(v.ownBlock=some g\/b.heap.size<=g)->g<V.heap.size->wpList P ops Q rest (a.put o.dst (.slice (some ⟨g,0,none⟩) (xs.length+1) d)) V)
 (h0:gm b w:=by first|exact(f0 _ _).alloc (fZ _) _|exact((f0 _ _).alloc (fZ _) _).drew|exact((f0 _ _).drew).alloc (fZ _) _)
 (aA:w.cell? ⟨H,0,none⟩=some x:=by first|exact kY _ _ _|exact nk _ _ _|exact o0 _ _ _ _ Ud|go_simp):
 wpList P ops Q (o::rest) a w:=by
 obtain⟨C,f,q,r,t⟩:=ml hi;have aB:=h0.size;refine ama (P:=P) (w:=w) e s y c j B E C z 1 bytes n f q r t A Oc v xs.length xs l (k.below h0) ⟨H,0,none⟩ 1 1 [x] p rfl ?_ ?_ Oc ?_ ?_ Oa _ rfl ?_
 ·exact Mt
 ·grind
 ·exact Mm
 ·exact Qy
 ·exact Rg
theorem g8{P:Program}{ops:Array Oper}{rest:List Oper}{o:Oper}{a:Act}{Q:Exit->Act->World->Prop}{w:World}{x:Int}{H:Nat}(c:World)(s y:Operand)(e:TypeId)
 (z:o.guard=none) (A:o.op= .call {callee:= .builtin .append,args:= #[s,y],argTypes:= #[e,e]})
 (E:P.underlying e=some (.slice 3)) (hi:(P.info? 3).map (λi=>(i.zero,i.size,i.bytes))=some (some (.int .i64 0),1,8))
 (B:Nat) (v:Value) (l:gP) (D:a.eval s=v) (C:OI B c v l) (F:a.eval y= .slice (some ⟨H,0,none⟩) 1 1)
 (G:l.length<=1000000000000) (r:B<=c.heap.size)
 (h:∀g d b,OI B b (.slice (some ⟨g,0,none⟩) (l.length+1) d) (l++[x])->c.grownBy b v.ownBlock->(v.ownBlock=some g\/c.heap.size<=g)->g<b.heap.size->wpList P ops Q rest (a.put o.dst (.slice (some ⟨g,0,none⟩) (l.length+1) d)) b)
 (j:gm c w:=by first|exact(f0 _ _).alloc (fZ _) _|exact((f0 _ _).alloc (fZ _) _).drew|exact((f0 _ _).drew).alloc (fZ _) _)
 (t:w.cell? ⟨H,0,none⟩=some (.int .i64 x):=by first|exact kY _ _ _|exact nk _ _ _|exact o0 _ _ _ _ Ud|go_simp):
 wpList P ops Q (o::rest) a w:=by
 refine jt c s y e 3 (.int .i64 0) 8 z A E hi rfl Oc B v _ D C F rfl (by grind) r (λg d b k n p q=> ?_) j t;have f:=OI.snoc k;rw[gv]at f⊢;exact h g d b f n p q
theorem adR{P:Program}{ops:Array Oper}{o:Oper}{a:Act}{K:Act->World->Prop}{Q:Exit->Act->World->Prop}{R:Prop}{w:World}{x:Value}{H:Nat}(b:World)(s y:Operand)(c E:TypeId)(z:Value)(bytes:Nat)
 (e:o.guard=none) (j:o.op= .call {callee:= .builtin .append,args:= #[s,y],argTypes:= #[c,c]})
 (n:P.underlying c=some (.slice E)) (hi:(P.info? E).map (λi=>(i.zero,i.size,i.bytes))=some (some z,1,bytes)) (A:z.cells.size=1) (dr:bytes<=100)
 (B:Nat) (v:Value) (xs:np) (l:a.eval s=v) (k:Ow E B b v xs) (p:a.eval y= .slice (some ⟨H,0,none⟩) 1 1)
 (G:x.oneCell'=true) (F:xs.length<=1000000000000) (D:B<=b.heap.size)
 (h:∀g d V,Ow E B V (.slice (some ⟨g,0,none⟩) (xs.length+1) d) (xs++[x])->b.grownBy V v.ownBlock->(v.ownBlock=some g\/b.heap.size<=g)->g<V.heap.size->K (a.put o.dst (.slice (some ⟨g,0,none⟩) (xs.length+1) d)) V)
 (h0:gm b w:=by first|exact(f0 _ _).alloc (fZ _) _|exact((f0 _ _).alloc (fZ _) _).drew|exact((f0 _ _).drew).alloc (fZ _) _)
 (aA:w.cell? ⟨H,0,none⟩=some x:=by first|exact kY _ _ _|exact nk _ _ _|exact o0 _ _ _ _ Ud|go_simp):
 if Region.wanted o (yielded ops a.tmps)=true then Oper.wp P o a w K Q else R:=by
 obtain⟨C,f,q,r,t⟩:=ml hi;have aB:=h0.size;refine step_append_lies (P:=P) (w:=w) e s y c j B E C z 1 bytes n f q r t A Oc v xs.length xs l (k.below h0) ⟨H,0,none⟩ 1 1 [x] p rfl ?_ ?_ Oc ?_ ?_ Oa _ rfl ?_
 ·exact Mt
 ·grind
 ·exact Mm
 ·exact Qy
 ·exact Rg
theorem Yt{P:Program}{ops:Array Oper}{o:Oper}{a:Act}{K:Act->World->Prop}{Q:Exit->Act->World->Prop}{R:Prop}{w:World}{x:Int}{H:Nat}(c:World)(s y:Operand)(e:TypeId)
 (z:o.guard=none) (A:o.op= .call {callee:= .builtin .append,args:= #[s,y],argTypes:= #[e,e]})
 (E:P.underlying e=some (.slice 3)) (hi:(P.info? 3).map (λi=>(i.zero,i.size,i.bytes))=some (some (.int .i64 0),1,8))
 (B:Nat) (v:Value) (l:gP) (D:a.eval s=v) (C:OI B c v l) (F:a.eval y= .slice (some ⟨H,0,none⟩) 1 1)
 (G:l.length<=1000000000000) (r:B<=c.heap.size)
 (h:∀g d b,OI B b (.slice (some ⟨g,0,none⟩) (l.length+1) d) (l++[x])->c.grownBy b v.ownBlock->(v.ownBlock=some g\/c.heap.size<=g)->g<b.heap.size->K (a.put o.dst (.slice (some ⟨g,0,none⟩) (l.length+1) d)) b)
 (j:gm c w:=by first|exact(f0 _ _).alloc (fZ _) _|exact((f0 _ _).alloc (fZ _) _).drew|exact((f0 _ _).drew).alloc (fZ _) _)
 (t:w.cell? ⟨H,0,none⟩=some (.int .i64 x):=by first|exact kY _ _ _|exact nk _ _ _|exact o0 _ _ _ _ Ud|go_simp):
 if Region.wanted o (yielded ops a.tmps)=true then Oper.wp P o a w K Q else R:=by
 refine adR c s y e 3 (.int .i64 0) 8 z A E hi rfl Oc B v _ D C F rfl (by grind) r (λg d b k n p q=> ?_) j t;have f:=OI.snoc k;rw[gv]at f⊢;exact h g d b f n p q
theorem nP{P:Program}{ops:Array Oper}{rest:List Oper}{o:Oper}{a:Act}{Q:Exit->Act->World->Prop}{w:World}(s y:Operand)(b E:TypeId)(z:Value)(bytes:Nat)
 (q:o.guard=none) (r:o.op= .call {callee:= .builtin .append,args:= #[s,y],argTypes:= #[b,b]})
 (i:P.underlying b=some (.slice E)) (hi:(P.info? E).map (λC=>(C.zero,C.size,C.bytes))=some (some z,1,bytes)) (M:z.cells.size=1) (G:bytes<=100)
 (B:Nat) (v u:Value) (xs ys:np) (x:a.eval s=v) (t:Ow E B w v xs) (A:a.eval y=u) (hu:Rd w u ys) (R:∀ab∈ys,ab.oneCell'=true)
 (af:xs.length+ys.length<=1000000000000) (F:B<=w.heap.size)
 (h:∀d c,Ow E B c d (xs++ys)->w.grownBy c v.ownBlock->(∀g,d.ownBlock=some g->v.ownBlock=some g\/w.heap.size<=g)->wpList P ops Q rest (a.put o.dst d) c):
 wpList P ops Q (o::rest) a w:=by
 obtain⟨N,f,J,K,L⟩:=ml hi;obtain⟨k,n,rfl,hl,V⟩:=hu;rcases jz ys.length with e|e
 ·obtain rfl:ys=[]:=iX e;cases k with
  |none=>
   have hr:(Builtin.append_ #[b,b] o.type #[v,.slice none 0 n]).run P w= .ok v w:=by
    have aa:w.ownsRow B E 1 v xs.length xs:=t;rcases aa.2 with⟨rfl,_⟩|⟨g,O,ad,rfl,_,_,Z,_⟩
    ·simp[Builtin.append_,pN i,sizeOf,typeInfo,f,Builtin.lenOf,Builtin.firstCells]
    ·simp[Builtin.append_,pN i,sizeOf,typeInfo,f,Builtin.lenOf,Builtin.firstCells,Z,storeCells]
   refine wpList_plain q λac U=> ?_;unfold Oper.wp execOp;simp only[r,resolve,invoke,builtin,Gh,Sem.run_pure,ami,lD,jG,mR,x,A,jk,hr];refine U _ _ (h v w (by grind) ⟨rfl,rfl,rfl,fZ _,λ_ _ _=>rfl⟩ (λg H=> .inl H))
  |some k=>
   refine wpList_append_own_at (P:=P) w q s y b r B E N z 1 bytes i f J K L M Oc v xs.length xs x t k 0 n [] A rfl On On Mm ?_ F ?_
   ·have:(xs.length+0)*bytes<=(xs.length+0)*100:=iI _ G;exact Oa
   ·intro d c S p _ T;refine h d c (by grind [Ow]) p (λg H=> ?_)
    grind
 ·obtain⟨l,D,rfl,hb,W⟩:=V e;refine ama (P:=P) (w:=w) q s y b r B E N z 1 bytes i f J K L M Oc v xs.length xs x t ⟨l,D,none⟩ ys.length n ys A On ?_ R e ?_ ?_ F _ rfl ?_
  ·intro j u I;have Y:j<ys.length:=(lP.1 I).1;have:=W j Y;rw[I]at this;have ae:(⟨l,D,none⟩:Addr).add j=⟨l,D+j,none⟩:=Kb
   grind
  ·exact Mm
  ·have:(xs.length+ys.length)*bytes<=(xs.length+ys.length)*100:=iI _ G;exact Oa
  ·intro g O c S p h4 T;refine h _ c ?_ p ?_
   ·grind [Ow]
   ·intro ag X;simp[Value.ownBlock]at X
    grind
theorem nQ{P:Program}{ops:Array Oper}{rest:List Oper}{o:Oper}{a:Act}{Q:Exit->Act->World->Prop}{w:World}(l c:Operand)(e E:TypeId)(z:Value)(bytes:Nat)
 (r:o.guard=none) (v:o.op=Op.makeSlice e l c)
 (x:P.underlying e=some (.slice E)) (hi:(P.info? E).map (λi=>(i.zero,i.size,i.bytes))=some (some z,1,bytes)) (D:z.cells= #[z]) (p:bytes<=100)
 (B:Nat) (L:Int) (n:Nat) (t:a.eval l= .int .i64 L) (q:a.eval c= .int .i64 L) (f:L=(n:Int)) (M:n<=1000000000000) (k:B<=w.heap.size)
 (h:∀b,Ow E B b (.slice (some ⟨w.heap.size,0,none⟩) n n) (List.replicate n z)->w.grownBy b none->w.heap.size<b.heap.size->wpList P ops Q rest (a.put o.dst (.slice (some ⟨w.heap.size,0,none⟩) n n)) b):
 wpList P ops Q (o::rest) a w:=by
 obtain⟨F,s,y,A,C⟩:=ml hi;refine wpList_make_full (P:=P) w r l c e v B E F z 1 x s y A .i64 .i64 L L n t q f f ?_ Mm k ?_
 ·rw[C];have:bytes*n<=100*n:=iB _ p;exact Oa
 ·intro b d g;have j:Ow E B b (.slice (some ⟨w.heap.size,0,none⟩) n n) (List.replicate n z):=by
   unfold Ow;rw[D,qT,akA]at d
   grind
  refine h b j g ?_;rcases d.2 with⟨d,_⟩|⟨I,G,H,J,_,K,_⟩
  ·simp at d
  grind
theorem EL(a:Nat)(b:a<9223372036854775808):(BitVec.ofInt IntKind.i64.bits (a:Int)).toNat=a:=by
 show(BitVec.ofInt 64 (a:Int)).toNat=a
 grind
theorem EB(a b:Nat)(c:a<9223372036854775808)(d:b<9223372036854775808):bits .and .i64 (a:Int) (b:Int)=((a&&&b:Nat):Int):=by
 have e:a&&&b<2^63:=Nat.and_lt_two_pow _ Oa;show IntKind.i64.wrap ((BitVec.ofInt IntKind.i64.bits (a:Int)&&&BitVec.ofInt IntKind.i64.bits (b:Int)).toNat:Int)=_;rw[BitVec.toNat_and,EL a c,EL b d,iE _ Oa]
theorem ajI(a b:Nat)(c:a<9223372036854775808)(d:b<9223372036854775808):bits .or .i64 (a:Int) (b:Int)=((a|||b:Nat):Int):=by
 have e:a|||b<2^63:=uA Oa Oa;show IntKind.i64.wrap ((BitVec.ofInt IntKind.i64.bits (a:Int)|||BitVec.ofInt IntKind.i64.bits (b:Int)).toNat:Int)=_;rw[BitVec.toNat_or,EL a c,EL b d,iE _ Oa]
end
section
theorem info45:(prog.info? 45).map (λi=>(i.zero,i.size,i.bytes))=some (some (.slice none 0 0),1,24):=Ob
def OL(B U:Nat)(w:World)(v:Value)(ll:lO):Prop:=
 ∃a:np,Ow 45 B w v a/\(∀k,v.ownBlock=some k->k<U)/\a.length=ll.length/\∀i,i<ll.length->OI B w (a.getD i undef) (ll.getD i [])/\∀k,(a.getD i undef).ownBlock=some k->k<U
section
variable {B U:Nat} {w w':World} {v u:Value} {ll:lO} {l:gP}
theorem OL.nil(B U:Nat)(w:World):OL B U w (.slice none 0 0) []:=⟨[],Ow.nil _ _ _,by simp[Value.ownBlock],rfl,λi h=>by simp at h⟩
theorem OL.kept{b:Option Nat}(h:OL B U w v ll)(g:w.grownBy w' b)(r:∀k,b=some k->k<B\/U<=k):OL B U w' v ll:=by
 obtain⟨p,c,d,j,l⟩:=h;have i:∀x:Value,(∀k,x.ownBlock=some k->B<=k/\k<U)->x.ownBlock=none\/x.ownBlock≠b:=by
  intro x s;cases q:x.ownBlock with
  |none=>grind
  |some k=>
   grind
 refine⟨p,c.kept g (i v λk a=>⟨(c.lt k a).1,d k a⟩),d,j,λo n=> ?_⟩;obtain⟨e,f⟩:=l o n;exact⟨e.kept g (i _ λk a=>⟨(e.lt k a).1,f k a⟩),f⟩
theorem OL.below(h:OL B U w v ll)(b:gm w w'):OL B U w' v ll:=by
 obtain⟨g,d,e,f,a⟩:=h;exact⟨g,d.below b,e,f,λi c=>⟨(a i c).1.below b,(a i c).2⟩⟩
theorem OL.mono{b c:Nat}(h:OL B U w v ll)(e:b<=B)(f:U<=c):OL b c w v ll:=by
 obtain⟨o,j,l,n,d⟩:=h;exact⟨o,j.mono e,λk a=>gS (l k a) f,n,λi g=>⟨(d i g).1.mono e,λk a=>gS ((d i g).2 k a) f⟩⟩
theorem OL.len(h:OL B U w v ll):∃a c,v= .slice a ll.length c:=by
 obtain⟨f,b,_,d,_⟩:=h;obtain⟨a,c,e⟩:=b.len
 grind
theorem OL.form(h:OL B U w v ll)(d:0<ll.length):∃g c,v= .slice (some ⟨g,0,none⟩) ll.length c/\B<=g/\g<w.heap.size:=by
 obtain⟨f,a,_,b,_⟩:=h;obtain⟨g,c,e,h⟩:=a.form Oa
 grind
theorem OL.get{g n c:Nat}(h:OL B U w (.slice (some ⟨g,0,none⟩) n c) ll)(i:Nat)(hi:i<ll.length):∃u,w.cell? ⟨g,i,none⟩=some u/\OI B w u (ll.getD i []):=by
 obtain⟨d,a,_,e,b⟩:=h;refine⟨d.getD i undef,?_,(b i hi).1⟩;rw[a.cell i Oa]
 grind
theorem kA{a:Nat}{b:np}(h:Ow 45 B w v b)(g:OI a w u l):u.ownBlock=none\/u.ownBlock≠v.ownBlock:=by
 rcases h.2 with⟨rfl,_⟩|⟨c,f,j,rfl,_,n,_⟩
 ·cases p:u.ownBlock with
  |none=>grind
  |some q=>right;simp[Value.ownBlock]
 ·rcases g.2 with⟨rfl,_⟩|⟨d,i,k,rfl,_,o,_⟩
  ·exact .inl rfl
  ·right;intro e;simp only[Value.ownBlock,gH]at e
   grind
theorem OL.snoc{g:Nat}{c:World}{r:Value}{a:np}(h:Ow 45 B w v a)(t:∀k,v.ownBlock=some k->k<U)(d:a.length=ll.length)(j:∀i,i<ll.length->OI B w (a.getD i undef) (ll.getD i [])/\∀k,(a.getD i undef).ownBlock=some k->k<U)
 (q:OI g w u l) (s:B<=g) (p:Ow 45 B c r (a++[u])) (f:w.grownBy c v.ownBlock):OL B c.heap.size c r (ll++[l]):=by
 have y:=f.size;refine⟨a++[u],p,λk b=>(p.lt k b).2,by simp[d],λi x=> ?_⟩;have o:OI B c u l:=(q.kept f (kA h q)).mono s;by_cases e:i<ll.length
 ·rw[gc,kd Oa,<-gc,gc (l:=ll++[l]),kd e,<-gc];have n:=(j i e).1.kept f (kA h (j i e).1);exact⟨n,λk b=>(n.lt k b).2⟩
 ·obtain rfl:i=ll.length:=(by grind);rw[gc,<-d,jE (fZ _),jU,d,gc,jE (fZ _),jU];exact⟨o,λk b=>(o.lt k b).2⟩
end
end
theorem abB(v u:Value)(l m:gP)(w:World)(a:Sl w v l)(b:Sl w u m)(c:l.length≠m.length):
 Calls prog 166 #[v,u] w λe d=>e= .returned (.bool false)/\w=d:=by
 obtain⟨f,h,rfl,k,_⟩:=a.out;obtain⟨g,i,rfl,n,_⟩:=b.out;have j:((l.length:Int) !=m.length)=true:=iT.2 (λe=>c (Int.ofNat.inj e));go_enter func166,ntmps166;go_wp2;go_ret;exact⟨rfl,rfl⟩
theorem YB{l m:gP}{k:Nat}(b:k<l.length)(c:k<m.length)(d:l.take k=m.take k)(a:l[k]?.getD 0=m[k]?.getD 0):l.take (k+1)=m.take (k+1):=by
 grind [List.take_add_one]
theorem W9(v u:Value)(l m:gP)(w:World)(s:Sl w v l)(x:Sl w u m)(a:m.length=l.length):
 Calls prog 166 #[v,u] w λe D=>e= .returned (.bool (decide (l=m)))/\∃n,D=w.drewN n:=by
 obtain⟨E,I,rfl,O,t⟩:=s.out;obtain⟨F,J,rfl,C,f⟩:=x.out;rw[a]at f C⊢;have o:=gb a;have h:∀k:Nat,k<l.length->l[k]?.getD 0≠m[k]?.getD 0->l≠m:=λk _ A e=>A QU;have y:=gb h;clear a h s x;generalize p:l.length=N at*;have j:=gb p;clear p;go_enter func166,ntmps166;go_wp2;go_loopw [5] (λi wr=>∃k:Nat,k<=N/\i= .int .i64 k/\(∃n,wr=w.drewN n)/\Hid (l.take k=m.take k)) (λi _=>N-(intOf i).toNat)
 case atStart=>exact⟨0,ge _,rfl,⟨0,rfl⟩,gb rfl⟩
 case round=>
  obtain⟨k,M,rfl,⟨n,rfl⟩,g⟩:=hrel;by_cases c:k<N
  ·obtain⟨G,P,rfl,K,q⟩:=t Oa;obtain⟨H,Q,rfl,L,r⟩:=f Oa;have c1:=q k c;have c2:=r k c;clear q r t f;go_wp2;go_quiet (fail);by_cases b:l[k]?.getD 0=m[k]?.getD 0
   ·have z:=gb b;have B:(l[k]?.getD 0 !=m[k]?.getD 0)=false:=(by simp[b]);clear b;go_wp2;go_roundw
    case rel=>exact⟨k+1,by omega,by go_num,⟨_,rfl⟩,gb (YB (by rw[j.out];exact c) (by rw[o.out];exact c) g.out z.out)⟩
    case measure=>exact gQ
   ·have B:(l[k]?.getD 0 !=m[k]?.getD 0)=true:=(by grind);have a:=y.out k c b;have d:=gb (gp a);clear b a;go_wp2;go_ret;refine⟨by rw[d.out];rfl,?_⟩;exact Ko
  ·obtain rfl:k=N:=by omega
   have d:=gd (decide (l=m)=true) (gy (by
    have:=g.out;rw[ie (by rw[j.out];omega),ie (by rw[o.out];omega)]at this
    exact this))
   clear g;go_wp2;go_ret;refine⟨by rw[d.out];rfl,?_⟩
   grind
theorem abA(v u:Value)(l m:gP)(w:World)(a:Sl w v l)(b:Sl w u m):
 Calls prog 166 #[v,u] w λe c=>e= .returned (.bool (decide (l=m)))/\∃n,c=w.drewN n:=by
 by_cases h:m.length=l.length
 ·exact W9 v u l m w a b h
 ·refine(abB v u l m w a b (λe=>h e.symm)).mono λe c ⟨d,f⟩=> ?_;subst f;refine⟨?_,0,rfl⟩;rw[d,gp]
  grind
theorem rq(k j:Nat):k^(j+1)=k^j*k:=mS k j
theorem wF{p k:Nat}{z:Int}(a:1<=k):z/(k:Int)<p↔z<((p*k:Nat):Int):=by
 grind [Int.ediv_lt_iff_lt_mul]
theorem qE{k i n:Nat}(a:1<=k)(h:i<=n):k^i<=k^n:=gN a h
theorem LN(n:Int)(w:World):
 Calls prog 195 #[.int .i64 1,.int .i64 n] w λe a=>e= .returned (.tuple #[.int .i64 1,.bool true])/\w=a:=by
 go_enter func195,ntmps195;go_wp2;go_ret2;exact⟨rfl,rfl⟩
theorem LM(k n:Nat)(w:World)(b:2<=k)(h:k^n<=1000000000000000000):
 Calls prog 195 #[.int .i64 k,.int .i64 n] w λe c=>e= .returned (.tuple #[.int .i64 (k^n:Nat),.bool true])/\w=c:=by
 have g:=uX b h;obtain⟨ah,a⟩:∃ah,ah=k^n:=⟨_,rfl⟩;rw[<-a]at h⊢;have HR:=gb a;clear a;have f:((k:Int)==1)=false:=Oo;go_enter func195,ntmps195;go_wp2;go_loop [6,10] (λo i=>∃j p:Nat,j<=n/\i= .int .i64 j/\o= .int .i64 p/\Hid (p=k^j)) (λ_ i=>n-(intOf i).toNat)
 case atStart=>exact⟨0,1,ge _,rfl,rfl,gb rfl⟩
 case round=>
  obtain⟨j,p,d,rfl,rfl,hp⟩:=hrel;by_cases ap:j<n
  ·exact Q9
  ·exact Rq
theorem CF(k n:Nat)(w:World)(c:1<=k)(h:k^n<=1000000000000000000):
 Calls prog 195 #[.int .i64 k,.int .i64 n] w λe b=>e= .returned (.tuple #[.int .i64 (k^n:Nat),.bool true])/\w=b:=by
 by_cases a:k=1
 ·subst a;rw[Nat.one_pow];exact LN n w
 ·exact LM k n w Oa h
theorem WI(k n:Nat)(w:World)(c:2<=k)(g:n<=9223372036854775807)(h:1000000000000000000<k^n):
 Calls prog 195 #[.int .i64 k,.int .i64 n] w λe a=>e= .returned (.tuple #[.int .i64 0,.bool false])/\w=a:=by
 have ao:=gb h;clear h;have d:((k:Int)==1)=false:=Oo;go_enter func195,ntmps195;go_wp2;go_loop [6,10] (λo i=>∃j p:Nat,j<=n/\i= .int .i64 j/\o= .int .i64 p/\Hid (p=k^j)/\p<=1000000000000000000) (λ_ i=>n-(intOf i).toNat)
 case atStart=>exact⟨0,1,ge _,rfl,rfl,gb rfl,by omega⟩
 case round=>
  obtain⟨j,p,b,rfl,rfl,hp,l⟩:=hrel;by_cases f:j<n
  ·by_cases h1:(1000000000000000000:Int)/k<p
   ·exact KN
   ·exact K4
  ·exact Qj
def kB(n k:Int):Int:=if n<1\/k<1 then 1 else if 1000000000000000000<k.toNat^n.toNat then 3 else 0
theorem I1{n k:Int}(h:n<1\/k<1):kB n k=1:=gl h
theorem I0{n k:Nat}(a:1<=n)(b:1<=k)(h:1000000000000000000<k^n):kB n k=3:=by
 unfold kB
 grind
theorem wJ{n k:Nat}(a:1<=n)(b:1<=k)(h:k^n<=1000000000000000000):kB n k=0:=by
 unfold kB
 grind
theorem zY(n k:Int)(w:World)(i:ja n)(_:ja k):
 Calls prog 115 #[.int .i64 n,.int .i64 k] w λe b=>e= .returned (.int .i64 (kB n k))/\w=b:=by
 by_cases h:n<1\/k<1
 ·rw[I1 h];by_cases j:n<1
  ·go_enter func115,ntmps115;exact Mb
  ·have l:k<1:=(by omega);go_enter func115,ntmps115;exact Mb
 ·obtain⟨n,rfl⟩:∃m:Nat,n=(m:Int):=⟨n.toNat,by omega⟩;obtain⟨k,rfl⟩:∃m:Nat,k=(m:Int):=⟨k.toNat,by omega⟩;have d:1<=n:=Oa;have a:1<=k:=Oa;have g:n<=9223372036854775807:=(by grind [ja]);clear h i;by_cases h:1000000000000000000<k^n
  ·have f:2<=k:=by
    rcases jh k 2 with c|c
    ·exfalso;obtain rfl:k=1:=Oa
     grind
    ·exact c
   rw[I0 d a h];have ao:=gb h;clear h;go_enter func115,ntmps115;go_wp2_with fail;refine(WI k n w f g ao.out).mono ?_;rintro e b ⟨rfl,rfl⟩;exact Of
  ·rw[wJ d a Oa];have ao:=gb h;clear h;go_enter func115,ntmps115;go_wp2_with fail;refine(CF k n w a Kf).mono ?_;rintro e b ⟨rfl,rfl⟩;exact Of
theorem YL(n k:Nat)(w:World)(C:2<=k)(h:k^n<=1000000000000000000):
 Calls prog 116 #[.int .i64 n,.int .i64 k] w λg s=>g= .returned (.int .i64 (oI k n n:Nat))/\∃m,s=w.drewN m:=by
 have L:=uX C h;have H:=gb h;clear h;go_enter func116,ntmps116;go_wp2;go_loopw [5,12] (λF i wr=>∃t z:Nat,t<=n/\i= .int .i64 t/\F= .int .i64 z/\Hid (z=oI k n t)/\∃m,wr=w.drewN m) (λ_ i _=>n-(intOf i).toNat)
 case atStart=>exact⟨0,0,ge _,rfl,rfl,gb rfl,0,rfl⟩
 case round=>
  obtain⟨t,z,q,rfl,rfl,a,m,rfl⟩:=hrel;by_cases I:t<n
  ·have B:=zG (k:=k) (n:=n) Oa H.out t q;rw[<-a.out]at B;go_wp2;go_loopw [7,8] (λv c wr=>∃x y:Nat,v= .int .i64 x/\c= .int .i64 y/\Hid (Nat.gcd x y=Nat.gcd n t)/\y<=n/\x<=n/\∃m,wr=w.drewN m) (λ_ c _=>(intOf c).toNat)
   case atStart=>exact⟨n,t,rfl,rfl,gb rfl,q,fZ _,m,rfl⟩
   case round=>
    obtain⟨x,y,rfl,rfl,d,E,N,m,rfl⟩:=hrel;by_cases A:y=0
    ·subst A;have j:x=Nat.gcd n t:=(by rw[<-d.out,Cv]);have l:k^x<=1000000000000000000:=by
      exact gt (qE Oa Oa) H.out
     have p:oI k n (t+1)=z+k^x:=(by rw[a.out,j];rfl);have f:=gb p;have e:=gb l;clear p l j d a;go_wp2_with fail;refine(CF k x _ Oa e.out).mono ?_;rintro g s ⟨rfl,rfl⟩;obtain⟨r,o⟩:∃r,r=k^x:=⟨_,rfl⟩;have D:=e.out;have b:=f.out;rw[<-o]at D b⊢;have G:=gb b;clear f b o;exact Rp
    ·have J:0<=(x:Int)%y:=m7 _ Oa;have K:(x:Int)%y<y:=mO _ Oa;have M:((y:Int) !=0)=true:=Oo;go_wp2;go_quiet (fail);go_wp2;go_roundw
     case rel=>exact⟨y,x%y,rfl,by simp,gb (by rw[<-d.out,ss y,<-aks,ss]),by omega,E,by first|exact⟨_,rfl⟩|(simp only[pI];grind)⟩
     case measure=>exact gQ
  ·obtain rfl:t=n:=(by omega);obtain rfl:z=oI k t t:=a.out;go_wp2;go_ret;exact⟨rfl,m,rfl⟩
def mm(n k:Nat):Int:=if k=1 then 1 else qX k n n
theorem zV{n k:Nat}(b:1<=n)(a:n<61):((oI k n n:Nat):Int)/n=qX k n n:=by
 grind [YK,Int.mul_ediv_cancel_left]
theorem VZ(n k:Int)(w:World)(b:ja n)(c:ja k)(h:kB n k≠0):
 Calls prog 46 #[.int .i64 n,.int .i64 k] w λe a=>e= .returned (.tuple #[.int .i64 0,.int .i64 (kB n k)])/\w=a:=by
 have d:(kB n k !=0)=true:=by grind
 have H:=gb (zY n k w b c);generalize kB n k=z at*;go_enter func46,ntmps46;go_wp2_with fail;refine H.out.mono ?_;rintro e a ⟨rfl,rfl⟩;go_wp2;go_ret2;exact⟨rfl,rfl⟩
theorem Zi(n k:Nat)(w:World)(f:1<=n)(c:1<=k)(i:ja n)(j:ja k)(h:k^n<=1000000000000000000):
 Calls prog 46 #[.int .i64 n,.int .i64 k] w λe b=>e= .returned (.tuple #[.int .i64 (mm n k),.int .i64 0])/\∃m,b=w.drewN m:=by
 have H:=gb (zY n k w i j);rw[wJ f c h]at H;by_cases d:k=1
 ·subst d;have a:mm n 1=1:=gl rfl;rw[a];clear a h;go_enter func46,ntmps46;go_wp2_with fail;refine H.out.mono ?_;rintro e b ⟨rfl,rfl⟩;go_wp2;go_ret2;exact⟨rfl,0,rfl⟩
 ·have a:mm n k=qX k n n:=gh d;have p:=uX (k:=k) Oa h;rw[a,<-zV f Oa];have l:((k:Int)==1)=false:=Oo;have g:=gb (YL n k w Oa h);have o:=zG (k:=k) (n:=n) c h n (fZ _);clear a h;generalize oI k n n=T at*;have q:0<=(T:Int)/n:=R7 Oa Oa;have r:(T:Int)/n<=T:=JE _ Oa;go_enter func46,ntmps46;go_wp2_with fail;refine H.out.mono ?_;rintro e b ⟨rfl,rfl⟩;go_wp2_with fail;refine g.out.mono ?_;rintro e b ⟨rfl,m,rfl⟩;go_wp2;go_ret2;exact⟨rfl,m,rfl⟩
theorem Ch(n k:Int)(w:World)(f:ja n)(_:ja k):
 Calls prog 68 #[.int .i64 n,.int .i64 k] w λe g=>e= .returned (.int .i64 (kB n k))/\w=g:=by
 by_cases h:n<1\/k<1
 ·rw[I1 h];by_cases h1:n<1
  ·go_enter func68,ntmps68;exact Mb
  ·have h2:k<1:=(by omega);go_enter func68,ntmps68;exact Mb
 ·obtain⟨n,rfl⟩:∃m:Nat,n=(m:Int):=⟨n.toNat,by omega⟩;obtain⟨k,rfl⟩:∃m:Nat,k=(m:Int):=⟨k.toNat,by omega⟩;have b:1<=n:=Oa;have a:1<=k:=Oa;have q:n<=9223372036854775807:=(by grind [ja]);clear h f;by_cases h1:k=1
  ·subst h1;rw[wJ b a (by grind)];go_enter func68,ntmps68;go_wp2;go_loop [5,6] (λo i=>o= .int .i64 1/\i= .int .i64 0) (λ_ _=>0)
   case atStart=>grind
   case round=>
    obtain⟨rfl,rfl⟩:=hrel;exact Of
  have l:2<=k:=Oa;clear h1;by_cases h:1000000000000000000<k^n
  ·rw[I0 b a h];have ao:=gb h;clear h;go_enter func68,ntmps68;go_wp2;go_loop [5,6] (λo i=>∃j p:Nat,j<=n/\i= .int .i64 j/\o= .int .i64 p/\Hid (p=k^j)/\p<=1000000000000000000) (λ_ i=>n-(intOf i).toNat)
   case atStart=>exact⟨0,1,ge _,rfl,rfl,gb rfl,by omega⟩
   case round=>
    obtain⟨j,p,d,rfl,rfl,hp,r⟩:=hrel;by_cases ap:j<n
    ·by_cases h1:(1000000000000000000:Int)/k<p
     ·exact Of
     ·exact K4
    ·exact Qj
  ·rw[wJ b a Oa];obtain⟨ah,c⟩:∃ah,ah=k^n:=⟨_,rfl⟩;rw[<-c]at h;have HR:=gb c;clear c;go_enter func68,ntmps68;go_wp2;go_loop [5,6] (λo i=>∃j p:Nat,j<=n/\i= .int .i64 j/\o= .int .i64 p/\Hid (p=k^j)) (λ_ i=>n-(intOf i).toNat)
   case atStart=>exact⟨0,1,ge _,rfl,rfl,gb rfl⟩
   case round=>
    obtain⟨j,p,d,rfl,rfl,hp⟩:=hrel;by_cases ap:j<n
    ·exact Q9
    ·exact Of
theorem NX(k n:Nat)(w:World)(b:2<=k)(h:k^n<=1000000000000000000):
 Calls prog 158 #[.int .i64 k,.int .i64 n] w λe d=>e= .returned (.int .i64 (k^n:Nat))/\w=d:=by
 have g:=uX b h;obtain⟨r,a⟩:∃r,r=k^n:=⟨_,rfl⟩;rw[<-a]at h⊢;have HR:=gb a;clear a;go_enter func158,ntmps158;go_wp2;go_loop [5,6] (λo i=>∃j p:Nat,j<=n/\i= .int .i64 j/\o= .int .i64 p/\Hid (p=k^j)) (λ_ i=>n-(intOf i).toNat)
 case atStart=>exact⟨0,1,ge _,rfl,rfl,gb rfl⟩
 case round=>
  obtain⟨j,p,f,rfl,rfl,hp⟩:=hrel;by_cases c:j<n
  ·have dO:p*k<=r:=(by rw[hp.out,<-rq,HR.out];exact qE Oa c);exact KW
  ·obtain rfl:j=n:=(by omega);obtain rfl:p=r:=DC;exact Of
theorem Lz{f p n:Nat}{m r:Int}:AN (62-p) p n m=some r->p<=62/\(n<p->m=r)/\(p<=n->n%p≠0->AN (62-p-1) (p+1) n m=some r)/\(p<=n->n%p=0->n/p%p=0->(0:Int)=r)/\(p<=n->n%p=0->n/p%p≠0->AN (62-p-1) (p+1) (n/p) (-m)=some r):=by
 intro h;obtain⟨g,a⟩:∃g,62-p=g:=⟨_,rfl⟩;rw[a]at h⊢;cases g with
 |zero=>simp[AN]at h
 |succ g=>
  simp only[AN]at h
  grind
theorem G6(d:Nat)(w:World)(g:1<=d)(c:d<=60):
 Calls prog 157 #[.int .i64 d] w λx D=>x= .returned (.int .i64 (mu d))/\w=D:=by
 have H:=gb (alp g c);generalize mu d=C at*;go_enter func157,ntmps157;go_wp2;go_loop [0,3,4] (λv B i=>∃(n p:Nat)(m:Int),n<=60/\2<=p/\p<=62/\v= .int .i64 n/\i= .int .i64 p/\B= .int .i64 m/\-1<=m/\m<=1/\Hid (AN (62-p) p n m=some C)) (λ_ _ i=>62-(intOf i).toNat)
 case atStart=>exact⟨d,2,1,c,by omega,by omega,rfl,rfl,rfl,by omega,by omega,H⟩
 case round=>
  obtain⟨n,p,m,J,K,L,rfl,rfl,rfl,G,I,A⟩:=hrel;obtain⟨M,h,j,k,l⟩:=Lz (f:=0) A.out;have q:=gb h;have r:=gb j;have s:=gb k;have t:=gb l;clear h j k l g c;by_cases e:p<=n
  ·have E:0<=(n:Int)/p:=R7 Oa Oa;have F:(n:Int)/p<=n:=JE _ Oa;by_cases a:n%p=0
   ·have y:(((n:Int)%p)==0)=true:=(by simp;omega);by_cases b:n/p%p=0
    ·have z:(((n:Int)/p%p)==0)=true:=(by grind);obtain rfl:=s.out e a b;clear a b;exact Of
    ·have z:(((n:Int)/p%p)==0)=false:=(by grind);have o:=gb (t.out e a b);clear a b;go_wp2;go_round
     case rel=>exact⟨n/p,p+1,-m,by omega,by omega,by omega,by go_num,by go_num,rfl,by omega,by omega,by omega⟩
     case measure=>exact gQ
   ·have y:(((n:Int)%p)==0)=false:=(by grind);have o:=gb (r.out e a);clear a;go_wp2;go_round
    case rel=>exact⟨n,p+1,m,by omega,by omega,by omega,rfl,by go_num,rfl,by omega,by omega,by omega⟩
    case measure=>exact gQ
  ·obtain rfl:=q.out Oa;exact Of
theorem Wy(k n d:Nat)(h:1<=d):qX k n d=qX k n (d-1)+if n%d=0 then(mx k d d).tdiv (d:Int)else 0:=Dv
theorem Yw(k n d:Nat)(h:1<=d):mx k n d=mx k n (d-1)+if n%d=0 then mu (n/d)*((k^d:Nat):Int)else 0:=Dv
theorem EH(n k:Nat)(w:World)(hn:1<=n)(F:2<=k)(h:k^n<=1000000000000000000):
 Calls prog 69 #[.int .i64 n,.int .i64 k] w λr C=>r= .returned (.int .i64 (qX k n n))/\w=C:=by
 have ag:=uX F h;have H:=gb h;clear h;have ad:((k:Int)==1)=false:=Oo;go_enter func69,ntmps69;go_wp2;go_loop [5,6] (λs i=>∃(d:Nat)(z:Int),1<=d/\d<=n+1/\i= .int .i64 d/\s= .int .i64 z/\Hid (z=qX k n (d-1))) (λ_ i=>n+1-(intOf i).toNat)
 case atStart=>exact⟨1,0,by omega,by omega,rfl,rfl,gb rfl⟩
 case round=>
  obtain⟨d,z,E,ab,rfl,rfl,q⟩:=hrel;by_cases I:d<=n
  ·have e:=Wy k n d E;have D:=Tl (k:=k) (n:=n) Oa Oa H.out (d-1) Oa;rw[<-q.out]at e D;obtain⟨z1,z2⟩:=D;by_cases g:n%d=0
   ·have U:(((n:Int)%d) !=0)=false:=(by simp;omega);rw[gl g]at e;have T:=ain (k:=k) (n:=n) (d:=d) Oa Oa H.out E I g;obtain⟨R,S⟩:=T;have l:=gb e;have o:=gd (k^d<=1000000000000000000) (gt (qE Oa I) H.out);clear e g q;go_wp2;go_loop [7,8,9,10] (λs i _ _=>∃(c:Nat)(y:Int),1<=c/\c<=d+1/\i= .int .i64 c/\s= .int .i64 y/\Hid (y=mx k d (c-1))) (λ_ i _ _=>d+1-(intOf i).toNat)
    case atStart=>exact⟨1,0,by omega,by omega,rfl,rfl,gb rfl⟩
    case round=>
     obtain⟨c,y,W,aa,rfl,rfl,j⟩:=hrel;by_cases G:c<=d
     ·have a:=Yw k d c W;have t:=zE (k:=k) (n:=d) Oa Oa o.out (c-1) Oa;have f:=zE (k:=k) (n:=d) Oa Oa o.out c G;rw[<-j.out]at a t;by_cases p:d%c=0
      ·have V:(((d:Int)%c)==0)=true:=(by simp;omega);rw[gl p]at a;have K:1<=d/c:=(by rw[qo Oa];omega);have ah:d/c<=d:=jg _ _;have x:k^c<=1000000000000000000:=gt (qE Oa G) o.out;have L:(d:Int)/c=((d/c:Nat):Int):=On;have J:=Vh (d:=d/c) K Oa;have X:=xM J.1 J.2 x;have ac:(d:Int)/c<=60:=Oa;rw[a]at f;have ai:=f.1;have aj:=f.2.1;obtain⟨ae,af⟩:=X;have b:=gb a;have M:=gb L;have O:=gb (λw=>NX k c w F x);have N:=gb (λw=>G6 (d/c) w K Oa);clear a L x t f p j;generalize mu (d/c)=m at*;generalize k^c=Y at*;go_wp2_with fail;rw[M.out];refine(N.out _).mono ?_;rintro r C ⟨rfl,rfl⟩;go_wp2_with fail;refine(O.out _).mono ?_;rintro r C ⟨rfl,rfl⟩;go_wp2;go_round
       case rel=>exact⟨c+1,y+m*(Y:Int),by omega,by omega,by go_num,by go_num,gb (by rw[kN];exact b.out.symm)⟩
       case measure=>exact gQ
      ·have V:(((d:Int)%c)==0)=false:=(by simp;omega);rw[gh p]at a;have b:=gb a;clear a p t f j;go_wp2;go_round
       case rel=>exact⟨c+1,y,by omega,by omega,by go_num,rfl,gb (by rw[kN];have:=b.out;omega)⟩
       case measure=>exact gQ
     ·obtain rfl:c=d+1:=(by omega);obtain rfl:y=mx k d d:=(by have:=j.out;simp_all);have b:=l.out;have v:=zE (k:=k) (n:=d) Oa Oa o.out d Oa;have Z:=v.1;have b2:=v.2.1;obtain⟨B,A⟩:∃B,B=(mx k d d).tdiv (d:Int):=⟨_,rfl⟩;rw[<-A]at b R S;generalize mx k d d=s at*;have P:=gb A.symm;have Q:=gb b;clear b v A l j;go_wp2;go_round
      case rel=>exact⟨d+1,z+B,by omega,by omega,by go_num,by rw[P.out,IntWalk.wrap64_in _ Oa],gb (by rw[kN];exact Q.out.symm)⟩
      case measure=>exact gQ
   ·have U:(((n:Int)%d) !=0)=true:=(by simp;omega);rw[gh g]at e;have l:=gb e;clear e g q;go_wp2;go_round
    case rel=>exact⟨d+1,z,by omega,by omega,by go_num,rfl,gb (by rw[kN];have:=l.out;omega)⟩
    case measure=>exact gQ
  ·obtain rfl:d=n+1:=(by omega);obtain rfl:z=qX k n n:=(by have:=q.out;grind);exact Of
theorem Lq(n k:Nat)(w:World)(b:1<=n)(d:1<=k)(h:k^n<=1000000000000000000):
 Calls prog 69 #[.int .i64 n,.int .i64 k] w λe c=>e= .returned (.int .i64 (mm n k))/\w=c:=by
 by_cases a:k=1
 ·subst a;rw[show mm n 1=1 from gl rfl];go_enter func69,ntmps69;exact Of
 ·rw[show mm n k=qX k n n from gh a];exact EH n k w b Oa h
theorem jI{P:Program}{f:FuncId}{a:Func}(c:P.funcs[f]? =some a)(d:(a.name== "runtime.NumGoroutine")=false)(b:a.body.isNone=false)(args:Array Value)(w:World):
 (callFunc f args).run P w= .ok (.enter f args) w:=by
 unfold callFunc;simp only[program,Gh];simp[c,d,b,Sem.run,Result.andThen]
structure x8(c:FuncId)(cap:Array Value)(p:Int->Bool)(w:World):Prop where
 enter:∀(args:Array Value)(w:World),(callFunc c args).run prog w= .ok (.enter c args) w
 calls:∀(x:Int),ja x->Calls prog c (#[.int .i64 x]++cap) w λe w'=>e= .returned (.bool (p x))/\w=w'
theorem ZV{l:gP}{p:Int->Bool}{k:Nat}(a:k<l.length)(b:p (l[k]?.getD 0)=true):l.any p=true:=by
 grind
theorem Cx{l:gP}{p:Int->Bool}(h:∀k:Nat,k<l.length->p (l[k]?.getD 0)=false):l.any p=false:=by
 rw[amg];intro x a;obtain⟨k,b,rfl⟩:=je a
 grind
def Cs(l:gP)(p:Int->Bool)(r:Int):Prop:=if l.any p=true then 0<=r else r= -1
theorem B9(c:FuncId)(g:Array Value)(p:Int->Bool)(v:Value)(l:gP)(w:World)(q:Sl w v l)(h:∀C∈l,ja C)(f:x8 c g p w):
 Calls prog 244 #[v,.func (.func c) #[] g] w λe t=>(∃s:Int,e= .returned (.int .i64 s)/\Cs l p s)/\w=t:=by
 obtain⟨D,k,N,rfl,b,G,r⟩:=q.open;have y:=gb f.calls;have F:=f.enter;have x:Hid (∀k:Nat,k<N->ja (l[k]?.getD 0)):=by
  rw[<-b.out];intro k o
  grind
 have z:Hid (∀k:Nat,k<N->p (l[k]?.getD 0)=true->Cs l p k):=by
  rw[<-b.out];intro k o a;unfold Cs
  grind
 have A:Hid ((∀k:Nat,k<N->p (l[k]?.getD 0)=false)->Cs l p (-1)):=by
  rw[<-b.out];intro B;unfold Cs;rw[gh (by rw[Cx B];simp)]
 clear q f h;go_enter func244,ntmps244;go_wp2;go_loop [8] (λi=>∃k:Nat,k<=N/\i= .int .i64 k/\Hid (∀j:Nat,j<k->p (l[j]?.getD 0)=false)) (λi=>N-(intOf i).toNat)
 case atStart=>exact⟨0,ge _,rfl,gb (λj hj=>by omega)⟩
 case round=>
  obtain⟨k,o,rfl,bg⟩:=hrel;by_cases d:k<N
  ·obtain⟨E,H,rfl,h,n⟩:=r Oa;have c1:=n k d;clear n r;go_wp2_with fail;refine(y.out _ (x.out k d)).mono ?_;rintro e t ⟨rfl,rfl⟩;cases a:p (l[k]?.getD 0)with
   |false=>
    have HP:=gb a;clear a;exact Pg
   |true=>
    have HP:=gb (z.out k d a);clear a;go_wp2;go_ret;exact⟨⟨_,rfl,HP.out⟩,rfl⟩
  ·obtain rfl:k=N:=(by omega);go_wp2;go_ret;exact⟨⟨_,rfl,A.out bg.out⟩,rfl⟩
theorem kU(c:FuncId)(a:Array Value)(p:Int->Bool)(v:Value)(l:gP)(w:World)(g:Sl w v l)(f:∀x∈l,ja x)(b:x8 c a p w):
 Calls prog 190 #[v,.func (.func c) #[] a] w λe d=>e= .returned (.bool (l.any p))/\w=d:=by
 have H:=gb (B9 c a p v l w g f b);clear b;go_enter func190,ntmps190;go_wp2_with fail;refine H.out.mono ?_;rintro e d ⟨⟨ah,rfl,hr⟩,rfl⟩;unfold Cs at hr;cases hp:l.any p with
 |true=>
  exact Ug
 |false=>
  rw[hp]at hr;have b9:ah<0:=(by grind);have HP:=gb hp;clear hr hp;go_wp2;go_ret;refine⟨?_,rfl⟩;rw[HP.out];exact OK
def j8(p:Int):Bool:=decide (p=2)||decide (p=3)||decide (p=5)||decide (p=7)
theorem kC{p:Int}(h:j8 p=true):p=2\/p=3\/p=5\/p=7:=by
 simp only[j8,kD,iK]at h;exact Oa
theorem xZ(p:Int)(w:World):
 Calls prog 149 #[.int .i64 p] w λf g=>f= .returned (.bool (j8 p))/\w=g:=by
 by_cases a:p=2
 ·subst a;go_enter func149,ntmps149;go_wp2;go_ret;exact⟨rfl,rfl⟩
 by_cases b:p=3
 ·subst b;go_enter func149,ntmps149;go_wp2;go_ret;exact⟨rfl,rfl⟩
 by_cases c:p=5
 ·subst c;go_enter func149,ntmps149;go_wp2;go_ret;exact⟨rfl,rfl⟩
 by_cases d:p=7
 ·subst d;go_enter func149,ntmps149;go_wp2;go_ret;exact⟨rfl,rfl⟩
 have e:=gd (j8 p=false) (by grind [j8]);have h:(p==2)=false:=by grind
 have i:(p==3)=false:=by grind
 have j:(p==5)=false:=by grind
 have k:(p==7)=false:=by grind
 clear a b c d;go_enter func149,ntmps149;go_wp2;go_ret;exact⟨by rw[e.out];rfl,rfl⟩
theorem vh(p:Int)(w:World):
 Calls prog 108 #[.int .i64 p] w λf g=>f= .returned (.bool (j8 p))/\w=g:=by
 by_cases a:p=2
 ·subst a;go_enter func108,ntmps108;go_wp2;go_ret;exact⟨rfl,rfl⟩
 by_cases b:p=3
 ·subst b;go_enter func108,ntmps108;go_wp2;go_ret;exact⟨rfl,rfl⟩
 by_cases c:p=5
 ·subst c;go_enter func108,ntmps108;go_wp2;go_ret;exact⟨rfl,rfl⟩
 by_cases d:p=7
 ·subst d;go_enter func108,ntmps108;go_wp2;go_ret;exact⟨rfl,rfl⟩
 have e:=gd (j8 p=false) (by grind [j8]);have h:(p==2)=false:=by grind
 have i:(p==3)=false:=by grind
 have j:(p==5)=false:=by grind
 have k:(p==7)=false:=by grind
 clear a b c d;go_enter func108,ntmps108;go_wp2;go_ret;exact⟨by rw[e.out];rfl,rfl⟩
def tB(p x:Int):Bool:=decide (x<0)||decide (p<=x)
def nD(p:Int)(l:gP):Bool:= !l.any (tB p)
theorem zj{p:Int}{l:gP}(h:nD p l=true):∀x∈l,0<=x/\x<p:=by
 grind [nD,tB]
theorem aa7(p x:Int)(b:Nat)(w:World)(d:w.cell? ⟨b,0,none⟩=some (.int .i64 p)):
 Calls prog 191 #[.int .i64 x,.pointer (some ⟨b,0,none⟩)] w λe c=>e= .returned (.bool (tB p x))/\w=c:=by
 by_cases a:x<0
 ·have HB:=gd (tB p x=true) (by simp[tB,a]);exact U3
 ·have HB:=gd (tB p x=decide (p<=x)) (by simp[tB,a]);exact U3
theorem MM(p:Int)(b:Nat)(w:World)(a:w.cell? ⟨b,0,none⟩=some (.int .i64 p)):x8 191 #[.pointer (some ⟨b,0,none⟩)] (tB p) w where
 enter:=jI func191 Ob Ob
 calls:=λx _=>aa7 p x b w a
theorem zi(p:Int)(v:Value)(l:gP)(w:World)(b:Sl w v l)(g:∀x∈l,ja x):
 Calls prog 109 #[.int .i64 p,v] w λe c=>e= .returned (.bool (nD p l))/\gm w c:=by
 have a:Below w.heap.size w (w.alloc (.cells #[.int .i64 p] 3)):=(f0 _ _).alloc (fZ _) _;have H:=gb (kU _ _ _ v l _ (b.below a) g (MM p w.heap.size _ (kY _ _ _)));have d:=gd (nD p l= !l.any (tB p)) rfl;generalize l.any (tB p)=z at*;have f:=gb a;clear b a;go_enter func109,ntmps109;go_wp2_with fail;refine H.out.mono ?_;rintro e c ⟨rfl,rfl⟩;go_wp2;go_ret;exact⟨by rw[d.out];rfl,f.out⟩
theorem tQ(p:Int)(v:Value)(l:gP)(w:World)(f:Sl w v l):
 Calls prog 148 #[v,.int .i64 p] w λe s=>e= .returned (.bool (nD p l))/\∃r,s=w.drewN r:=by
 obtain⟨t,k,N,rfl,hN,A,g⟩:=f.open;have b:Hid (∀k:Nat,k<N->tB p (l[k]?.getD 0)=true->nD p l=false):=by
  intro k d q;unfold nD;rw[ZV (by rw[hN.out];exact d) q];rfl
 have n:Hid ((∀k:Nat,k<N->tB p (l[k]?.getD 0)=false)->nD p l=true):=by
  intro h;unfold nD;rw[Cx ON];rfl
 clear f;go_enter func148,ntmps148;go_wp2;go_loop [5] (λi=>∃k:Nat,k<=N/\i= .int .i64 k/\Hid (∀j:Nat,j<k->tB p (l[j]?.getD 0)=false)) (λi=>N-(intOf i).toNat)
 case atStart=>exact⟨0,ge _,rfl,gb (λj hj=>by omega)⟩
 case round=>
  obtain⟨k,d,rfl,bg⟩:=hrel;by_cases a:k<N
  ·obtain⟨x,B,rfl,z,c⟩:=g Oa;have c1:=c k a;clear c g;by_cases o:l[k]?.getD 0<0
   ·have HP:=gb (b.out k a (by simp[tB,o]));exact MZ
   by_cases y:p<=l[k]?.getD 0
   ·have HP:=gb (b.out k a (by grind [tB]));exact MZ
   ·have HP:=gd (tB p (l[k]?.getD 0)=false) (by grind [tB]);exact Pg
  ·obtain rfl:k=N:=(by omega);have HP:=gb (n.out bg.out);exact MZ
def nm(p:Int)(l:gP):Int:=if j8 p=false then 1 else if l.length=0\/8<l.length then 2 else if nD p l=false then 1 else 0
def m6(p:Int)(l m:gP):Int:=if nm p l≠0 then nm p l else if m.length≠l.length then 2 else if nD p m=false then 1 else 0
theorem Cl(p:Int)(v:Value)(l:gP)(w:World)(a:Sl w v l):
 Calls prog 147 #[.int .i64 p,v] w λe V=>e= .returned (.int .i64 (nm p l))/\∃n,V=w.drewN n:=by
 have HS:=gb (xZ p w);have bN:=gb (tQ p v l w a);obtain⟨d,k,N,rfl,b,g,c⟩:=a.open;have HE:=gb (show nm p l=if j8 p=false then 1 else if N=0\/8<N then 2 else if nD p l=false then 1 else 0 by rw[<-b.out];rfl);clear a c;generalize nm p l=z at*;generalize j8 p=s at*;generalize nD p l=f at*;cases s with
 |false=>
  exact Se
 |true=>
  by_cases h0:N=0
  ·subst h0;exact Se
  have h:((N:Int)==0)=false:=Oo;by_cases h8:8<N
  ·have HZ:=gd (z=2) Sy;clear h0;go_enter func147,ntmps147;go_wp2_with fail;refine HS.out.mono ?_;rintro e V ⟨rfl,rfl⟩;go_wp2;go_ret;exact⟨by rw[HZ.out];rfl,0,rfl⟩
  ·cases f with
   |false=>
    have HZ:=gd (z=1) Dn;exact Mj
   |true=>
    have HZ:=gd (z=0) Dn;exact Mj
theorem N1(p:Int)(v:Value)(l:gP)(w:World)(a:Sl w v l)(c:∀x∈l,ja x):
 Calls prog 186 #[.int .i64 p,v] w λe V=>e= .returned (.int .i64 (nm p l))/\gm w V:=by
 have HS:=gb (vh p w);have bN:=gb (zi p v l w a c);obtain⟨g,k,N,rfl,b,h,d⟩:=a.open;have HE:=gb (show nm p l=if j8 p=false then 1 else if N=0\/8<N then 2 else if nD p l=false then 1 else 0 by rw[<-b.out];rfl);clear a d;generalize nm p l=z at*;generalize j8 p=s at*;generalize nD p l=f at*;cases s with
 |false=>
  exact Pr
 |true=>
  by_cases h0:N=0
  ·subst h0;exact Pr
  have i:((N:Int)==0)=false:=Oo;by_cases h8:8<N
  ·have HZ:=gd (z=2) Sy;clear h0;go_enter func186,ntmps186;go_wp2_with fail;refine HS.out.mono ?_;rintro e V ⟨rfl,rfl⟩;go_wp2;go_ret;exact⟨by rw[HZ.out];rfl,f0 _ _⟩
  ·cases f with
   |false=>
    have HZ:=gd (z=1) Dn;exact Ml
   |true=>
    have HZ:=gd (z=0) Dn;exact Ml
theorem FP(p:Int)(v u:Value)(l m:gP)(w:World)(c:Sl w v l)(d:Sl w u m):
 Calls prog 60 #[.int .i64 p,v,u] w λe V=>e= .returned (.int .i64 (m6 p l m))/\∃n,V=w.drewN n:=by
 have HT:=gb (λV (h:Sl V v l)=>Cl p v l V h);have bN:=gb (λV (h:Sl V u m)=>tQ p u m V h);have HL:=gb c;have HM:=gb d;obtain⟨o,A,N,rfl,i,r,j⟩:=c.open;obtain⟨q,B,M,rfl,g,s,k⟩:=d.open;have HE:=gb (show m6 p l m=if nm p l≠0 then nm p l else if M≠N then 2 else if nD p m=false then 1 else 0 by rw[<-i.out,<-g.out];rfl);clear c j d k;generalize m6 p l m=z at*;generalize nm p l=t at*;generalize nD p m=f at*;by_cases a:t=0
 ·subst a;by_cases b:M=N
  ·subst b;cases f with
   |false=>
    have HZ:=gd (z=1) Dw;exact Md
   |true=>
    have HZ:=gd (z=0) Dw;exact Md
  ·have x:((M:Int) !=N)=true:=(by simp;omega);have HZ:=gd (z=2) (by rw[HE.out];simp[b]);clear b;exact Qe
 ·have HZ:=gd (z=t) (by rw[HE.out];simp[a]);have y:(t !=0)=true:=(by grind);clear a;exact Qe
theorem qF(p:Int)(v u:Value)(l m:gP)(w:World)(d:Sl w v l)(f:Sl w u m)(g:∀x∈l,ja x)(ar:∀x∈m,ja x):
 Calls prog 105 #[.int .i64 p,v,u] w λe a=>e= .returned (.int .i64 (m6 p l m))/\gm w a:=by
 have HT:=gb (λa (h:Sl a v l)=>N1 p v l a h g);have bN:=gb (λa (h:Sl a u m)=>zi p u m a h ar);have HL:=gb d;have HM:=gb f;obtain⟨q,C,N,rfl,k,s,n⟩:=d.open;obtain⟨r,D,M,rfl,j,y,o⟩:=f.open;have HE:=gb (show m6 p l m=if nm p l≠0 then nm p l else if M≠N then 2 else if nD p m=false then 1 else 0 by rw[<-k.out,<-j.out];rfl);clear d n f o g ar;generalize m6 p l m=z at*;generalize nm p l=t at*;generalize nD p m=i at*;by_cases b:t=0
 ·subst b;by_cases c:M=N
  ·subst c;cases i with
   |false=>
    have HZ:=gd (z=1) Dw;exact OW
   |true=>
    have HZ:=gd (z=0) Dw;exact OW
  ·have A:((M:Int) !=N)=true:=(by simp;omega);have HZ:=gd (z=2) (by rw[HE.out];simp[c]);clear c;exact Sf
 ·have HZ:=gd (z=t) (by rw[HE.out];simp[b]);have B:(t !=0)=true:=(by grind);clear b;exact Sf
theorem adH{p:Int}(h:j8 p=true):2<=p/\p<=7:=by
 rcases kC h with rfl|rfl|rfl|rfl<;>omega
theorem Nc(l:gP)(i:Nat):l.getD i 0=l[i]?.getD 0:=gc
structure ZL(p:Int)(taps seed:gP):Prop where
 p2:2<=p
 p7:p<=7
 k1:1<=taps.length
 k8:taps.length<=8
 len:seed.length=taps.length
 ft:∀x∈taps,0<=x/\x<p
 fs:∀x∈seed,0<=x/\x<p
theorem wL{p:Int}{taps seed:gP}(h:m6 p taps seed=0):ZL p taps seed:=by
 by_cases d:j8 p=false
 ·exact Km
 have c:j8 p=true:=by grind
 by_cases f:taps.length=0\/8<taps.length
 ·have e:nm p taps=2:=by unfold nm;grind
  grind [m6]
 by_cases g:nD p taps=false
 ·exact Km
 have b:nD p taps=true:=by grind
 have e:nm p taps=0:=by unfold nm;grind
 unfold m6 at h;rw[e]at h;rw[gh On]at h;by_cases a:seed.length=taps.length
 ·rw[gh Oa]at h;by_cases i:nD p seed=false
  ·grind
  ·have:=adH c;exact⟨this.1,this.2,by omega,by omega,a,zj b,zj (by grind)⟩
 exact Oa
theorem adt(p:Int)(v u:Value)(taps seed:gP)(n:Nat)(w:World)(H:Sl w v taps)(G:Sl w u seed)(R:ZL p taps seed)(hn:n<=1000000):
 Calls prog 61 #[.int .i64 p,v,u,.int .i64 n] w λaf w'=>(∃Z,af= .returned Z/\OI w.heap.size w' Z (kE p taps seed n))/\gm w w':=by
 have h:=gb R;have ay:=R.p2;have U:=R.p7;have am:=R.k1;have an:=R.k8;have P:=R.len;have HV:=gb H;have HU:=gb G;obtain⟨ap,ae,ao,rfl,C,av,g⟩:=H.open;obtain⟨a',c',M,rfl,B,ax,S⟩:=G.open;rw[B.out,C.out]at P;subst P;rw[C.out]at am an;obtain⟨K,X,rfl,hb,N⟩:=g Oa;obtain⟨L,Y,rfl,ai,O⟩:=S Oa;have HC:=gb N;have aa:=gb O;clear N O g S H G R;go_enter func61,ntmps61;go_wp2;go_loopw [9,10,11,12] (λv I _ _ wr=>∃k:Nat,k<=n/\I= .int .i64 k/\OI w.heap.size wr v (kE p taps seed k)/\gm w wr) (λ_ I _ _ _=>n-(intOf I).toNat)
 case atStart=>exact⟨0,ge _,rfl,OI.nil _ _,f0 _ _⟩
 case round=>
  obtain⟨k,hk,rfl,b,c⟩:=hrel;by_cases aw:k<n
  ·have e:=c.size;have hl:(kE p taps seed k).length<=1000000000000:=SB;by_cases D:k<M
   ·have c2:wr.cell? ⟨L,Y+k,none⟩=some (.int .i64 (seed[k]?.getD 0)):=(c.cell (p:=⟨L,Y+k,none⟩) ai).trans (aa.out k D)
    have o:=gd (kE p taps seed (k+1)=kE p taps seed k++[seed[k]?.getD 0]) (by
     simp only[kE,nxt];rw[kJ,B.out,gl D,Nc])
    go_wp2_with (at_builtin;refine g8 wr _ _ 45 rfl rfl underlying45 info3 w.heap.size _ _ rfl b rfl hl e ?_;intro ag ae w1 F f aj ak);go_roundw
    case rel=>exact⟨k+1,by omega,by go_num,F.cast (by rw[o.out]),b.grown c f e⟩
    case measure=>simp[intOf];omega
   ·have o:=gd (kE p taps seed (k+1)=kE p taps seed k++[ym taps (kE p taps seed k) M%p]) (by
     simp only[kE,nxt];rw[kJ,B.out,gh D,C.out])
    have E:=wK (p:=p) (taps:=taps) (seed:=seed) Oa h.out.fs k;have J:=gb (LU (p:=p) (taps:=taps) (l:=kE p taps seed k) Oa U h.out.ft E);have HT:=gb (λj=>rM (p:=p) Oa h.out.ft j);have HW:=gb (λj=>rM (p:=p) Oa E j);have d:=gb (kJ p taps seed k);have ab:=gd (∀j,ym taps (kE p taps seed k) (j+1)=ym taps (kE p taps seed k) j+taps.getD j 0*(kE p taps seed k).getD (k-1-j) 0) (λj=>by simp only[ym];rw[d.out]);clear E;generalize hQ:kE p taps seed k=Q at*;clear hQ;obtain⟨ag,cq,rfl,au,f⟩:=b.form (by rw[d.out];omega);rw[d.out]at b⊢;go_wp2;go_loopw [11,12] (λs j wz=>∃a:Nat,a<=M/\j= .int .i64 a/\s= .int .i64 (ym taps Q a)/\∃m,wz=wr.drewN m) (λ_ j _=>M-(intOf j).toNat)
    case atStart=>exact⟨0,ge _,rfl,rfl,0,rfl⟩
    case round=>
     obtain⟨a,hj,rfl,rfl,m,rfl⟩:=hrel;by_cases al:a<M
     ·have c1:wr.cell? ⟨K,X+a,none⟩=some (.int .i64 (taps[a]?.getD 0)):=(c.cell (p:=⟨K,X+a,none⟩) hb).trans (HC.out a al);have c2:=b.cell (k-1-a) (by rw[d.out];omega);have r:=HT.out a;have t:=HW.out (k-1-a);have z:=J.out a;have A:=AV r t U;have i:=gb (ab.out a);rw[Nc]at r A i;obtain⟨q,V⟩:∃q:Nat,q=k-1-a:=⟨_,rfl⟩;rw[<-V]at c2 t A i;have W:(k:Int)-1-a=q:=Oa;generalize taps[a]?.getD 0=x at*;generalize Q.getD q 0=y at*;generalize ym taps Q a=s at*;obtain⟨ac,ad⟩:=z;obtain⟨aq,ar⟩:=A;have f1:IntKind.i64.wrap ((k:Int)-1)=(k:Int)-1:=iE _ Oa;have f2:IntKind.i64.wrap ((k:Int)-1-a)=(q:Int):=(by rw[W];exact iE _ Oa);have f3:IntKind.i64.wrap (x*y)=x*y:=iE _ Oa;have f4:IntKind.i64.wrap (s+x*y)=s+x*y:=iE _ Oa;have az:q<k:=Oa;clear W V r t;go_wp2;go_quiet (fail);go_wp2;go_roundw
      case rel=>exact⟨a+1,by omega,by go_num,by rw[i.out],by first|exact⟨_,rfl⟩|(simp only[pI];exact⟨_,rfl⟩)⟩
      case measure=>exact gQ
     ·obtain rfl:M=a:=(by omega);have z:=J.out M;obtain⟨ac,ad⟩:=z;generalize ym taps Q M=s at*;have T:=b.drewN m;have g:Q.length<=1000000000000:=Oa;have ah:w.heap.size<=(wr.drewN m).heap.size:=e;go_wp2_with (at_builtin;refine g8 (wr.drewN m) _ _ 45 rfl rfl underlying45 info3 w.heap.size _ _ rfl T rfl g ah ?_;intro g2 c2 w1 F f aj ak);go_roundw
      case rel=>exact⟨k+1,by omega,by go_num,by rw[o.out];exact F,T.grown (gM c m) f e⟩
      case measure=>exact gQ
  ·obtain rfl:k=n:=(by omega);exact PO
end Go.Proofs.YtnnaadmegeeinaaGreatDoor
