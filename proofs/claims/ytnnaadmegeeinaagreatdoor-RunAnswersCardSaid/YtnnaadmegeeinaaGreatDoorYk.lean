/-
  Part 11 of a proof: what it proves stands in the last text.
-/
import Derived.Test.YtnnaadmegeeinaaGreatDoorYj
import Derived.Shelf.Strings.Shaped
import Derived.Shelf.Strings.SplitShaped
import Derived.Shelf.Small.Wraps
import Derived.DeepKeys4
import Derived.Sort.Grow
import Derived.Deep.RegionWith
set_option linter.all false
set_option maxHeartbeats 8000000
set_option maxRecDepth 100000
namespace Go.Proofs.YtnnaadmegeeinaaGreatDoor
open Tryz Go.Proofs.Tryz
open Go.RowKit
def jQ:=@List.length_singleton
def ah6:=@Go.Sort.alloc_eq_grow
theorem OQ{p:Prop}(h:p:=by
 have cP:=gb (λZ=>HC.out ((x k:Nat):Int) ((y k:Nat):Int) Z);rw[show G7 ((x k:Nat):Int) ((y k:Nat):Int)=0 by grind [afe]]at cP;clear he;generalize x k=xk at*;generalize y k=yk at*;go_wp2_with fail;refine(cP.out _).mono ?_;rintro e Z ⟨rfl,rfl⟩;go_wp2;go_roundw
 case rel=>exact⟨k+1,ai,by omega,by go_num,db.out,rfl⟩
 case measure=>exact gQ):p:=h
theorem OS{p:Prop}(h:p:=by
 rw[hr]at dl;clear hr;go_wp2_with fail;refine dl.out.mono ?_;rintro e6 w6 ⟨⟨pa,pn,pc,rfl,hS⟩,aY⟩;have cz:=gR (hS ah rfl) (dJ.out.trans (aY.mono dJ.out.size));clear aY hS;go_wp2;go_ret2
 exact⟨⟨_,_,_,by rw[HN.out];rfl,λr' eK=>by rw[HN.out]at eK;cases eK;exact cz.out.1⟩,cz.out.2⟩):p:=h
theorem OV{p:Prop}(h:p:=by
 have cP:=gb (λZ=>HC.out ((x k:Nat):Int) ((y k:Nat):Int) Z);have hz:=HS.out k ap HE.out he;rw[aff he,<-hz]at cP;have bD:(al !=0)=true:=by grind
 clear he hz;generalize x k=xk at*;generalize y k=yk at*;go_wp2_with fail;refine(cP.out _).mono ?_;rintro e Z ⟨rfl,rfl⟩
 exact MG):p:=h
theorem MQ{p:Prop}(h:p:=by
 go_wp2;go_ret2
 exact⟨⟨_,_,_,by rw[HN.out];rfl,λr' eK=>by rw[HN.out]at eK;cases eK⟩,bN.out⟩):p:=h
theorem MV{p:Prop}(h:p:=by
 clear hv;go_enter func70,ntmps70;go_wp2;go_ret
 exact⟨by rw[HR.out];rfl,f0 _ _⟩):p:=h
theorem M6{p:Prop}(h:p:=by
 obtain⟨a',c',he',_,de⟩:=hv.out
 grind [mL]):p:=h
theorem Sq{p:Prop}(h:p:=by
 go_enter func73,ntmps73;go_wp2;go_ret
 exact⟨by rw[HR.out];rfl,aQ.out⟩):p:=h
theorem ST{p:Prop}(h:p:=by
 go_wp2;go_region;go_wp2;go_ret2
 exact⟨⟨_,_,_,by rw[HR.out];rfl,λah hr=>by rw[HS.out ah hr];exact HV.out⟩,(f0 _ _).drew⟩):p:=h
theorem S7{p:Prop}(h:p:=by
 have H2:=gb h2;clear h1 h2;go_wp2_with fail;go_meet
 case rel=>exact⟨by rw[H2.out],rfl⟩):p:=h
theorem Uc{p:Prop}(h:p:=by rw[hM.out];exact hj):p:=h
theorem U4{p:Prop}(h:p:=by
 have:(bs.map jj).getD H []=jj (bs.getD H []):=by
  grind
 rw[<-this]
 exact hs.below hw):p:=h
theorem Dh{p:Prop}(h:p:=by rw[jw];omega):p:=h
theorem Dm{p:Prop}(h:p:=by
 go_wp2;go_ret
 exact⟨by rw[cO.out];rfl,gM HB.out ai⟩):p:=h
theorem DB{p:Prop}(h:p:=by rw[cF.out,gz,cl.out];simp;omega):p:=h
theorem KQ{p:Prop}(h:p:=by
 go_enter func283,ntmps283;go_wp2_with fail;refine(HX.out _).mono ?_;rintro e Z ⟨rfl,rfl⟩;go_wp2_with fail;refine(HY.out _).mono ?_;rintro e Z ⟨rfl,rfl⟩
 exact Of):p:=h
theorem Pd{p:Prop}(h:p:=by
 have c1:=HX.out k ap;have c2:=HY.out k ap;by_cases he:x k=y k
 ·have db:=gd (∀j,j<k+1->x j=y j) (λj hj=>by
   by_cases e:j=k
   ·grind
   ·exact HE.out j Oa)
  exact OQ
 ·exact OV):p:=h
theorem P2{p:Prop}(h:p:=by
 rw[hE.out];go_enter func251,ntmps251
 exact Of):p:=h
theorem Qc{p:Prop}(h:p:=by
 by_cases e:k=j
 ·rw[e];exact h
 ·exact HH.out k Oa):p:=h
theorem Qq{p:Prop}(h:p:=by
 subst e1;clear HE hv aF J a8 bC;go_enter func200,ntmps200
 exact Sz):p:=h
theorem Qs{p:Prop}(h:p:=by
 have hz:=HN.out (λH hi=>HE.out H Oa);have HZ:=gb hz;clear hz
 exact UM):p:=h
section
open Go.Shelf
def af2:Ren:=⟨λx=>match x with|145=>7|220=>12|219=>23|217=>92|225=>93|224=>94|267=>95|266=>174|314=>175|n=>n,λx=>match x with|9=>9|4=>4|59=>29|3=>3|5=>5|46=>126|146=>161|51=>160|n=>n,λx=>match x with|1=>0|n=>n⟩
theorem ald:LaysM.n145 prog af2 where
 mixed:=Ob
 f145:=jF func7
 f217:=jF func92
 f219:=jF func23
 f220:=jF func12
 f224:=jF func94
 f225:=jF func93
 f266:=jF func174
 f267:=jF func95
 f314:=jF func175
 t3:=underlying3
 a3:=isAgg3
 z3:=sizeOf3
 v3:=zeroValue3
 t4:=underlying4
 a4:=isAgg4
 z4:=sizeOf4
 v4:=zeroValue4
 t5:=underlying5
 a5:=isAgg5
 z5:=sizeOf5
 v5:=zeroValue5
 t9:=underlying9
 a9:=isAgg9
 z9:=sizeOf9
 v9:=zeroValue9
 t46:=underlying126
 a46:=isAgg126
 z46:=sizeOf126
 v46:=zeroValue126
 t51:=underlying160
 a51:=isAgg160
 z51:=sizeOf160
 v51:=zeroValue160
 t59:=underlying29
 a59:=isAgg29
 z59:=sizeOf29
 v59:=zeroValue29
 t146:=underlying161
 a146:=isAgg161
 z146:=sizeOf161
 v146:=zeroValue161
 g1:=Ob
 i3:=Ob
 i4:=Ob
 i5:=Ob
 i9:=Ob
 i46:=Ob
 i51:=Ob
 i59:=Ob
 i146:=Ob
 m1:=Ob
 s1_3:=λw h=>Go.Proofs.cell_of_shapedOpen_int (zero:= #[.int .i64 0]) (t:=3) h (jy Ob) Ob rfl Ob Ob underlying3
def Xh:Ren:=⟨λx=>match x with|146=>15|221=>25|268=>96|138=>97|143=>98|195=>176|197=>177|218=>178|219=>23|260=>231|217=>92|225=>93|224=>94|267=>95|266=>174|314=>175|n=>n,λx=>match x with|9=>9|31=>37|3=>3|4=>4|0=>0|105=>163|21=>21|5=>5|46=>126|119=>241|139=>244|138=>243|146=>161|51=>160|n=>n,λx=>match x with|1=>0|3=>1|4=>2|n=>n⟩
theorem abO:LaysM.n146 prog Xh where
 mixed:=Ob
 f138:=jF func97
 f143:=jF func98
 f146:=jF func15
 f195:=jF func176
 f197:=jF func177
 f217:=jF func92
 f218:=jF func178
 f219:=jF func23
 f221:=jF func25
 f224:=jF func94
 f225:=jF func93
 f260:=jF func231
 f266:=jF func174
 f267:=jF func95
 f268:=jF func96
 f314:=jF func175
 t0:=underlying0
 a0:=isAgg0
 z0:=sizeOf0
 v0:=zeroValue0
 t3:=underlying3
 a3:=isAgg3
 z3:=sizeOf3
 v3:=zeroValue3
 t4:=underlying4
 a4:=isAgg4
 z4:=sizeOf4
 v4:=zeroValue4
 t5:=underlying5
 a5:=isAgg5
 z5:=sizeOf5
 v5:=zeroValue5
 t9:=underlying9
 a9:=isAgg9
 z9:=sizeOf9
 v9:=zeroValue9
 t21:=underlying21
 a21:=isAgg21
 z21:=sizeOf21
 v21:=zeroValue21
 t31:=underlying37
 a31:=isAgg37
 z31:=sizeOf37
 v31:=zeroValue37
 t46:=underlying126
 a46:=isAgg126
 z46:=sizeOf126
 v46:=zeroValue126
 t51:=underlying160
 a51:=isAgg160
 z51:=sizeOf160
 v51:=zeroValue160
 t105:=underlying163
 a105:=isAgg163
 z105:=sizeOf163
 v105:=zeroValue163
 t119:=underlying241
 a119:=isAgg241
 z119:=sizeOf241
 t138:=underlying243
 a138:=isAgg243
 z138:=sizeOf243
 v138:=zeroValue243
 t139:=underlying244
 a139:=isAgg244
 z139:=sizeOf244
 v139:=zeroValue244
 t146:=underlying161
 a146:=isAgg161
 z146:=sizeOf161
 v146:=zeroValue161
 g1:=Ob
 g3:=Ob
 g4:=Ob
 i0:=Ob
 i3:=Ob
 i4:=Ob
 i5:=Ob
 i9:=Ob
 i21:=Ob
 i31:=Ob
 i46:=Ob
 i51:=Ob
 i105:=Ob
 i138:=Ob
 i139:=Ob
 i146:=Ob
 m1:=Ob
 s1_3:=λw h=>Go.Proofs.cell_of_shapedOpen_int (zero:= #[.int .i64 0]) (t:=3) h (jy Ob) Ob rfl Ob Ob underlying3
 m3:=Ob
 m4:=Ob
theorem aaw(s a:ByteArray)(m:Int)(w:World)(c:s.size<4294967281)(b:w.cell? ⟨0,0,none⟩=some (.int .i64 m)):
 Calls prog 7 #[.string s,.string a] w λe d=>e= .returned (.tuple #[.string ⟨(Lib.cut s.data.toList a.data.toList).1.toArray⟩,.string ⟨(Lib.cut s.data.toList a.data.toList).2.1.toArray⟩,.bool (Lib.cut s.data.toList a.data.toList).2.2])/\∃n,d=w.drewN n:=
 Any.strings_Cut ald.ton145 s a m w c b
theorem RH(s a:ByteArray)(m:Int)(w:World)(d:s.size<4294967281)(c:w.cell? ⟨0,0,none⟩=some (.int .i64 m))(b:1<=a.size):
 Calls prog 15 #[.string s,.string a] w λe f=>
  e= .returned (.slice (some ⟨w.heap.size,0,none⟩) (Lib.countB s a+1) (Lib.countB s a+1))/\f=w.alloc (.cells ((Lib.splitB a 0 (Lib.countB s a) s).map Value.string).toArray 9):=
 Any.strings_Split abO.ton146 abO.i9 s a m w d c b
theorem Xw(w:World)(h:w.ShapedOpen prog):∃m,w.cell? ⟨0,0,none⟩=some (.int .i64 m):=ald.s1_3 w h
end
section
open Go.Shelf
def Nv:Ren:=⟨λx=>match x with|125=>282|128=>310|129=>296|n=>n,λx=>match x with|46=>126|3=>3|51=>160|53=>188|4=>4|5=>5|9=>9|n=>n,λn=>n⟩
theorem al8:Lays.n125 prog Nv where
 mixed:=Ob
 f125:=jF func282
 f128:=jF func310
 f129:=jF func296
 t3:=underlying3
 a3:=isAgg3
 z3:=sizeOf3
 v3:=zeroValue3
 t4:=underlying4
 a4:=isAgg4
 z4:=sizeOf4
 v4:=zeroValue4
 t5:=underlying5
 a5:=isAgg5
 z5:=sizeOf5
 v5:=zeroValue5
 t9:=underlying9
 a9:=isAgg9
 z9:=sizeOf9
 v9:=zeroValue9
 t46:=underlying126
 a46:=isAgg126
 z46:=sizeOf126
 v46:=zeroValue126
 t51:=underlying160
 a51:=isAgg160
 z51:=sizeOf160
 v51:=zeroValue160
 t53:=underlying188
 a53:=isAgg188
 z53:=sizeOf188
 v53:=zeroValue188
theorem ajK(B g N c n:Nat)(l:gP)(w:World)(b:OI B w (.slice (some ⟨g,0,none⟩) N c) l)(d:l.length=N)(k:1<=N)(j:N<=12)(p:n<=64):
 Calls prog 292 #[.slice (some ⟨g,0,none⟩) N c,.int .i64 0,.int .i64 N,.int .i64 n] w λe f=>e= .returned (.tuple #[])/\OI B f (.slice (some ⟨g,0,none⟩) N c) (mI rg 0 N l)/\w.grownBy f (some g):=by
 have h:=gb (W8 B g N c l w b d k j);clear b d;have o:(N:Int)<=12:=Oa;go_enter func292,ntmps292;go_wp2;go_loopw [1,2] (λx y wr=>x= .int .i64 0/\y= .int .i64 N/\wr=w) (λ_ _ _=>0)
 case atStart=>grind
 case round=>
  obtain⟨rfl,rfl,rfl⟩:=hrel;go_wp2_with fail;refine h.out.mono ?_;rintro e q ⟨rfl,a⟩;have i:=gb a;clear a;go_wp2
  first|go_end0|refine su (ahP rfl _ _ _) rfl ?_
  exact⟨rfl,i.out⟩
theorem ag1(B g N c:Nat)(l:gP)(w:World)(d:OI B w (.slice (some ⟨g,0,none⟩) N c) l)(f:l.length=N)(p:1<=N)(o:N<=12):
 Calls prog 268 #[.slice (some ⟨g,0,none⟩) N c] w λe h=>e= .returned (.tuple #[])/\OI B h (.slice (some ⟨g,0,none⟩) N c) (mI rg 0 N l)/\w.grownBy h (some g):=by
 have i:=gb (rE N w Oa);have j:=gb (λn (a:n<=64)=>ajK B g N c n l w d f p o a);clear d f;have q:(N:Int)%18446744073709551616=N:=Oa;go_enter func268,ntmps268;go_wp2_with fail;refine i.out.mono ?_;rintro e r ⟨⟨n,a,rfl⟩,rfl⟩;go_wp2_with fail;refine(j.out n a).mono ?_;rintro e s ⟨rfl,b⟩;have k:=gb b;clear b;go_wp2;go_end0;exact⟨rfl,k.out⟩
end
def Ze(e k m:Nat):gA:=if k=0 then(if m<=e then[e]else[])else List.range' m (e+1-k-m)
def rbM(e k m:Nat):Nat:=if k=0 then e else m
theorem ajT(e k x:Nat):rbC e (k+1) x=Ze e k (x+1):=by
 unfold rbC Ze
 grind
theorem adf{e k m:Nat}(h:m+k<=e):Ze e k m=rbM e k m::Ze e k (rbM e k m+1):=by
 unfold Ze rbM;by_cases a:k=0
 ·grind
 ·rw[gh a,gh a,gh a,show e+1-k-m=(e+1-k-(m+1))+1 by omega,qt]
theorem agH{e k m:Nat}(h:¬m+k<=e):Ze e k m=[]:=by
 unfold Ze
 grind
def rbS(e k:Nat)(l:gA)(C:gA):Option gA:=C.findSome? λm=>if BR (l++[m])then tF e k (l++[m])else none
theorem adg(e k:Nat)(l:gA):tF e (k+1) l=rbS e k l (Ze e k (l.getLastD 0+1)):=by
 rw[tF,ajT];rfl
theorem ajU{e k m:Nat}{l C:gA}(h:BR (l++[m])=false\/tF e k (l++[m])=none):rbS e k l (m::C)=rbS e k l C:=by
 grind [rbS]
theorem agI{e k m:Nat}{l C r:gA}(h:BR (l++[m])=true)(a:tF e k (l++[m])=some r):rbS e k l (m::C)=some r:=by
 unfold rbS
 grind
theorem FH{e:Nat}:∀(k:Nat)(l r:gA),tF e k l=some r->r.length=l.length+k
 |0,l,r,h=>by
  grind [tF]
 |k+1,l,r,h=>by
  rw[tF,lI]at h;obtain⟨_,m,_,_,a,_⟩:=h;split at a
  ·have:=FH k _ r a
   grind
  ·cases a
theorem p6{l:gA}(h:0<l.length):l.getLastD 0=l.getD (l.length-1) 0:=by
 grind
structure Mks(e:Nat)(l:gA):Prop where
 len:0<l.length
 asc:∀i j,i<j->j<l.length->l.getD i 0<l.getD j 0
 bd:∀i,i<l.length->l.getD i 0<=e
theorem Mks.snoc{e:Nat}{l:gA}{m:Nat}(h:Mks e l)(c:l.getLastD 0<m)(g:m<=e):Mks e (l++[m]):=by
 have a:∀i,i<l.length->(l++[m]).getD i 0=l.getD i 0:=λi b=>by
  grind
 have k:(l++[m]).getD l.length 0=m:=by
  grind
 have n:∀i,i<l.length->l.getD i 0<m:=λi b=>by
  rw[p6 h.len]at c;by_cases e:i=l.length-1
  ·grind
  ·have:=h.asc i (l.length-1) Oa Oa;exact Oa
 refine⟨by simp,λi j d f=> ?_,λi b=> ?_⟩
 ·rw[gz,jQ]at f;by_cases e:j=l.length
  ·grind
  ·rw[a i Oa,a j Oa];exact h.asc i j d Oa
 grind
theorem Ws{B g n c e:Nat}{l:gA}{w:World}(h:OI B w (.slice (some ⟨g,0,none⟩) n c) (jj l))(j:l.length=n)(a:Mks e l)(d:e<=1000)(k:n<=100):
 Calls prog 262 #[.slice (some ⟨g,0,none⟩) n c] w λe p=>e= .returned (.bool (BR l))/\gm w p:=by
 refine Wr g 0 c n l w (h.lt g rfl).2 (by have:=a.len;omega) k h.cap j (λi f=> ?_) (λi o b q=>a.asc i o b Oa) (λi f=>gt (a.bd i Oa) d);rw[iL,h.cell i Dh,mL]
def Cr(e k:Nat)(l:gA)(W:Nat)(d:Ending)(w':World):Prop:=∃(a:Option Addr)(c b:Nat),d= .returned (.tuple #[.slice a c b,.bool (tF e k l).isSome])/\∀r,tF e k l=some r->Sl w' (.slice a c b) (jj r)
theorem GN(e n:Nat)(hn:n<=7)(he:e<=100):∀(k:Nat)(l:gA)(b c:Nat)(f:Nat)(w:World),l.length+k=n->Mks e l->Sl w (.slice (some ⟨b,f,none⟩) l.length c) (jj l)->
 Calls prog 210 #[.slice (some ⟨b,f,none⟩) l.length c,.int .i64 n,.int .i64 e] w λO z=>Cr e k l w.heap.size O z/\gm w z
 |0,l,b,c,f,w,S,d,hv=>by
  have HV:=gb hv;have y:=d.len;obtain⟨i,p,⟨v,x⟩⟩:∃i p,(some (⟨b,f,none⟩:Addr)=some ⟨i,p,none⟩/\∀o,o<l.length->w.cell? ⟨i,p+o,none⟩=some (.int .i64 ((l.getD o 0:Nat):Int))):=M6;simp only[gH,lz,qW]at v;obtain⟨rfl,rfl⟩:=v;have s:=x (l.length-1) Oa;rw[<-p6 y]at s
  have HR:=gd ((tF e 0 l).isSome=(((l.getLastD 0:Nat):Int)==e)) (by
   rw[tF]
   grind)
  have HS:=gd (∀ah,tF e 0 l=some ah->ah=l) (λah hr=>by
   grind [tF])
  have ac:l.length=n:=Oa;rw[ac]at s y HV⊢;have aN:(n:Int)-1=((n-1:Nat):Int):=Oa;have aL:n-1<n:=Oa;have aJ:w.drew.cell? ⟨b,f+(n-1),none⟩=_:=s;have aM:(n:Int)-n=0:=Oa;have aD:IntKind.i64.wrap ((n-1:Nat):Int)=((n-1:Nat):Int):=iE _ Oa;clear x hv d S ac;unfold Cr;generalize tF e 0 l=g at*;generalize l.getLastD 0=W at*;generalize n-1=n1 at*;go_enter func210,ntmps210;exact ST
 |k+1,l,b,c,f,w,S,d,hv=>by
  have IH:=gb (λ(m t c2:Nat)(a:World)(h1:l.getLastD 0<m)(h2:m<=e)(h3:Sl a (.slice (some ⟨t,0,none⟩) (l.length+1) c2) (jj (l++[m])))=>(show Calls prog 210 #[.slice (some ⟨t,0,none⟩) (l.length+1) c2,.int .i64 n,.int .i64 e] a λO z=>Cr e k (l++[m]) a.heap.size O z/\gm a z from by
   have e1:(l++[m]).length=l.length+1:=On;have h:=GN e n hn he k (l++[m]) t c2 0 a Oa (d.snoc h1 h2) (by grind);rw[e1]at h
   exact h))
  have aj:=gb (λ(m t c2:Nat)(ai:Nat)(a:World)(h1:l.getLastD 0<m)(h2:m<=e)(h3:OI ai a (.slice (some ⟨t,0,none⟩) (l.length+1) c2) (jj (l++[m])))=>Ws h3 On (d.snoc h1 h2) (show e<=1000 by omega) Oa);have y:=d.len;have am:=gb (λ(a:World)(h1:gm w a)=>uT b f l.length c (jj l) a (hv.below h1) Dh);obtain⟨i,p,⟨v,x⟩⟩:∃i p,(some (⟨b,f,none⟩:Addr)=some ⟨i,p,none⟩/\∀o,o<l.length->w.cell? ⟨i,p+o,none⟩=some (.int .i64 ((l.getD o 0:Nat):Int))):=M6;simp only[gH,lz,qW]at v;obtain⟨rfl,rfl⟩:=v;have s:=x (l.length-1) Oa;rw[<-p6 y]at s;have aO:l.getLastD 0<=e:=(by rw[p6 y];exact d.bd _ Oa);have HF:=gb (adg e k l);have ar:=gb (λm (h:m+k<=e)=>adf (e:=e) (k:=k) (m:=m) h);have an:=gb (λm (h:¬m+k<=e)=>agH (e:=e) (k:=k) (m:=m) h);have Z:=gb (λm C=>ajU (e:=e) (k:=k) (m:=m) (l:=l) (C:=C));have au:=gb (λm C ah=>agI (e:=e) (k:=k) (m:=m) (l:=l) (C:=C) (r:=ah));have aq:=gd (rbS e k l []=none) rfl;have cF:=gb (tA l);have cl:=gb (jw l);have ap:=gd (∀m,rbM e k m=if k=0 then e else m) (λm=>rfl);obtain⟨q,ab⟩:∃q,l.length-1=q:=⟨_,rfl⟩;rw[ab]at s;have aI:(l.length:Int)-1=q:=Oa;have aG:q<l.length:=Oa;have aD:IntKind.i64.wrap (q:Int)=(q:Int):=iE _ Oa;have aB:(n:Int)-l.length=((k+1:Nat):Int):=Oa;have aH:l.length<=7:=Oa;have az:k+1<=7:=Oa;have H:=gd (∀m:Nat,m+k<=e↔(m:Int)<=e-((k+1:Nat):Int)+1) (λm=>by omega);have I:=gd (k=0↔k+1=1) Oa
  have ao:=gd (∀m,m+k<=e->m<=rbM e k m/\rbM e k m<=e) (λm h=>by
   grind [rbM])
  have ak:=gb (f0 w.heap.size w);unfold Cr;clear x hv d S ab;generalize l.getLastD 0=W at*;generalize l.length=aE at*;obtain⟨L,hL⟩:∃L,k+1=L:=⟨_,rfl⟩;rw[hL]at aB az H I;have aF:((L:Int)==0)=false:=(by grind);clear hL;generalize tF e (k+1) l=g at*;go_enter func210,ntmps210;go_wp2;go_loopw [9] (λU wr=>∃m:Nat,U= .int .i64 m/\W<m/\m<=e+1/\Hid (rbS e k l (Ze e k m)=g)/\gm w wr) (λU _=>e+1-(intOf U).toNat)
  case atStart=>exact⟨W+1,by go_num,by omega,by omega,gb HF.out.symm,ak.out⟩
  case round=>
   obtain⟨m,rfl,aP,aK,B,D⟩:=hrel;by_cases j:m+k<=e
   ·have ay:=(H.out m).1 j;obtain⟨q1,V⟩:=ao.out m j;have A:=gd (rbS e k l (rbM e k m::Ze e k (rbM e k m+1))=g) (by rw[<-ar.out m j];exact B.out);have J:=gb (ap.out m);have bN:=gb D;clear D B j;obtain⟨M,aa⟩:∃M,rbM e k m=M:=⟨_,rfl⟩;rw[aa]at q1 V A J;clear aa;go_upto_if 43 with fail;go_cut [9]from 34 to 60 (λv9 wc=>v9= .int .i64 (M:Nat)/\wc=wr)
    case first=>
     by_cases h1:L=1
     ·have av:((L:Int)==1)=true:=kz.2 Oa;have h2:=J.out;rw[gl (I.out.2 h1)]at h2;exact S7
     ·have av:((L:Int)==1)=false:=gL.2 Oa;have h2:=J.out;rw[gh (λh=>h1 (I.out.1 h))]at h2;exact S7
    case rest=>
     obtain⟨rfl,aC⟩:=hcut;subst aC;have Y:=gb (am.out wc bN.out);go_wp2_with fail;refine Y.out.mono ?_;rintro e2 w2 ⟨⟨u,rfl,T⟩,Q⟩;have al:=gb Q;have aA:(jj l).length<=1000000000000:=(by rw[cl.out];omega);have af:=Q.size;clear Q Y;go_wp2_with (at_builtin;refine g8 w2 _ _ 45 rfl rfl underlying45 info3 wc.heap.size _ _ rfl T rfl aA af ?_;intro g7 c7 w4 ae ad aw ax);have R:=T.grown al.out ad af;have E:=ae.cast (cF.out M).symm;rw[cl.out]at E⊢;have G:=gb (aj.out M g7 c7 wc.heap.size w4 Oa V E);have K:=gR E R;have ag:=R.size;clear ae ad aw ax T R E;obtain⟨N,P⟩:∃N,BR (l++[M])=N:=⟨_,rfl⟩;rw[P]at G;have X:=gb P;clear P;cases N with
     |false=>
      have HN:=gd (rbS e k l (Ze e k (M+1))=g) (by rw[<-A.out];exact(Z.out M _ (.inl X.out)).symm);go_wp2_with fail;refine G.out.mono ?_;rintro e5 w5 ⟨rfl,r⟩;have dJ:=gb (bN.out.trans ((K.out.2.trans (r.mono ag)).mono bN.out.size));clear r;go_wp2;go_roundw
      case rel=>exact⟨M+1,by go_num,by omega,by omega,gb HN.out,dJ.out⟩
      case measure=>exact gQ
     |true=>
      go_wp2_with fail;refine G.out.mono ?_;rintro e5 w5 ⟨rfl,r⟩;have dl:=gb (IH.out M g7 c7 w5 Oa V ((K.out.1.below r).sl DB));have dJ:=gb (bN.out.trans ((K.out.2.trans (r.mono ag)).mono bN.out.size));clear r;unfold Cr at dl;cases hr:tF e k (l++[M])with
      |none=>
       have HN:=gd (rbS e k l (Ze e k (M+1))=g) (by rw[<-A.out];exact(Z.out M _ (.inr hr)).symm);rw[hr]at dl;clear hr;go_wp2_with fail;refine dl.out.mono ?_;rintro e6 w6 ⟨⟨pa,pn,pc,rfl,hS⟩,aY⟩;have cz:=gb (dJ.out.trans (aY.mono dJ.out.size));clear aY hS;go_wp2;go_roundw
       case rel=>exact⟨M+1,by go_num,by omega,by omega,gb HN.out,cz.out⟩
       case measure=>exact gQ
      |some ah=>
       have HN:=gd (g=some ah) (by rw[<-A.out];exact au.out M _ ah X.out hr);exact OS
   ·have ay:¬(m:Int)<=e-L+1:=λh=>j ((H.out m).2 h);have HN:=gd (g=none) (by rw[<-B.out,an.out m j];exact aq.out);have bN:=gb D;clear D B j;exact MQ
def xW(n:Nat):Nat->Nat->gA
 |0,_=>[]
 |f+1,e=>match tF e (n-1) [0]with
  |some r=>r
  |none=>xW n f (e+1)
def qO(n:Nat):gP:=if 1<=n/\n<=7 then jj (xW n 100 (n-1))else[]
theorem agR(n:Nat)(h:1<=n):n-1<=Cj n\/7<n:=by
 grind [Cj]
theorem VE(n:Nat):Cj n<=25:=by
 grind [Cj]
theorem ajD(e:Nat):Mks e [0]:=⟨by simp,λi j a b=>by grind,λi c=>by grind⟩
theorem Zk(n:Nat)(w:World)(h:¬(1<=n/\n<=7)):
 Calls prog 124 #[.int .i64 n] w λa c=>a= .returned (.tuple #[.slice none 0 0,.int .i64 1])/\w=c:=by
 by_cases d:n<1
 ·have b:(n:Int)<1:=(by omega);clear h;go_enter func124,ntmps124;exact KN
 ·have b:¬(n:Int)<1:=(by omega);have e:(7:Int)<n:=Oa;clear h;go_enter func124,ntmps124;exact KN
theorem aeB(n:Nat)(w:World)(P:1<=n)(v:n<=7):
 Calls prog 124 #[.int .i64 n] w λL z=>(∃(k:Option Addr)(o l:Nat),L= .returned (.tuple #[.slice k o l,.int .i64 0])/\Sl z (.slice k o l) (qO n)/\(qO n).length=n)/\gm w z:=by
 have t:=gb (λ(e:Nat)(N J:Nat)(p:World)(y:e<=100) Q=>GN e n v y (n-1) [0] N J 0 p Oo (ajD e) Q);have D:=gb (λp:World=>(OI.lit1 p.heap.size p 0 (fZ _)).sl On);have I:=gd (qO n=jj (xW n 100 (n-1))) (gl ⟨P,v⟩)
 have A:=gd (tF (Cj n) (n-1) [0]≠none) (λV=>by
  grind [Ed])
 have C:=gb (λe r (O:tF e (n-1) [0]=some r)=>(FH (n-1) [0] r O).trans (show 1+(n-1)=n by omega));have B:=gd (∀f e,xW n (f+1) e=match tF e (n-1) [0]with|some r=>r|none=>xW n f (e+1)) (λf e=>rfl);have R:n-1<=Cj n:=by grind [agR]
 have Z:=VE n;have W:¬(n:Int)<1:=Oa;have Y:¬(7:Int)<n:=Oa;have ab:(n:Int)-1=((n-1:Nat):Int):=Oa;have H:=gb jw;unfold Cr at t;generalize qO n=X at*;generalize xW n=G at*;generalize Cj n=E at*;generalize n-1=s at*;go_enter func124,ntmps124;go_wp2;go_loopw [4] (λev wr=>∃e f:Nat,ev= .int .i64 e/\e<=E/\f+e=100+s/\Hid (X=jj (G f e))/\gm w wr) (λev _=>E-(intOf ev).toNat)
 case atStart=>exact⟨s,100,rfl,R,rfl,gb I.out,f0 _ _⟩
 case round=>
  obtain⟨e,f,rfl,T,U,x,q⟩:=hrel;obtain⟨f,rfl⟩:∃M,f=M+1:=⟨f-1,by omega⟩;have a:=x.out;rw[B.out]at a;have d:=gb (q.alloc q.size (.cells #[.int .i64 0] 3));have g:=gb (t.out e wr.heap.size 1 (wr.alloc (.cells #[.int .i64 0] 3)) Oa (D.out wr));clear q x;cases c:tF e s [0]with
  |some r=>
   rw[c]at a g;have i:=gb a;have F:=gb (C.out e r c);clear c a;go_wp2_with fail;refine g.out.mono ?_;rintro K S ⟨⟨k,o,l,rfl,j⟩,b⟩;have h:=gR (j r rfl) (d.out.trans (b.mono d.out.size));clear b j;go_wp2;go_ret2;exact⟨⟨_,_,_,rfl,by rw[i.out];exact h.out.1,by rw[i.out,H.out];exact F.out⟩,h.out.2⟩
  |none=>
   have aa:e≠E:=λy=>A.out (by grind);rw[c]at a g;have i:=gb a;clear c a;go_wp2_with fail;refine g.out.mono ?_;rintro K S ⟨⟨k,o,l,rfl,j⟩,b⟩;have h:=gb (d.out.trans (b.mono d.out.size));clear b j;go_wp2;go_roundw
   case rel=>exact⟨e+1,f,by go_num,by omega,by omega,gb i.out,h.out⟩
   case measure=>exact gQ
def abJ(D:gP)(S:gA):Prop:=∀y:Nat,(y:Int)∈D↔y∈S
theorem abJ.snoc{D:gP}{S:gA}{d:Nat}(h:abJ D S)(a:¬d∈S):abJ (D++[(d:Int)]) (ins d S):=λy=>by
 unfold ins;rw[gh a,li,jM,h y,m9]
 grind
theorem Nf(b q c N:Nat)(l:gA)(w:World)(V:b<w.heap.size)(aD:1<=N)(hN:N<=100)(aE:N<=c)(hl:l.length=N)(X:∀i,i<N->w.cell? ⟨b,q+i,none⟩=some (.int .i64 ((l.getD i 0:Nat):Int)))(U:∀i j,i<j->j<N->l.getD i 0<l.getD j 0)(W:∀i,i<N->l.getD i 0<=1000):
 Calls prog 229 #[.slice (some ⟨b,q,none⟩) N c] w λH w'=>H= .returned (.bool (BR l))/\gm w w':=by
 have O:=gb X;have ae:=gb U;have ag:=gb W;have HZ:=gd (Wp (l.take 0) (l.drop 0) []=BR l) rfl;have ah:=gb (λi (h:i<N)=>vX (l:=l) (i:=i) Oa);have aq:=gb (λi (h:i<N)=>Jq (l:=l) (i:=i) Oa)
 have am:=gb (λi j (h:j<i) (h2:i<=N)=>(show(l.take i).drop j=l.getD j 0::(l.take i).drop (j+1)from by
  rw[vX (l:=l.take i) (i:=j) (by grind)]
  grind))
 have ao:=gb (λi (h2:i<=N)=>(show(l.take i).drop i=[]from by grind));have aj:=gd (∀S,Wp (l.take N) (l.drop N) S=true) (λS=>by rw[<-hl,qr];rfl);have ak:=gb (λ(ad:Value)(D:gP)(x:Int)(B:World)(h:Sl B ad D)=>Iq ad D x B h);generalize BR l=R at*;clear X U W hl;go_enter func229,ntmps229;go_wp2;go_loopw [3,4] (λG L wr=>∃(i:Nat)(D:gP)(S:gA),i<=N/\L= .int .i64 i/\D.length<=100*i/\OI w.heap.size wr G D/\abJ D S/\Hid (Wp (l.take i) (l.drop i) S=R)/\gm w wr) (λ_ L _=>N-(intOf L).toNat)
 case atStart=>exact⟨0,[],[],ge _,rfl,ge _,OI.nil _ _,λC=>by simp,gb HZ.out,f0 _ _⟩
 case round=>
  obtain⟨i,D,S,Y,rfl,hn,g,o,n,e⟩:=hrel;by_cases s:i<N
  ·have az:(i:Int)<N:=(by omega);have hx:=ag.out i s
   have F:=gd (Wq (l.take i) (l.drop (i+1)) (l.getD i 0) ((l.take i).drop 0) S=R) (by
    have:=n.out
    rwa [ah.out i s,GF]at this)
   have d:=gR (And.intro g o) e;have P:=gb (λ(B:World)(av:gm w B)=>(av.cell (p:=⟨b,q+i,none⟩) V).trans (O.out i s));clear g e n o;obtain⟨x,A⟩:∃x,l.getD i 0=x:=⟨_,rfl⟩;rw[A]at hx F P;have af:=gb (λj (h:j<i)=>(show l.getD j 0<x from by rw[<-A];exact ae.out j i h s));have ar:=gb (show l.take i++[x]=l.take (i+1)from by rw[<-A];exact aq.out i s);have an:=gb (λj (h:j<i)=>am.out i j h Y);have ap:=gb (ao.out i Y);clear A;generalize l.take i=y at*;obtain⟨t,I⟩:∃t,l.drop (i+1)=t:=⟨_,rfl⟩;rw[I]at F;have ai:=gb I;clear I;obtain⟨T,au⟩:∃T,T=wr:=⟨_,rfl⟩;subst au;go_wp2;go_loopw [3,5] (λG M wr=>∃(j:Nat)(a:gP)(k:gA),j<=i/\M= .int .i64 j/\a.length<=100*i+j/\OI w.heap.size wr G a/\abJ a k/\Hid (Wq y t x (y.drop j) k=R)/\gm w wr) (λ_ M _=>i-(intOf M).toNat)
   case atStart=>exact⟨0,D,S,ge _,rfl,by omega,d.out.1.1,d.out.1.2,gb F.out,d.out.2⟩
   case round=>
    clear d;obtain⟨j,a,k,hj,rfl,aJ,g,o,n,e⟩:=hrel;have ab:=e.size;by_cases Z:j<i
    ·have aA:(j:Int)<i:=(by omega);have c1:=P.out wr e;have c2:=(e.cell (p:=⟨b,q+j,none⟩) V).trans (O.out j Oa);have d1:wr.drew.cell? ⟨b,q+i,none⟩=_:=c1;have d2:wr.drew.cell? ⟨b,q+j,none⟩=_:=c2;have aI:=af.out j Z;have J:=n.out;rw[an.out j Z]at J;generalize l.getD j 0=C at*;have aB:(x:Int)-C=((x-C:Nat):Int):=Oa;obtain⟨f,K⟩:∃f,x-C=f:=⟨_,rfl⟩;rw[K]at aB;have HD:=gb K;have Q:=gb J;have aF:a.length<=20000:=Oa;have ax:a.length<=1000000000000:=Oa;have v:=gb (λac=>ak.out _ a f (wr.drewN ac) ((g.sl Oa).drewN ac));have d:=gR o e;have aK:100*i+j<=20000:=Oa;clear n J K o e;obtain⟨da,dc,rfl⟩:=g.len;by_cases z:f∈k
     ·obtain rfl:false=R:=(by rw[<-Q.out,ZW (by grind)]);have r:decide ((f:Int)∈a)=true:=gy ((d.out.1 f).2 z);rw[r]at v;clear r g;go_wp2;go_region;go_wp2_with fail;refine(v.out 1).mono ?_;rintro H w2 ⟨rfl,rfl⟩;go_wp2;go_ret;exact⟨rfl,gM d.out.2 1⟩
     ·have E:=gd (Wq y t x (y.drop (j+1)) (ins f k)=R) (by
       rw[<-Q.out,Te (by grind),HD.out])
      have r:decide ((f:Int)∈a)=false:=gp λh=>z ((d.out.1 f).1 h);rw[r]at v;have al:=gb (d.out.1.snoc z);have aa:=g.drew;clear r z;go_wp2;go_region;go_wp2_with fail;refine(v.out 1).mono ?_;rintro H w2 ⟨rfl,rfl⟩;go_wp2_with (at_builtin;refine g8 (wr.drewN 1) _ _ 45 rfl rfl underlying45 info3 w.heap.size _ _ rfl aa rfl ax ab ?_;intro g7 c7 w4 aC ay aG aH);have aw:=aa.grown (gM d.out.2 1) ay ab;go_roundw
      case rel=>exact⟨j+1,_,_,by omega,by go_num,by simp;omega,aC,al.out,E,aw⟩
      case measure=>exact gQ
    ·obtain rfl:j=i:=(by omega);have aA:¬(j:Int)<j:=Oa
     have E:=gd (Wp (l.take (j+1)) (l.drop (j+1)) k=R) (by
      have:=n.out
      rwa [ap.out,Td,ar.out,<-ai.out]at this)
     go_wp2;go_roundw
     case rel=>exact⟨j+1,a,k,by omega,by go_num,by omega,g,o,E,e⟩
     case measure=>exact gQ
  ·obtain rfl:i=N:=(by omega);have az:¬(i:Int)<i:=Oa;obtain rfl:true=R:=(by rw[<-n.out,aj.out]);go_wp2;go_ret;exact⟨rfl,e⟩
theorem Ng{B g n c e:Nat}{l:gA}{w:World}(h:OI B w (.slice (some ⟨g,0,none⟩) n c) (jj l))(j:l.length=n)(a:Mks e l)(d:e<=1000)(k:n<=100):
 Calls prog 229 #[.slice (some ⟨g,0,none⟩) n c] w λe p=>e= .returned (.bool (BR l))/\gm w p:=by
 refine Nf g 0 c n l w (h.lt g rfl).2 (by have:=a.len;omega) k h.cap j (λi f=> ?_) (λi o b q=>a.asc i o b Oa) (λi f=>gt (a.bd i Oa) d);rw[iL,h.cell i Dh,mL]
def Wc(e k:Nat)(l:gA)(d:Ending)(w':World):Prop:=∃(a:Option Addr)(c b:Nat),d= .returned (.tuple #[.slice a c b,.bool (yr e k l).isSome])/\∀r,yr e k l=some r->Sl w' (.slice a c b) (jj r)
def mkS(e k:Nat)(l:gA)(C:gA):Option gA:=C.findSome? λm=>if BR (l++[m])then yr e k (l++[m])else none
theorem ajC{e k m:Nat}{l C:gA}(h:BR (l++[m])=false\/yr e k (l++[m])=none):mkS e k l (m::C)=mkS e k l C:=by
 grind [mkS]
theorem age{e k m:Nat}{l C r:gA}(h:BR (l++[m])=true)(a:yr e k (l++[m])=some r):mkS e k l (m::C)=some r:=by
 unfold mkS
 grind
theorem AJ(e n:Nat)(hn:n<=7)(he:e<=100):∀(k:Nat)(l:gA)(b c:Nat)(g:Nat)(w:World),l.length+k=n->Mks e l->Sl w (.slice (some ⟨b,g,none⟩) l.length c) (jj l)->
 Calls prog 167 #[.slice (some ⟨b,g,none⟩) l.length c,.int .i64 n,.int .i64 e] w λH x=>Wc e k l H x/\gm w x
 |0,l,b,c,g,w,N,a,hv=>by
  have HV:=gb hv;have v:=a.len;obtain⟨f,h,⟨s,t⟩⟩:∃f h,(some (⟨b,g,none⟩:Addr)=some ⟨f,h,none⟩/\∀i,i<l.length->w.cell? ⟨f,h+i,none⟩=some (.int .i64 ((l.getD i 0:Nat):Int))):=M6;simp only[gH,lz,qW]at s;obtain⟨rfl,rfl⟩:=s;have p:=t (l.length-1) Oa;rw[<-p6 v]at p
  have HR:=gd ((yr e 0 l).isSome=(((l.getLastD 0:Nat):Int)==e)) (by
   rw[yr]
   grind)
  have HS:=gd (∀ah,yr e 0 l=some ah->ah=l) (λah hr=>by
   grind [yr])
  have W:l.length=n:=Oa;rw[W]at p v HV⊢;have aD:(n:Int)-1=((n-1:Nat):Int):=Oa;have aB:n-1<n:=Oa;have az:w.drew.cell? ⟨b,g+(n-1),none⟩=_:=p;have au:IntKind.i64.wrap ((n-1:Nat):Int)=((n-1:Nat):Int):=iE _ Oa;clear t hv a N W;unfold Wc;generalize yr e 0 l=d at*;generalize l.getLastD 0=Q at*;generalize n-1=n1 at*;go_enter func167,ntmps167;exact ST
 |k+1,l,b,c,g,w,N,a,hv=>by
  have IH:=gb (λ(m r c2:Nat)(q:World)(J:l.getLastD 0<m)(K:m<=e)(U:Sl q (.slice (some ⟨r,0,none⟩) (l.length+1) c2) (jj (l++[m])))=>(show Calls prog 167 #[.slice (some ⟨r,0,none⟩) (l.length+1) c2,.int .i64 n,.int .i64 e] q λH x=>Wc e k (l++[m]) H x/\gm q x from by
   have e1:(l++[m]).length=l.length+1:=On;have I:=AJ e n hn he k (l++[m]) r c2 0 q Oa (a.snoc J K) (by grind);rw[e1]at I
   exact I))
  have ae:=gb (λ(m r c2:Nat)(ad:Nat)(q:World)(J:l.getLastD 0<m)(K:m<=e)(U:OI ad q (.slice (some ⟨r,0,none⟩) (l.length+1) c2) (jj (l++[m])))=>Ng U On (a.snoc J K) (show e<=1000 by omega) Oa);have v:=a.len;have ai:=gb hv;obtain⟨f,h,⟨s,t⟩⟩:∃f h,(some (⟨b,g,none⟩:Addr)=some ⟨f,h,none⟩/\∀i,i<l.length->w.cell? ⟨f,h+i,none⟩=some (.int .i64 ((l.getD i 0:Nat):Int))):=M6;simp only[gH,lz,qW]at s;obtain⟨rfl,rfl⟩:=s;have p:=t (l.length-1) Oa;rw[<-p6 v]at p;have aE:l.getLastD 0<=e:=(by rw[p6 v];exact a.bd _ Oa);have HF:=gd (yr e (k+1) l=mkS e k l (List.range' (l.getLastD 0+1) (e+1-(l.getLastD 0+1)))) (by rw[show e+1-(l.getLastD 0+1)=e-l.getLastD 0 by omega];rfl);have aj:=gd (∀m,m<=e->List.range' m (e+1-m)=m::List.range' (m+1) (e+1-(m+1))) (λm I=>by rw[show e+1-m=(e+1-(m+1))+1 by omega,qt]);have af:=gd (mkS e k l (List.range' (e+1) (e+1-(e+1)))=none) (by rw[jU];rfl);have S:=gb (λm C=>ajC (e:=e) (k:=k) (m:=m) (l:=l) (C:=C));have ak:=gb (λm C ah=>age (e:=e) (k:=k) (m:=m) (l:=l) (C:=C) (r:=ah));have cF:=gb (tA l);have cl:=gb (jw l);obtain⟨j,V⟩:∃j,l.length-1=j:=⟨_,rfl⟩;rw[V]at p;have ay:(l.length:Int)-1=j:=Oa;have aw:j<l.length:=Oa;have au:IntKind.i64.wrap (j:Int)=(j:Int):=iE _ Oa;have ax:l.length<=7:=Oa;have ar:¬(l.length:Int)=n:=Oa;have aC:((l.length:Int)==n)=false:=gL.2 ar;unfold Wc;clear t hv a N V;generalize l.getLastD 0=Q at*;generalize l.length=av at*;generalize yr e (k+1) l=d at*;go_enter func167,ntmps167;go_wp2;go_loopw [8] (λP wr=>∃m:Nat,P= .int .i64 m/\Q<m/\m<=e+1/\Hid (mkS e k l (List.range' m (e+1-m))=d)/\gm w wr) (λP _=>e+1-(intOf P).toNat)
  case atStart=>exact⟨Q+1,by go_num,by omega,by omega,gb HF.out.symm,f0 _ _⟩
  case round=>
   obtain⟨m,rfl,aF,aA,y,z⟩:=hrel;by_cases A:m<=e
   ·have ao:(m:Int)<=e:=(by omega);have E:=gd (mkS e k l (m::List.range' (m+1) (e+1-(m+1)))=d) (by rw[<-aj.out m A];exact y.out);have bN:=gb z;have ag:=gb (ai.out.below z);clear y;have ap:(jj l).length<=1000000000000:=(by rw[cl.out];omega);have aq:(([]:gP).map (Value.int .i64)).length+((jj l).map (Value.int .i64)).length<=1000000000000:=by grind
    go_wp2_with (at_builtin;first
     |(refine nP (w:=wr.alloc (.cells #[] 3)) _ _ 45 3 (.int .i64 0) 8 rfl rfl underlying45 info3 rfl Oc wr.heap.size _ _ _ _ rfl (OI.lit0 wr.heap.size wr (fZ _)) rfl (ag.out.below ((f0 _ _).alloc (fZ _) _)) (wj _) aq On ?_;intro v6 w6 Z Y an;have aY:gm wr w6:=((f0 wr.heap.size wr).alloc (fZ _) _).grown Y On (λk e=>by have:wr.heap.size=k:=gG e;omega);have O:OI wr.heap.size w6 v6 (jj l):=OI.ofApp (l:=[]) Z;have ac:=aY.size)
     |(refine g8 w6 _ _ 45 rfl rfl underlying45 info3 wr.heap.size _ _ rfl O rfl ap ac ?_;intro T c7 w4 aa X al am))
    have M:=O.grown aY X ac;have B:=aa.cast (cF.out m).symm;rw[cl.out]at B⊢;have D:=gb (ae.out m T c7 wr.heap.size w4 Oa A B);have F:=gR B M;have ab:=M.size;clear aa X al am Z O aY Y an M B A;obtain⟨G,L⟩:∃G,BR (l++[m])=G:=⟨_,rfl⟩;rw[L]at D;have R:=gb L;clear L;cases G with
    |false=>
     have HN:=gd (mkS e k l (List.range' (m+1) (e+1-(m+1)))=d) (by rw[<-E.out];exact(S.out m _ (.inl R.out)).symm);go_wp2_with fail;refine D.out.mono ?_;rintro e5 w5 ⟨rfl,o⟩;have dJ:=gb (bN.out.trans ((F.out.2.trans (o.mono ab)).mono bN.out.size));clear o;go_wp2;go_roundw
     case rel=>exact⟨m+1,by go_num,by omega,by omega,gb HN.out,dJ.out⟩
     case measure=>exact gQ
    |true=>
     go_wp2_with fail;refine D.out.mono ?_;rintro e5 w5 ⟨rfl,o⟩;have dl:=gb (IH.out m T c7 w5 Oa Oa ((F.out.1.below o).sl DB));have dJ:=gb (bN.out.trans ((F.out.2.trans (o.mono ab)).mono bN.out.size));clear o;unfold Wc at dl;cases hr:yr e k (l++[m])with
     |none=>
      have HN:=gd (mkS e k l (List.range' (m+1) (e+1-(m+1)))=d) (by rw[<-E.out];exact(S.out m _ (.inr hr)).symm);rw[hr]at dl;clear hr;go_wp2_with fail;refine dl.out.mono ?_;rintro e6 w6 ⟨⟨pa,pn,pc,rfl,hS⟩,aY⟩;have cz:=gb (dJ.out.trans (aY.mono dJ.out.size));clear aY hS;go_wp2;go_roundw
      case rel=>exact⟨m+1,by go_num,by omega,by omega,gb HN.out,cz.out⟩
      case measure=>exact gQ
     |some ah=>
      have HN:=gd (d=some ah) (by rw[<-E.out];exact ak.out m _ ah R.out hr);exact OS
   ·obtain rfl:m=e+1:=(by omega);have ao:¬((e+1:Nat):Int)<=e:=Oa;have HN:=gd (d=none) (by rw[<-y.out];exact af.out);have bN:=gb z;clear z y A;exact MQ
theorem VC{n:Nat}:∀(f s e:Nat)(r:gA),s<=e->e<s+f->(∀j,s<=j->j<e->tF j (n-1) [0]=none)->tF e (n-1) [0]=some r->xW n f s=r
 |0,s,e,r,c,a,_,_=>absurd a Oa
 |f+1,s,e,r,c,a,b,d=>by
  rw[xW];by_cases h:s=e
  ·grind
  ·rw[b s (fZ _) Oa];exact VC f (s+1) e r Oa Oa (λj g=>b j Oa) d
theorem Ls(n:Nat)(w:World)(h:¬(1<=n/\n<=7)):
 Calls prog 79 #[.int .i64 n] w λa c=>a= .returned (.tuple #[.slice none 0 0,.int .i64 1])/\w=c:=by
 by_cases d:n<1
 ·have b:(n:Int)<1:=(by omega);clear h;go_enter func79,ntmps79;exact KN
 ·have b:¬(n:Int)<1:=(by omega);have e:(7:Int)<n:=Oa;clear h;go_enter func79,ntmps79;exact KN
theorem Wu(n:Nat)(w:World)(J:1<=n)(v:n<=7):
 Calls prog 79 #[.int .i64 n] w λH y=>(∃(h:Option Addr)(k i:Nat),H= .returned (.tuple #[.slice h k i,.int .i64 0])/\Sl y (.slice h k i) (qO n))/\gm w y:=by
 have t:=gb (λ(e:Nat)(I F:Nat)(l:World)(q:e<=100) K=>AJ e n v q (n-1) [0] I F 0 l Oo (ajD e) K);have A:=gb (λl:World=>(OI.lit1 l.heap.size l 0 (fZ _)).sl On)
 have B:=gd (∀e r,e<=25->(∀j,j<e->yr j (n-1) [0]=none)->yr e (n-1) [0]=some r->qO n=jj r) (λe r q x a=>by
  unfold qO;rw[gl ⟨J,v⟩];congr 1;have P:n-1<=e:=by
   refine gx λN=> ?_
   grind [AK]
  grind [VC,Vc])
 have z:=gd (yr (Cj n) (n-1) [0]≠none) (λQ=>by
  grind [Ed,Vc])
 have T:=VE n;have R:¬(n:Int)<1:=Oa;have S:¬(7:Int)<n:=Oa;unfold Wc at t;generalize qO n=X at*;generalize Cj n=E at*;generalize n-1=s at*;go_enter func79,ntmps79;go_wp2;go_loopw [4] (λev wr=>∃e:Nat,ev= .int .i64 e/\e<=E/\Hid (∀j,j<e->yr j s [0]=none)/\gm w wr) (λev _=>E-(intOf ev).toNat)
 case atStart=>exact⟨0,rfl,ge _,gb (λj x=>by omega),f0 _ _⟩
 case round=>
  obtain⟨e,rfl,O,o,p⟩:=hrel;have c:=gb (p.alloc p.size (.cells #[.int .i64 0] 3));have d:=gb (t.out e wr.heap.size 1 (wr.alloc (.cells #[.int .i64 0] 3)) Oa (A.out wr));clear p;cases a:yr e s [0]with
  |some r=>
   have D:=gb (B.out e r Oa o.out a);rw[a]at d;clear a;go_wp2_with fail;refine d.out.mono ?_;rintro G L ⟨⟨h,k,i,rfl,g⟩,b⟩;have f:=gR (g r rfl) (c.out.trans (b.mono c.out.size));clear b g;go_wp2;go_ret2;exact⟨⟨_,_,_,rfl,by rw[D.out];exact f.out.1⟩,f.out.2⟩
  |none=>
   have U:e≠E:=λq=>z.out (by grind)
   have C:=gd (∀j,j<e+1->yr j s [0]=none) (λj x=>by
    by_cases M:j=e
    ·grind
    ·exact o.out j Oa)
   rw[a]at d;clear a o;go_wp2_with fail;refine d.out.mono ?_;rintro G L ⟨⟨h,k,i,rfl,g⟩,b⟩;have f:=gb (c.out.trans (b.mono c.out.size));clear b g;go_wp2;go_roundw
   case rel=>exact⟨e+1,by go_num,by omega,C,f.out⟩
   case measure=>exact gQ
theorem RL.openN{w:World}{v:Value}{bs:kl}(h:RL w v (bs.map jj)):∃c d N,v= .slice c N d/\Hid (bs.length=N)/\(N<=17592186044416/\N<=d)/\Hid (0<N->∃b a,c=some ⟨b,a,none⟩/\∀g,gm w g->∀H,H<N->∃f,g.cell? ⟨b,a+H,none⟩=some f/\Sl g f (jj (bs.getD H []))):=by
 obtain⟨c,d,e,i,j⟩:=h;rw[gv]at e i j;refine⟨c,d,bs.length,e,gb rfl,i,gb λk=> ?_⟩;obtain⟨b,a,e,l,n⟩:=j k;refine⟨b,a,e,λg hw H o=> ?_⟩;obtain⟨f,q,hs⟩:=n H o;refine⟨f,by rw[hw.cell (p:=⟨b,a+H,none⟩) l,q],?_⟩;exact U4
theorem afj{P:Nat}{b:gA}{D:Int}{j:Nat}(a:j<b.length)(h:P<=b.getD j 0):(if(b.any λn=>decide (P<=n))=true then 1 else if kc b=false then 2 else D)=1:=by
 refine gl ?_
 grind [List.getElem_mem]
theorem aaA{P:Nat}{b:gA}{D:Int}(h:∀j,j<b.length->¬P<=b.getD j 0):(if(b.any λn=>decide (P<=n))=true then 1 else if kc b=false then 2 else D)=if kc b=false then 2 else D:=by
 refine gh λh3=> ?_;exact Sd
theorem Cf(P:Nat)(v:Value)(bs:kl)(w:World)(S:RL w v (bs.map jj)):
 Calls prog 73 #[.agg #[.int .i64 P,v]] w λe w'=>e= .returned (.int .i64 (rC P bs))/\gm w w':=by
 have aQ:=gb ((f0 w.heap.size w).alloc (fZ _) (.cells #[.int .i64 P,v] 103));have r:=gd (hU (w.alloc (.cells #[.int .i64 P,v] 103)) w.heap.size 103 [.int .i64 P,v]) (hU.new w 103 [.int .i64 P,v]);have U:=S.below aQ.out;obtain⟨o,p,N,rfl,hN,ak,Z⟩:=U.openN;clear S U;by_cases h1:P<1
 ·have HR:=gd (rC P bs=1) (gl (.inl h1));exact Sq
 by_cases h2:40<P
 ·have HR:=gd (rC P bs=1) (gl (.inr h2));exact Sq
 by_cases h3:200<N
 ·have HR:=gd (rC P bs=3) (by unfold rC;rw[gh Oa,gl MS]);exact Sq
 have HR:=gd (rC P bs=B4 P (bs.drop 0)) (by unfold rC;rw[gh Oa,gh MS];rfl);have ac:=gb (λi (h:i<N)=>aaz (P:=P) (bs:=bs) (i:=i) ON);have aa:=gd (B4 P (bs.drop N)=0) (by rw[mQ MJ];rfl);have c0:(w.alloc (.cells #[.int .i64 P,.slice o N p] 103)).cell? ⟨w.heap.size,0,none⟩=some (.int .i64 P):=r.out.cell 0;have c1:(w.alloc (.cells #[.int .i64 P,.slice o N p] 103)).cell? ⟨w.heap.size,1,none⟩=some (.slice o N p):=r.out.cell 1;clear hN;generalize rC P bs=R at*;go_enter func73,ntmps73;go_wp2_with fail;generalize w.alloc (.cells #[.int .i64 P,.slice o N p] 103)=a at*;clear r;go_loopw [3,4,5,6] (λD _ _ _ wr=>∃i q:Nat,D= .int .i64 i/\i<=N/\Hid (R=B4 P (bs.drop i))/\wr=a.drewN q) (λD _ _ _ _=>N-(intOf D).toNat)
 case atStart=>exact⟨0,0,rfl,ge _,HR,rfl⟩
 case round=>
  clear HR;obtain⟨i,q,rfl,hi,HR,rfl⟩:=hrel;by_cases K:i<N
  ·have ad:(i:Int)<N:=(by omega);have A:=gb (HR.out.trans (ac.out i K));obtain⟨ai,aq,rfl,I⟩:=Z.out Oa;obtain⟨u,hu,Q⟩:=I a (f0 _ _) i K;obtain⟨a2,aj,M,rfl,hM,al,b⟩:=Q.openN;have s:=gd (∀j,j<M->P<=(bs.getD i []).getD j 0->R=1) (λj hj h=>A.out.trans (afj (by grind) h));have y:=gd ((∀j,j<M->¬P<=(bs.getD i []).getD j 0)->R=if kc (bs.getD i [])=false then 2 else B4 P (bs.drop (i+1))) (λh=>A.out.trans (aaA (by rw[hM.out];exact h)));have l:=gd (∀j,j+1<M->¬(bs.getD i []).getD j 0<(bs.getD i []).getD (j+1) 0->kc (bs.getD i [])=false) (λj hj h=>CH Uc h);have n:=gd ((∀j,j+1<M->(bs.getD i []).getD j 0<(bs.getD i []).getD (j+1) 0)->kc (bs.getD i [])=true) (λh=>Ac (by rw[hM.out];exact h));clear I Q hM A HR;generalize bs.getD i []=B at*;generalize H:B4 P (bs.drop (i+1))=ah at*;have HD:=gb H;clear H;generalize kc B=RI at*;obtain⟨f,J⟩:∃f:Nat->Nat,∀i,B.getD i 0=f i:=⟨λi=>B.getD i 0,λi=>rfl⟩;simp only[J]at b s y l n;clear J;go_wp2;go_loopw [5] (λE wr=>∃j q:Nat,E= .int .i64 j/\j<=M/\Hid (∀k,k<j->¬P<=f k)/\wr=a.drewN q) (λE _=>M-(intOf E).toNat)
   case atStart=>exact⟨0,q,rfl,ge _,gb (λj hj=>by omega),rfl⟩
   case round=>
    obtain⟨j,q,rfl,hj,HH,rfl⟩:=hrel;by_cases L:j<M
    ·have ae:(j:Int)<M:=(by omega);obtain⟨b2,ag,rfl,c⟩:=b.out Oa;have hx:=c a (f0 _ _) j L;have Y:=gb (s.out j L);have g:=gb (λ(h:¬P<=f j)=>(show∀k,k<j+1->¬P<=f k from λk O=>Qc));clear HH c b;generalize f j=x at*;have ao:¬(x:Int)<0:=Oa;by_cases V:P<=x
     ·have an:(P:Int)<=x:=(by omega);have HR:=gb (Y.out V);go_wp2;go_region
      all_goals
       go_wp2;go_ret;exact⟨by rw[HR.out];rfl,gM aQ.out _⟩
     ·have z:=gb (g.out V);go_wp2;go_region
      all_goals
       go_wp2;go_roundw
       case rel=>exact⟨j+1,q+1,by go_num,by omega,z,rfl⟩
       case measure=>exact gQ
    ·obtain rfl:j=M:=(by omega);have ae:¬(j:Int)<j:=Oa;have d:=gb (y.out HH.out);clear HH s y;go_wp2;go_loopw [6] (λF wr=>∃t q:Nat,F= .int .i64 ((t+1:Nat):Int)/\(t+1<=j\/t=0)/\Hid (∀k,k<t->f k<f (k+1))/\wr=a.drewN q) (λF _=>j+2-(intOf F).toNat)
     case atStart=>exact⟨0,q,rfl,.inr rfl,gb (λj hj=>by omega),rfl⟩
     case round=>
      obtain⟨t,q,rfl,ht,HH,rfl⟩:=hrel;by_cases C:t+1<j
      ·obtain⟨b2,ag,rfl,c⟩:=b.out Oa;have d0:=c a (f0 _ _) t Oa;have d1:=c a (f0 _ _) (t+1) C;have G:=gb (l.out t C)
       have g:=gb (λ(h:f t<f (t+1))=>(show∀k,k<t+1->f k<f (k+1)from λk O=>by
        by_cases e:k=t
        ·rw[e];exact h
        ·exact HH.out k Oa))
       clear HH c b l n;have af:((t+1:Nat):Int)-1=t:=Oa;obtain⟨T,hT⟩:∃T,t+1=T:=⟨_,rfl⟩;rw[hT]at C af d1 G g⊢;generalize f t=X at*;generalize f T=x at*;by_cases W:X<x
       ·have z:=gb (g.out W);go_wp2;go_region;go_wp2;go_roundw
        case rel=>exact⟨T,q+1,by go_num,.inl Oa,z,rfl⟩
        case measure=>exact gQ
       ·have ap:(x:Int)<=X:=(by omega);have HR:=gb (G.out W);rw[HR.out]at d;go_wp2;go_region;go_wp2;go_ret;exact⟨by rw[d.out];rfl,gM aQ.out _⟩
      ·have am:¬((t+1:Nat):Int)<j:=(by omega);have HR:=gb (n.out (λk O=>HH.out k Oa));rw[HR.out,gh Oc]at d;clear HH b l n;go_wp2;go_roundw
       case rel=>exact⟨i+1,q,by go_num,by omega,gb (d.out.trans HD.out.symm),rfl⟩
       case measure=>exact gQ
  ·obtain rfl:i=N:=(by omega);have ad:¬(i:Int)<i:=Oa;have ab:=gb (HR.out.trans aa.out);clear HR;go_wp2;go_ret;exact⟨by rw[ab.out];rfl,gM aQ.out _⟩
def dsO(v:Nat)(x:Int):Bool:=decide (x<0)||decide ((v:Int)<=x)
theorem EY(v:Nat)(x:Int)(b:Nat)(w:World)(d:w.cell? ⟨b,0,none⟩=some (.int .i64 v)):
 Calls prog 251 #[.int .i64 x,.pointer (some ⟨b,0,none⟩)] w λe a=>e= .returned (.bool (dsO v x))/\w=a:=by
 by_cases h:x<0
 ·have hE:=gd (dsO v x=true) (by grind [dsO]);exact P2
 ·by_cases c:(v:Int)<=x
  ·have hE:=gd (dsO v x=true) (by unfold dsO;grind);exact P2
  ·have hE:=gd (dsO v x=false) (by grind [dsO]);exact P2
theorem Af(v:Nat)(b:Nat)(w:World)(a:w.cell? ⟨b,0,none⟩=some (.int .i64 v)):x8 251 #[.pointer (some ⟨b,0,none⟩)] (dsO v) w where
 enter:=jI func251 Ob Ob
 calls:=λx _=>EY v x b w a
theorem afy(v:Nat)(l:gA):(jj l).any (dsO v)=l.any λn=>decide (v<=n):=Mc
theorem rQ(bs:kl)(i:Nat):(bs.map jj).getD i []=jj (bs.getD i []):=by
 rw[gc,gc,gY];cases bs[i]? <;>rfl
theorem CP{bs:kl}{i:Nat}(h:i<bs.length):bs.getD i []∈bs:=by
 grind
theorem ak5{W:World}{B:Nat}{x y:Value}{t:TypeId}(h:W.heap[B]? =some (.cells #[x,y] t)):W.cell? ⟨B,0,none⟩=some x/\W.cell? ⟨B,1,none⟩=some y:=by
 constructor<;>simp[World.cell?,h]
theorem LW(w:World)(P:Nat)(v:Value):(w.alloc (.cells #[.int .i64 P,v] 103)).cell? ⟨w.heap.size,0,none⟩=some (.int .i64 P)/\(w.alloc (.cells #[.int .i64 P,v] 103)).cell? ⟨w.heap.size,1,none⟩=some v:=OK
theorem LV(w:World)(p q:Nat):(w.drewN p).drewN q=w.drewN (p+q):=OK
theorem oZ(P:Nat)(v:Value)(bs:kl)(w:World)(hP:P<1000000000)(hv:RL w v (bs.map jj))(J:∀b∈bs,∀x∈b,x<1000000000):
 Calls prog 200 #[.agg #[.int .i64 P,v]] w λD w'=>D= .returned (.int .i64 (rC P bs))/\gm w w':=by
 have aF:Below w.heap.size w (w.alloc (.cells #[.int .i64 P,v] 103)):=(f0 _ _).alloc (fZ _) _;have HE:=gd (rC P bs=if P<1\/40<P then 1 else if 200<bs.length then 3 else B4 P bs) rfl;have a8:=LW w P v;have R:=gb a8;have bC:=hv.below aF;generalize rC P bs=E at*;have aQ:=gb aF;by_cases K:P<1
 ·have ak:(P:Int)<1:=(by omega);have e1:=HE.out;rw[gl (.inl K)]at e1;exact Qq
 have ak:¬(P:Int)<1:=Oa;by_cases W:40<P
 ·have al:(40:Int)<P:=(by omega);have e1:=HE.out;rw[gl (.inr W)]at e1;exact Qq
 have al:¬(40:Int)<P:=Oa;obtain⟨q,C,N,rfl,hN,aB,X⟩:=bC.open;rw[gv]at hN;by_cases h3:200<N
 ·have am:(200:Int)<N:=(by omega);have e1:=HE.out;rw[gh Oa,gl MS]at e1;subst e1;clear HE hv aF J a8 bC X hN;go_enter func200,ntmps200;exact Sz
 have am:¬(200:Int)<N:=Oa;have e1:=HE.out;rw[gh Oa,gh MS]at e1;have H:=gb e1;have aj:=gd (∀i,i<N->B4 P (bs.drop i)=if((bs.getD i []).any λQ=>decide (P<=Q))=true then 1 else if kc (bs.getD i [])=false then 2 else B4 P (bs.drop (i+1))) (λi hi=>aaz OZ);have af:=gd (B4 P (bs.drop N)=0) (by rw[<-hN.out,qr];rfl);have ag:=gd (∀i,i<N->∀x∈bs.getD i [],x<1000000000) (λi hi=>J _ (CP OZ))
 have y:=gd (0<N->∃r a,q=some ⟨r,a,none⟩/\r<(w.alloc (.cells #[.int .i64 P,.slice q N C] 103)).heap.size/\∀i,i<N->∃o,(w.alloc (.cells #[.int .i64 P,.slice q N C] 103)).cell? ⟨r,a+i,none⟩=some o/\Sl (w.alloc (.cells #[.int .i64 P,.slice q N C] 103)) o (jj (bs.getD i []))) (λh=>by
  grind [rQ])
 clear HE e1 hv aF J a8 bC X hN;obtain⟨p,B⟩:∃p,Hid (w.alloc (.cells #[.int .i64 P,.slice q N C] 103)=p):=⟨_,gb rfl⟩;have ac:=gd (p.cell? ⟨w.heap.size,0,none⟩=some (.int .i64 P)) (by rw[<-B.out];exact R.out.1);rw[B.out]at aQ y;clear R;go_enter func200,ntmps200;go_wp2;rw[B.out];clear B;go_loopw [23] (λc wr=>∃i:Nat,i<=N/\c= .int .i64 i/\Hid (B4 P (bs.drop i)=E)/\∃t,Hid (wr=p.drewN t)) (λc _=>N-(intOf c).toNat)
 case atStart=>exact⟨0,ge _,rfl,gb (by rw[H.out];rfl),0,gb rfl⟩
 case round=>
  obtain⟨i,az,rfl,F,t,e⟩:=hrel;obtain⟨V,hV⟩:∃V,V=wr:=⟨wr,rfl⟩;subst hV;by_cases hi:i<N
  ·have an:(i:Int)<N:=(by omega);obtain⟨r,a,rfl,hg,f⟩:=y.out Oa;obtain⟨o,Z,aa⟩:=f i hi;have O:Sl V o (jj (bs.getD i [])):=(by rw[e.out];exact aa.drewN t);have c1:V.cell? ⟨r,a+i,none⟩=some o:=(by rw[e.out];exact Z);have U:V.cell? ⟨w.heap.size,0,none⟩=some (.int .i64 P):=(by rw[e.out];exact ac.out);have g:=aj.out i hi;rw[F.out]at g;have d:=gb (kU _ _ _ o _ _ O (FC (ag.out i hi)) (Af P w.heap.size _ U));rw[afy]at d;obtain⟨T,c2,M,rfl,hM,aC,au⟩:=O.open;rw[show(jj (bs.getD i [])).length=(bs.getD i []).length from jw _]at hM
   have ad:=gd (M=0\/∃b a,T=some ⟨b,a,none⟩/\∀j,j<M->V.cell? ⟨b,a+j,none⟩=some (.int .i64 (((bs.getD i []).getD j 0:Nat):Int))) (by
    grind [jj])
   clear f Z aa O au U;generalize bs.getD i []=l at*;have a7:=gb (show gm w V from by rw[e.out];exact gM aQ.out _);cases s:(l.any λQ=>decide (P<=Q))with
   |true=>
    rw[gl s]at g;subst g;rw[s]at d;clear s y H F;go_wp2_with fail;refine d.out.mono ?_;rintro D w1 ⟨rfl,rfl⟩;exact Uq
   |false=>
    rw[gh (by grind)]at g;rw[s]at d;have I:=gb g
    have HY:=gd ((∀j,j+1<M->l.getD j 0<l.getD (j+1) 0)->B4 P (bs.drop (i+1))=E) (λh=>by
     rw[I.out,gh];rw[amb];unfold kc;rw[gF];intro j hj
     exact gy (h j (by have:=gC.1 hj;have:=hM.out;omega)))
    have ai:=gd (∀j,j+1<M->¬l.getD j 0<l.getD (j+1) 0->E=2) (λj hj h=>by
     rw[I.out,gl];cases hd:kc l with
     |false=>rfl
     |true=>exact absurd (tT hd (i:=j) Uc) h)
    clear g s I y H F hM;go_wp2_with fail;refine d.out.mono ?_;rintro D w1 ⟨rfl,rfl⟩;clear d;go_wp2;go_loopw [5] (λc av=>∃k:Nat,1<=k/\c= .int .i64 k/\Hid (∀j,j+1<M->j+1<k->l.getD j 0<l.getD (j+1) 0)/\∃n,Hid (av=V.drewN n)) (λc _=>M-(intOf c).toNat)
    case atStart=>exact⟨1,fZ _,rfl,gb (λj _ h=>by omega),0,gb rfl⟩
    case round=>
     obtain⟨k,aA,rfl,Y,n,z⟩:=hrel;by_cases ap:k<M
     ·have aq:(k:Int)<M:=(by omega);obtain⟨b,G,rfl,f⟩:∃b a,T=some ⟨b,a,none⟩/\∀j,j<M->V.cell? ⟨b,a+j,none⟩=some (.int .i64 ((l.getD j 0:Nat):Int)):=by
       rcases ad.out with h|h
       ·exact Oa
       ·exact h
      obtain⟨j,hj⟩:∃j,k=j+1:=⟨k-1,by omega⟩;have aD:(k:Int)-1=j:=Oa;have aE:IntKind.i64.wrap (j:Int)=(j:Int):=iE _ Oa;have ao:j<M:=Oa;have d1:wr.cell? ⟨b,G+k,none⟩=some (.int .i64 ((l.getD k 0:Nat):Int)):=(by rw[z.out];exact f k ap);have d2:wr.cell? ⟨b,G+j,none⟩=some (.int .i64 ((l.getD j 0:Nat):Int)):=(by rw[z.out];exact f j ao);have ax:wr.drew.cell? ⟨b,G+k,none⟩=_:=d1;have ay:wr.drew.cell? ⟨b,G+j,none⟩=_:=d2;have A:=gd (wr.drew=V.drewN (n+1)) (by rw[z.out];rfl);have ab:=gb (show Below w.heap.size w wr.drew from by rw[A.out];exact gM a7.out _);have S:=gd (¬l.getD j 0<l.getD k 0->E=2) (λh=>ai.out j Oa (by grind));clear f;by_cases L:l.getD j 0<l.getD k 0
      ·have ar:¬((l.getD k 0:Nat):Int)<=((l.getD j 0:Nat):Int):=by omega
       have ah:=gd (∀j,j+1<M->j+1<k+1->l.getD j 0<l.getD (j+1) 0) (λm K W=>by
        by_cases D:m=j
        ·grind
        ·exact Y.out m K Oa)
       clear hj L;generalize l.getD k 0=x at*;generalize l.getD j 0=aw at*;go_wp2;go_region;go_wp2;go_roundw
       case rel=>exact⟨k+1,by omega,by go_num,ah,n+1,A⟩
       case measure=>exact gQ
      ·have ar:((l.getD k 0:Nat):Int)<=((l.getD j 0:Nat):Int):=(by omega);obtain rfl:=S.out L;clear hj L S;generalize l.getD k 0=x at*;generalize l.getD j 0=aw at*;go_wp2;go_region;go_wp2;go_ret;exact⟨rfl,ab.out⟩
     ·have ae:=gb (HY.out (λj hj=>Y.out j hj Oa));have aq:¬(k:Int)<M:=Oa;have A:=gd (wr=p.drewN (t+n)) (by rw[z.out,e.out];grind [LV]);go_wp2;go_roundw
      case rel=>exact⟨i+1,by omega,by go_num,ae,t+n,A⟩
      case measure=>exact gQ
  ·obtain rfl:i=N:=(by omega);have a7:=gb (show gm w V from by rw[e.out];exact gM aQ.out _);obtain rfl:E=0:=(by rw[<-F.out,af.out]);have an:¬(i:Int)<i:=Oa;exact Uq
theorem RL.openU{w:World}{v:Value}{bs:kl}(h:RL w v (bs.map jj)):∃c d N,v= .slice c N d/\Hid (bs.length=N)/\(N<=17592186044416/\N<=d)/\Hid (0<N->∃b a,c=some ⟨b,a,none⟩/\∀H,H<N->∃f,∀g,gm w g->g.cell? ⟨b,a+H,none⟩=some f/\Sl g f (jj (bs.getD H []))):=by
 obtain⟨c,d,e,i,j⟩:=h;rw[gv]at e i j;refine⟨c,d,bs.length,e,gb rfl,i,gb λk=> ?_⟩;obtain⟨b,a,e,l,n⟩:=j k;refine⟨b,a,e,λH o=> ?_⟩;obtain⟨f,q,hs⟩:=n H o;refine⟨f,λg hw=>⟨by rw[hw.cell (p:=⟨b,a+H,none⟩) l,q],?_⟩⟩;exact U4
theorem ai8{n:Nat}{cs:gA}{rs:kl}{i:Nat}(hi:i<rs.length):xu n cs (rs.drop i)=if(rs.getD i []).length≠n then 2 else if((rs.getD i []).any λc=>decide (n<=c))then 1 else xu n (cs++rs.getD i []) (rs.drop (i+1)):=by
 rw[CI [] hi];rfl
theorem afH{n:Nat}{r:gA}{D:Int}(h:r.length≠n):(if r.length≠n then 2 else if(r.any λc=>decide (n<=c))then 1 else D)=2:=gl h
theorem afG{n:Nat}{r:gA}{D:Int}(h:r.length=n){j:Nat}(b:j<n)(a:n<=r.getD j 0):(if r.length≠n then 2 else if(r.any λc=>decide (n<=c))then 1 else D)=1:=by
 rw[gh Oa,gl]
 grind [List.getElem_mem]
theorem aaY{n:Nat}{r:gA}{D:Int}(h:r.length=n)(a:∀j,j<n->¬n<=r.getD j 0):(if r.length≠n then 2 else if(r.any λc=>decide (n<=c))then 1 else D)=D:=by
 rw[gh Oa,gh];intro h3;exact Sd
theorem Cg(n:Nat)(v:Value)(rs:kl)(w:World)(hv:RL w v (rs.map jj)):
 Calls prog 70 #[.int .i64 n,v] w λe s=>e= .returned (.int .i64 (po n rs))/\gm w s:=by
 obtain⟨aw,ay,N,rfl,hN,al,HC⟩:=hv.openU;by_cases h1:n<1
 ·have HR:=gd (po n rs=1) (gl (.inl h1));exact MV
 by_cases h2:8<n
 ·have HR:=gd (po n rs=1) (gl (.inr h2));exact MV
 by_cases h3:n<N
 ·have HR:=gd (po n rs=3) (by unfold po;rw[gh Oa,gl MS]);exact MV
 have HR:=gd (po n rs=xu n [] (rs.drop 0)) (by unfold po;rw[gh Oa,gh MS];rfl);have F:=gb (λa i (h:i<N)=>ai8 (n:=n) (cs:=a) (rs:=rs) (i:=i) ON);have H:=gd (∀a,xu n a (rs.drop N)=if oP n a then 6 else 0) (λa=>by rw[mQ MJ];rfl);have J:=gb (λ(v:Value)(aa:Nat)(D:gA)(w1:World)(h:OI aa w1 v (jj D))(hl:D.length<=100)=>XV n v D w1 Oa Oa (h.sl Dh) Oa);clear hv hN;generalize po n rs=ah at*;go_enter func70,ntmps70;go_wp2;go_loopw [5,6,7] (λy B _ wr=>∃(i:Nat)(a:gA),B= .int .i64 i/\i<=N/\a.length=n*i/\Hid (ah=xu n a (rs.drop i))/\OI w.heap.size wr y (jj a)/\gm w wr) (λ_ B _ _=>N-(intOf B).toNat)
 case atStart=>exact⟨0,[],rfl,ge _,rfl,HR,OI.nil _ _,f0 _ _⟩
 case round=>
  clear HR;obtain⟨i,a,rfl,hi,T,p,c,b⟩:=hrel;have aB:n*i<=8*8:=gE Oa Oa;by_cases W:i<N
  ·have ao:(i:Int)<N:=(by omega);have cO:=gb (p.out.trans (F.out a i W));obtain⟨ax,aD,rfl,R⟩:=HC.out Oa;obtain⟨u,q⟩:=R i W;obtain⟨a2,c2,M,rfl,hM,aA,l⟩:=(q w (f0 _ _)).2.openN;have ar:=(q wr b).1;have ad:=gb (λs (hw:gm w s)=>(q s hw).1);have HB:=gR c b;clear c b q p R;obtain⟨r,A⟩:∃r,rs.getD i []=r:=⟨_,rfl⟩;rw[A]at hM l cO;have HD:=gb A;clear A;by_cases Q:M=n
   ·subst Q;have ak:((M:Int) !=M)=false:=On;have E:=gb (λj (hj:j<M) (h:M<=r.getD j 0)=>cO.out.trans (afG hM.out hj h));have G:=gb (λ(h:∀j,j<M->¬M<=r.getD j 0)=>cO.out.trans (aaY hM.out h))
    have t:=gd (∀j,j<M->jj (a++r.take j)++[((r.getD j 0:Nat):Int)]=jj (a++r.take (j+1))) (λj hj=>by
     rw[<-tA,iN,jH,gn Uc,gc,gn Uc]
     rfl)
    have L:=gd (∀j,j<=M->(jj (a++r.take j)).length=M*i+j) (λj hj=>by
     rw[jw,gz,T,i8,hM.out]
     exact Oa)
    have K:=gd (jj (a++r.take 0)=jj a) On;have O:=gd (jj (a++r.take M)=jj (a++r)) (by rw[ie (by rw[hM.out];omega)]);have I:=gd ((a++r).length=M*(i+1)) (by rw[gz,hM.out,T,mb]);clear cO hM;obtain⟨f,U⟩:∃f:Nat->Nat,∀i,r.getD i 0=f i:=⟨λi=>r.getD i 0,λi=>rfl⟩;simp only[U]at l E G t;clear U;obtain⟨g,P⟩:∃g:Nat->gP,∀j,jj (a++r.take j)=g j:=⟨λj=>jj (a++r.take j),λj=>rfl⟩;simp only[P]at t L K O;clear P;obtain⟨b2,aE,rfl,S⟩:=l.out Oa;have ac:=gb S;clear l S;go_wp2;go_loopw [5,7] (λy C wq=>∃j:Nat,C= .int .i64 j/\j<=M/\Hid (∀k,k<j->¬M<=f k)/\OI w.heap.size wq y (g j)/\gm w wq) (λ_ C _=>M-(intOf C).toNat)
    case atStart=>exact⟨0,rfl,ge _,gb (λj hj=>by omega),HB.out.1.cast K.out.symm,HB.out.2⟩
    case round=>
     clear HB ar;obtain⟨j,rfl,hj,HH,c,b⟩:=hrel;by_cases z:j<M
     ·have ap:(j:Int)<M:=(by omega);have al:=ad.out wr b;have az:=ac.out wr b j z;have ab:=gb (E.out j z);have ag:=gb (t.out j z);have aq:(g j).length<=1000000000000:=(by rw[L.out j hj];omega);have Y:=b.size;have HB:=gb b;have ae:=gb (λ(h:¬M<=f j)=>(show∀k,k<j+1->¬M<=f k from λk hk=>Qc));clear HH b;generalize f j=x at*;have aC:¬(x:Int)<0:=Oa;by_cases Z:M<=x
      ·have au:(M:Int)<=x:=(by omega);have HR:=gb (ab.out Z);clear c;go_wp2;go_ret;exact⟨by rw[HR.out];rfl,HB.out⟩
      ·have au:¬(M:Int)<=x:=(by omega);have af:=gb (ae.out Z);go_wp2_with (at_builtin;refine g8 wr _ _ 45 rfl rfl underlying45 info3 w.heap.size _ _ rfl c rfl aq Y ?_;intro g7 c7 w4 X V am an);have aj:=c.grown HB.out V Y;have d:=gR (X.cast ag.out) aj;clear X V am an c;go_roundw
       case rel=>exact⟨j+1,by go_num,by omega,af,d.out.1,d.out.2⟩
       case measure=>exact gQ
     ·obtain rfl:j=M:=(by omega);have ap:¬(j:Int)<j:=Oa;have o:=gb (G.out HH.out);have d:=gR (c.cast O.out) b;rw[<-HD.out]at o d I;clear c b HH;go_wp2;go_roundw
      case rel=>exact⟨i+1,_,by go_num,by omega,I.out,o,d.out.1,d.out.2⟩
      case measure=>exact gQ
   ·have ak:((M:Int) !=n)=true:=(by grind);have o:=gb (cO.out.trans (afH (by rw[hM.out];exact Q)));clear cO hM;go_wp2;go_ret;exact⟨by rw[o.out];rfl,HB.out.2⟩
  ·obtain rfl:i=N:=(by omega);have ao:¬(i:Int)<i:=Oa;have HO:=gb (J.out _ _ a wr c Oa);have cO:=gb (p.out.trans (H.out a));have HB:=gb b;clear c b p J H F;generalize oP n a=av at*;go_wp2_with fail;refine HO.out.mono ?_;rintro e w5 ⟨rfl,ai,rfl⟩;cases av with
   |true=>
    exact Dm
   |false=>
    exact Dm
section
open Go.Maps
theorem ahV{n:Int}(h:x1 n=true):∃m:Nat,n=(m:Int)/\2<=m/\m<=16/\m%2=0:=by
 unfold x1 at h;rw[sO]at h;exact⟨n.toNat,by omega,by omega,by omega,by omega⟩
end
def G7(x y:Int):Int:=if x<y then-1 else if y<x then 1 else 0
theorem Id(x:Int)(w:World):
 Calls prog 311 #[.int .i64 x] w λe a=>e= .returned (.bool false)/\w=a:=by
 go_enter func311,ntmps311;go_wp2;go_ret;exact⟨rfl,rfl⟩
theorem CE(x y:Int)(w:World):
 Calls prog 283 #[.int .i64 x,.int .i64 y] w λe d=>e= .returned (.int .i64 (G7 x y))/\w=d:=by
 have HX:=gb (λZ=>Id x Z);have HY:=gb (λZ=>Id y Z);have a:=gd (G7 x y=if x<y then-1 else if y<x then 1 else 0) rfl;generalize G7 x y=z at*;by_cases b:x<y
 ·obtain rfl:z= -1:=(by rw[a.out,gl b]);exact KQ
 ·by_cases c:y<x
  ·obtain rfl:z=1:=(by rw[a.out,gh b,gl c]);exact KQ
  ·obtain rfl:z=0:=(by rw[a.out,gh b,gh c]);exact KQ
def Tm(x y:Nat->Nat):Int:=match(List.range 7).find? (λi=> !(x i==y i))with
 |none=>0
 |some i=>if x i<y i then-1 else 1
theorem Tn{x y:Nat->Nat}(h:∀i,i<7->x i=y i):Tm x y=0:=by
 grind [Tm]
theorem To{x y:Nat->Nat}{k:Nat}(a:k<7)(h:∀i,i<k->x i=y i)(b:x k≠y k):Tm x y=if x k<y k then-1 else 1:=by
 grind [Tm,List.find?_range_eq_some]
theorem aff{a b:Nat}(h:a≠b):G7 (a:Int) (b:Int)=if a<b then-1 else 1:=by
 unfold G7;exact Oa
theorem afe(a:Int):G7 a a=0:=by
 unfold G7;exact Oa
theorem agV(x y:Nat->Nat)(a b:Nat)(w:World)(d:w.rangeAt a 0 (jP x))(f:w.rangeAt b 0 (jP y)):
 Calls prog 249 #[.slice (some ⟨a,0,none⟩) 7 7,.slice (some ⟨b,0,none⟩) 7 7] w λe o=>e= .returned (.int .i64 (Tm x y))/\∃ai,o=w.drewN ai:=by
 have HX:=gd (∀H,H<7->w.cell? ⟨a,H,none⟩=some (.int .i64 ((x H:Nat):Int))) (λH hi=>by
  have:=d H _ (pz hi)
  grind)
 have HY:=gd (∀H,H<7->w.cell? ⟨b,H,none⟩=some (.int .i64 ((y H:Nat):Int))) (λH hi=>by
  have:=f H _ (pz hi)
  grind)
 have HC:=gb (λ(g h:Int)(Z:World)=>CE g h Z);have HN:=gb (Tn (x:=x) (y:=y));have HS:=gb (λk (c:k<7) i n=>To (x:=x) (y:=y) (k:=k) c i n);clear d f;generalize Tm x y=al at*;go_enter func249,ntmps249;go_wp2_with fail;go_loopw [4,5,6,7,8,11] (λ_ _ _ _ _ H p=>∃k ai:Nat,k<=7/\H= .int .i64 k/\Hid (∀j,j<k->x j=y j)/\p=w.drewN ai) (λ_ _ _ _ _ H _=>7-(intOf H).toNat)
 case atStart=>exact⟨0,0,by omega,rfl,gb (λj hj=>by omega),rfl⟩
 case round=>
  obtain⟨k,ai,c,rfl,HE,rfl⟩:=hrel;by_cases ap:k<7
  ·have l:(k:Int)<7:=(by omega);have q:¬(7:Int)<=k:=Oa;exact Pd
  ·have l:¬(k:Int)<7:=(by omega);exact Qs
theorem agc(x y:Nat->Nat)(w:World):
 Calls prog 248 #[.agg (jP x).toArray,.agg (jP y).toArray] w λe f=>e= .returned (.int .i64 (Tm x y))/\∃q d,f=Go.Sort.grow (w.drewN q) d:=by
 have b:hU ((w.alloc (.cells (jP x).toArray 179)).alloc (.cells (jP y).toArray 179)) w.heap.size 179 (jP x):=(hU.new w _ _).alloc _;have a:hU ((w.alloc (.cells (jP x).toArray 179)).alloc (.cells (jP y).toArray 179)) (w.alloc (.cells (jP x).toArray 179)).heap.size 179 (jP y):=hU.new _ _ _;rw[iV]at a;have c:=gb (λm=>agV x y w.heap.size (w.heap.size+1) (((w.alloc (.cells (jP x).toArray 179)).alloc (.cells (jP y).toArray 179)).drewN m) b.range a.range);clear b a;generalize Tm x y=z at*;go_enter func248,ntmps248;go_wp2_with fail;go_region_with (go_at_call 249;refine(c.out _).mono ?_;rintro e g ⟨rfl,q,rfl⟩);go_wp2;go_ret;exact⟨rfl,1+q,_,by rw[ah6,ah6,Go.Sort.grow_grow];rfl⟩
end Go.Proofs.YtnnaadmegeeinaaGreatDoor
