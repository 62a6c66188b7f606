/-
  Part 5 of a proof: what it proves stands in the last text.
-/
import Derived.Test.YtnnaadmegeeinaaGreatDoorYd
import Derived.Deep.CutRange
import Derived.Deep.LoopGhost
import Derived.Deep.Matrix
set_option linter.all false
set_option maxHeartbeats 8000000
set_option maxRecDepth 100000
namespace Go.Proofs.YtnnaadmegeeinaaGreatDoor
open Tryz Go.Proofs.Tryz
open Go.RowKit
def yR:=@List.Perm.refl
def Bv:=@Int.toNat_of_nonneg
def ah7:=@Go.wpList_append_lies
def ah9:=@List.eq_nil_or_concat
def akM:=@World.ownsRow.cells
theorem Ms{p:Prop}(h:p:=by
 have HY:=ju (aD.cast dQ.out) cr aG;clear aD au aI aU cr aG ep dh HX;go_roundw
 case rel=>exact⟨H+1,H,rfl,by go_num,by omega,by rw[ey.out],HY.out.1,HY.out.2.1,HY.out.2.2⟩
 case measure=>exact gQ):p:=h
theorem MG{p:Prop}(h:p:=by
 go_wp2;go_ret
 exact⟨rfl,ai,rfl⟩):p:=h
theorem SF{p:Prop}(h:p:=by
 go_enter func137,ntmps137;go_wp2
 all_goals (go_ret2;exact⟨rfl,rfl⟩)):p:=h
theorem Um{p:Prop}(h:p:=by
 go_wp2;go_ret
 exact⟨by rw[bo.out];rfl,aT.out⟩):p:=h
theorem Uv{p:Prop}(h:p:=by
 rw[hz]at aV;have HZ:=gb hz;clear J ho hz;go_wp2;go_ret
 exact⟨by rw[HZ.out];rfl,HB.out⟩):p:=h
theorem UN{p:Prop}(h:p:=by have:=HM.out;omega):p:=h
theorem DL{p:Prop}(h:p:=by rw[<-hZ.out,fq.out (by rw[bw.out];omega)]):p:=h
theorem DT{p:Prop}(h:p:=by
 go_wp2;go_ret
 exact⟨by rw[HZ.out];rfl,aT.out⟩):p:=h
theorem D7{p:Prop}(h:p:=by have:=fa.out;omega):p:=h
theorem Kg{p:Prop}(h:p:=by rw[eG.out];omega):p:=h
theorem Ks{p:Prop}(h:p:=by have:=HJ.out;omega):p:=h
theorem Ps{p:Prop}(h:p:=by
 go_enter func168,ntmps168
 exact OG):p:=h
theorem Qg{p:Prop}(h:p:=by
 go_wp2_with fail;go_meet
 exact OK):p:=h
theorem Qw{p:Prop}(h:p:=by
 have:=(dh.lt br e.symm).1
 exact Oa):p:=h
theorem Qz{p:Prop}(h:p:=by
 have:=(ep.lt br e.symm).1
 exact Oa):p:=h
theorem QF{p:Prop}(h:p:=by
 go_enter func88,ntmps88
 exact Mb):p:=h
theorem QG{p:Prop}(h:p:=by
 have:=(dh.lt k e).1
 exact Oa):p:=h
theorem QI{p:Prop}(h:p:=by
 have:=(ep.lt k e).1
 exact Oa):p:=h
theorem Rj{p:Prop}(h:p:=by
 go_enter func126,ntmps126
 exact KN):p:=h
theorem ju{p q r:Prop}(P:p)(Q:q)(R:r):Hid (p/\q/\r):=⟨P,Q,R⟩
section
section
variable {α:Type} (lt:α->α->Bool) (d:α)
def xD:Nat->List α->List α
 |0,X=>X
 |j+1,X=>if lt (X.getD (j+1) d) (X.getD j d)=true then xD j ((X.set (j+1) (X.getD j d)).set j (X.getD (j+1) d))else X
def mI:Nat->List α->List α
 |0,X=>X
 |k+1,X=>xD lt d k (mI k X)
theorem H8:∀(j:Nat)(X:List α),(xD lt d j X).length=X.length
 |0,_=>rfl
 |j+1,X=>by
  rw[xD];split
  ·rw[H8 j];simp
  ·rfl
theorem At:∀(k:Nat)(X:List α),(mI lt d k X).length=X.length
 |0,_=>rfl
 |k+1,X=>by rw[mI,H8,At k]
theorem abx(X:List α):mI lt d 1 X=X:=rfl
end
section
variable {α:Type} {lt:α->α->Bool} {d:α}
theorem No:∀(P:List α)(x:α)(Q:List α),∃A B,P=A++B/\xD lt d P.length (P++x::Q)=A++x::B++Q/\(∀e∈B,lt x e=true)/\(∀b,A.getLast?=some b->lt x b=false)
 |P,x,Q=>by
  induction h:P.length generalizing P Q with
  |zero=>
   obtain rfl:=iX h;exact⟨[],[],rfl,rfl,by simp,by simp⟩
  |succ k o=>
   rcases ah9 P with c|⟨a,p,c⟩
   ·grind
   ·have c:P=a++[p]:=(by grind);subst c;have n:a.length=k:=(by grind);have g:(a++[p]++x::Q).getD (k+1) d=x:=by
     grind
    have i:(a++[p]++x::Q).getD k d=p:=by
     grind
    rw[xD,g,i];by_cases f:lt x p=true
    ·rw[gl f];have j:((a++[p]++x::Q).set (k+1) p).set k x=a++x::(p::Q):=by
      grind
     rw[j];obtain⟨A,B,s,q,r,l⟩:=o a (p::Q) n;refine⟨A,B++[p],by grind,by grind,λe v=> ?_,l⟩
     grind
    ·rw[gh f];refine⟨a++[p],[],by simp,by simp,by simp,λb t=> ?_⟩
     grind
def Ord(lt:α->α->Bool)(X:List α):Prop:=X.Pairwise λa b=>lt b a=false
theorem T0(i:∀a b,lt a b=true->lt b a=false)(s:∀a b f,lt b a=false->lt f b=false->lt f a=false):∀(k:Nat)(X:List α),k<=X.length->∃P Q,mI lt d k X=P++Q/\P.length=k/\Q=X.drop k/\P.Perm (X.take k)/\Ord lt P
 |0,X,_=>⟨[],X,rfl,rfl,rfl,yR _,List.Pairwise.nil⟩
 |k+1,X,z=>by
  obtain⟨P,Q,l,n,o,p,e⟩:=T0 i s k X Oa;rw[mI,l,o];have r:X.drop k=X[k]::X.drop (k+1):=kG Oa;rw[r];obtain⟨A,B,h,g,j,x⟩:=No (lt:=lt) (d:=d) P X[k] (X.drop (k+1));rw[n]at g;refine⟨A++X[k]::B,X.drop (k+1),g,?_,rfl,?_,?_⟩
  ·grind
  ·rw[List.take_succ_eq_append_getElem Oa];refine List.perm_middle.trans ?_;rw[<-h];exact(p.cons _).trans (List.perm_append_singleton _ _).symm
  ·rw[h]at e;unfold Ord at e⊢;rw[yT]at e⊢;obtain⟨t,v,C⟩:=e;refine⟨t,kM.2 ⟨λb c=>i _ _ (j b c),v⟩,λa y b c=> ?_⟩;rcases m9.1 c with c|c
   ·subst c;rcases ah9 A with q|⟨w,D,q⟩
    ·grind
    grind
   grind
theorem Au(e:∀a b,lt a b=true->lt b a=false)(f:∀a b c,lt b a=false->lt c b=false->lt c a=false)(X:List α):(mI lt d X.length X).Perm X/\Ord lt (mI lt d X.length X):=by
 obtain⟨P,Q,g,h,i,j,k⟩:=T0 (d:=d) e f X.length X (fZ _)
 grind
end
end
theorem abg{l:gP}{N i:Nat}(a:l.length=N)(h:0<N):i%N<N/\l.getD (i%l.length) 0=l[i%N]?.getD 0:=by
 grind [Nat.mod_lt]
theorem ag0{l:gP}(h:0<l.length):∃r x,l=r++[x]/\l[l.length-1]?.getD 0=x/\r.length=l.length-1:=by
 cases a:l.reverse with
 |nil=>
  grind
 |cons x r=>
  have e:l=r.reverse++[x]:=OK;refine⟨r.reverse,x,e,?_,?_⟩
  ·rw[e];simp
  grind
theorem aaf(r:gP)(x:Int):(r++[x]).set r.length (x+1)=GU (r++[x]):=by
 rw[Cz];exact On
def sS(l:gP):Prop:=∀x∈l,0<=x/\x<100
theorem sS.get{l:gP}(h:sS l)(i:Nat):0<=l[i]?.getD 0/\l[i]?.getD 0<100:=by
 cases a:l[i]? with
 |none=>simp
 |some x=>simpa using h x (nT a)
theorem sS.round{l:gP}(h:sS l)(m:Nat):sS (mq l m):=by
 intro x a;simp only[mq,gK]at a;obtain⟨i,_,rfl⟩:=a;have:=h.get (i%l.length)
 grind
theorem ID(k:Int)(m:Nat)(v:Value)(l:gP)(w:World)(F:Sl w v l)(H:0<l.length)(L:sS l)(av:1<=k)(aw:k<=10)(hm:m<=4096):
 Calls prog 220 #[.int .i64 k,v,.int .i64 m] w λe Q=>(∃P,e= .returned P/\OI w.heap.size Q P (ro k l m))/\gm w Q:=by
 obtain⟨b,c,N,rfl,B,ax,G⟩:=F.open;have K:0<N:=by rw[<-B.out];exact H
 obtain⟨X,aj,rfl,ab,C⟩:=G K;have S:=gb C;have V:=gb L;clear F G C L H;go_enter func220,ntmps220;go_wp2;go_loopw [7,10] (λv i wr=>∃j:Nat,j<=m/\i= .int .i64 j/\OI w.heap.size wr v (mq l j)/\gm w wr) (λ_ i _=>m-(intOf i).toNat)
 case atStart=>exact⟨0,ge _,rfl,OI.nil _ _,f0 _ _⟩
 case round=>
  obtain⟨j,hj,rfl,f,d⟩:=hrel;have A:=d.size;by_cases ay:j<m
  ·obtain⟨ag,E⟩:=abg (i:=j) B.out K;have D:=(d.cell (p:=⟨X,aj+j%N,none⟩) ab).trans (S.out (j%N) ag);have ar:0<=(j:Int)%N:=m7 _ Oa;have au:(j:Int)%N<N:=mO _ Oa;have U:=gb (show mq l j++[l[j%N]?.getD 0]=mq l (j+1)by rw[N4,E]);have af:(mq l j).length<=1000000000000:=(by rw[xU];omega);clear E;go_wp2_with (at_builtin;refine g8 wr _ _ 45 rfl rfl underlying45 info3 w.heap.size _ _ rfl f rfl af A ?_;intro Y c2 w1 ah ae an ao);go_roundw
   case rel=>exact⟨j+1,by omega,by go_num,ah.cast U.out,f.grown d ae A⟩
   case measure=>exact gQ
  ·obtain rfl:j=m:=(by omega);have z:=gd (ro k l j=GU (tM (k-1) (mq l j))) rfl;have ai:=V.out.round j;have az:(mq l j).length<=j:=(by rw[xU];omega);generalize mq l j=R at*;clear hj;go_wp2;go_loop [7] (λv=>∃(b:Option Addr)(n c:Nat)(r:gP),v= .slice b n c/\n<=4096/\Hid (r.length=n)/\OI w.heap.size wr (.slice b n c) r/\sS r/\Hid (tM (k-1) r=tM (k-1) R)) (λv=>match v with| .slice _ n _=>n|_=>0)
   case atStart=>
    obtain⟨b,c,e⟩:=f.len;subst e;exact⟨b,R.length,c,R,rfl,by omega,gb rfl,f,ai,gb rfl⟩
   case round=>
    obtain⟨b,n,c,r,rfl,hn,g,a,M,s⟩:=hrel;clear f;by_cases Z:n=0
    ·subst Z;obtain rfl:r=[]:=iX g.out;have T:=gd (ro k l j=[]) (by rw[z.out,<-s.out];rfl);go_wp2;go_ret;exact⟨⟨_,rfl,by rw[T.out];exact a⟩,d⟩
    have J:0<n:=Oa;obtain⟨Y,c',e,ap,aq⟩:=a.form (by rw[g.out];exact J);simp only[iU]at e;obtain⟨rfl,ad,rfl⟩:=e;clear ad;obtain⟨q,x,rfl,t,o⟩:=ag0 (l:=r) (by rw[g.out];exact J);rw[g.out]at t o;have D:=a.cell (n-1) (by grind);have am:=a.frozen (n-1);rw[gc,t]at D;have aA:=M x On;have al:=a.cap;have h:=gb o;clear t o;by_cases y:x=k-1
    ·have aa:(x==k-1)=true:=(by grind);have I:=a.take (n-1) Oa;rw[show(q++[x]).take (n-1)=q by rw[<-h.out];simp]at I;clear y;go_wp2;go_round
     case rel=>exact⟨_,n-1,_,q,rfl,by omega,h,I,λak hy=>M ak (by simp[hy]),gb (by have:=s.out;grind [YJ])⟩
     grind
    ·have aa:(x==k-1)=false:=(by grind);have W:=gd (ro k l j=(q++[x]).set (n-1) (x+1)) (by rw[z.out,<-s.out,YI _ _ _ y,<-aaf,h.out]);have O:=a.stored (n-1) (x+1);have ac:=d.grown O.2 d.size (λk' e=>by grind);clear y;go_wp2;go_ret;exact⟨⟨_,rfl,by rw[W.out];exact O.1⟩,ac⟩
theorem ac7(k n:Nat)(z:Int)(w:World)(b:1<=k)(r:0<=z)(q:z<=1000000000000000000)(l:n<=100)(h:((k^n:Nat):Int)<=z):
 Calls prog 219 #[.int .i64 k,.int .i64 n,.int .i64 z] w λe d=>e= .returned (.tuple #[.int .i64 (k^n:Nat),.bool true])/\w=d:=by
 obtain⟨ah,a⟩:∃ah,ah=k^n:=⟨_,rfl⟩;rw[<-a]at h⊢;have HR:=gb a;clear a;go_enter func219,ntmps219;go_wp2;go_loop [8,10] (λo i=>∃j p:Nat,j<=n/\i= .int .i64 j/\o= .int .i64 p/\Hid (p=k^j)) (λ_ i=>n-(intOf i).toNat)
 case atStart=>exact⟨0,1,ge _,rfl,rfl,gb rfl⟩
 case round=>
  obtain⟨j,p,g,rfl,rfl,hp⟩:=hrel;by_cases c:j<n
  ·have dO:p*k<=ah:=(by rw[hp.out,<-rq,HR.out];exact qE b c);have f:¬z/(k:Int)<p:=(by grind [wF]);exact KW
  ·exact Rq
theorem ac6(k n:Nat)(z:Int)(w:World)(f:1<=k)(g:1<=z)(A:z<=1000000000000000000)(x:n<=100)(h:z<((k^n:Nat):Int)):
 Calls prog 219 #[.int .i64 k,.int .i64 n,.int .i64 z] w λe l=>e= .returned (.tuple #[.int .i64 0,.bool false])/\w=l:=by
 obtain⟨r,a⟩:∃r,r=k^n:=⟨_,rfl⟩;rw[<-a]at h;have HR:=gb a;clear a;go_enter func219,ntmps219;go_wp2;go_loop [8,10] (λo i=>∃j p:Nat,j<=n/\i= .int .i64 j/\o= .int .i64 p/\Hid (p=k^j)/\(p:Int)<=z) (λ_ i=>n-(intOf i).toNat)
 case atStart=>exact⟨0,1,ge _,rfl,rfl,gb rfl,g⟩
 case round=>
  obtain⟨j,p,t,rfl,rfl,hp,y⟩:=hrel;by_cases v:j<n
  ·by_cases c:z/(k:Int)<p
   ·exact KN
   ·have b:((p*k:Nat):Int)<=z:=(by rw[wF f]at c;omega);have d:((p*k:Nat):Int)=p*k:=On;have q:(p:Int)*k<=1000000000000000000:=Oa;have s:0<=(p:Int)*k:=lG Oa Oa;have H4:=gb b;clear b d;exact Mk
  ·exfalso;obtain rfl:j=n:=Oa;obtain rfl:p=r:=DC;exact Oa
def RS(i r:Nat):Nat->Nat
 |0=>0
 |t+1=>if lg (t+1) i<=r then t+1 else RS i r t
theorem Er{i r:Nat}(hi:1<=i):∀t,lg (RS i r t) i<=r/\RS i r t<=t/\∀n,RS i r t<n->n<=t->r<lg n i
 |0=>by
  refine⟨?_,fZ _,λn a b=>by omega⟩
  grind [RS,om]
 |t+1=>by
  obtain⟨a,b,c⟩:=Er (r:=r) hi t;simp only[RS]
  grind
structure ZP(c:FuncId)(cap:Array Value)(p:Nat->Bool)(n:Nat)(w:World):Prop where
 enter:∀(args:Array Value)(w:World),(callFunc c args).run prog w= .ok (.enter c args) w
 calls:∀(x q:Nat),x<n->Calls prog c (#[.int .i64 x]++cap) (w.drewN q) λe w'=>e= .returned (.bool (p x))/\∃q2,w'=(w.drewN q).drewN q2
theorem QQ(c:FuncId)(f:Array Value)(p:Nat->Bool)(n a:Nat)(w:World)(J:n<=4611686018427387903)(e:ZP c f p n w)(z:a<=n)(l:∀x,x<a->p x=false)(k:∀x,a<=x->x<n->p x=true):
 Calls prog 270 #[.int .i64 n,.func (.func c) #[] f] w λg E=>g= .returned (.int .i64 a)/\∃ai,E=w.drewN ai:=by
 have t:=gb e.calls;have F:=e.enter;have r:=gb l;have q:=gb k;clear e l k;go_enter func270,ntmps270;go_wp2;go_loopw [5,6] (λi j wr=>∃x y ai:Nat,x<=a/\a<=y/\y<=n/\i= .int .i64 x/\j= .int .i64 y/\wr=w.drewN ai) (λi j _=>(intOf j).toNat-(intOf i).toNat)
 case atStart=>exact⟨0,n,0,ge _,z,fZ _,rfl,rfl,rfl⟩
 case round=>
  obtain⟨x,y,ai,B,C,D,rfl,rfl,rfl⟩:=hrel;by_cases K:x<y
  ·obtain⟨m,A⟩:∃m,m=(x+y)/2:=⟨_,rfl⟩;have G:x<=m/\m<y:=Oa;have H:((x:Int)+y)/2=(m:Int):=Oa;have v:=gb (t.out m ai Oa);have I:0<=(m:Int)/\(m:Int)<4611686018427387903:=Oa;clear A;go_wp2_with fail;refine v.out.mono ?_;rintro g L ⟨rfl,o,rfl⟩;cases b:p m with
   |true=>
    have d:a<=m:=by
     rcases jh m a with h|h
     ·rw[r.out m h]at b;cases b
     ·exact h
    have s:=gb b;clear b;go_wp2;go_roundw
    case rel=>exact⟨x,m,ai+o,B,d,by omega,rfl,rfl,by simp⟩
    case measure=>exact gQ
   |false=>
    have d:m<a:=by
     rcases jh m a with h|h
     ·exact h
     ·rw[q.out m h Oa]at b;cases b
    have s:=gb b;clear b;go_wp2;go_roundw
    case rel=>exact⟨m+1,y,ai+o,d,C,D,by go_num,rfl,by simp⟩
    case measure=>exact gQ
  ·obtain rfl:a=x:=(by omega);exact MG
theorem V6(n k q:Nat)(w:World)(h:sA n k q):
 Calls prog 126 #[.int .i64 n,.int .i64 k,.int .i64 q] w λe i=>e= .returned (.tuple #[.int .i64 0,.int .i64 1])/\w=i:=by
 unfold sA at h;have l:¬(n:Int)<0:=Oa;have o:¬(k:Int)<0:=Oa;by_cases a:30<n
 ·have d:(30:Int)<n:=(by omega);clear h a;exact Rj
 have d:¬(30:Int)<n:=Oa;by_cases b:n<k
 ·have f:(n:Int)<k:=(by omega);clear h a b;exact Rj
 have f:¬(n:Int)<k:=Oa;by_cases c:q<2
 ·have g:(q:Int)<2:=(by omega);clear h a b c;exact Rj
 have g:¬(q:Int)<2:=Oa;have j:(64:Int)<q:=Oa;clear h a b c;go_enter func126,ntmps126;go_wp2;go_ret2;exact⟨rfl,rfl⟩
theorem Zm(n k q:Nat)(w:World)(h:¬sA n k q):
 Calls prog 126 #[.int .i64 n,.int .i64 k,.int .i64 q] w λe w'=>e= .returned (.tuple #[.int .i64 (yD n k q),.int .i64 (qZ n k q)])/\gm w w':=by
 have V:qZ n k q=if 1000000000000000000<(Ap q n).getD k 0 then 3 else 0:=gh h;have W:yD n k q=if qZ n k q=0 then(((Ap q n).getD k 0:Nat):Int)else 0:=rfl;unfold sA at h;have ax:n<=30:=Oa;have aq:k<=n:=Oa;have af:2<=q:=Oa;have ag:q<=64:=Oa;have j1:¬(n:Int)<0:=Oa;have j2:¬(30:Int)<n:=Oa;have j3:¬(k:Int)<0:=Oa;have j4:¬(n:Int)<k:=Oa;have j5:¬(q:Int)<2:=Oa;have j6:¬(64:Int)<q:=Oa;have b:=gb (TX q);have v:=gb (abo q);have J:=gb (λH (f:H<32)=>ajj (q:=q) (i:=H) af ag f);have L:=gd (∀H,min (IntKind.i64.wrap (yF q H*q)) 1000000000000000000=yF q (H+1)) (λH=>rfl);have K:=gd (yF q 0=q) rfl;have P:=gd (∀m,Ap q (m+1)=Fa q (Ap q m) m++[1]) (λm=>rfl);have d5:=gR V W;clear V W h;generalize qZ n k q=EE at*;generalize yD n k q=XX at*;have O:=gb (OI.lit1 w.heap.size w 1 (fZ _));have E:=gb ((f0 w.heap.size w).alloc (fZ _) (.cells #[.int .i64 1] 3));go_enter func126,ntmps126;go_wp2;go_loopw [8,9,10,11,12,38] (λah _ _ _ _ d wr=>∃m:Nat,d= .int .i64 m/\m<=n/\OI w.heap.size wr ah (jj (Ap q m))/\gm w wr) (λ_ _ _ _ _ d _=>n-(intOf d).toNat)
 case atStart=>exact⟨0,rfl,ge _,O.out,E.out⟩
 case round=>
  clear O E;obtain⟨m,rfl,hm,c,a⟩:=hrel;obtain⟨br,S,rfl,aj,ak⟩:=c.form (by rw[jw,b.out];omega);rw[jw,b.out]at c⊢;by_cases aw:m<n
  ·have ar:(m:Int)<n:=(by omega);have s:=gb (λ(w1:World)(U:OI w.heap.size w1 (.slice (some ⟨br,0,none⟩) (m+1) S) (jj (Ap q m)))(H:Nat)(f:H<m+1)=>(U.cell H (by rw[jw,b.out];exact f)).trans (by rw[mL]));have z:=gb (λH (f:H<m+1)=>Nk (v.out m) (i:=H) (by rw[b.out];exact f));have ac:=gb (P.out m);have ab:=gd (∀j,Fa q (Ap q m) (j+1)=Fa q (Ap q m) j++[Gk (yF q j) ((Ap q m).getD (j+1) 0) ((Ap q m).getD j 0)]) (λj=>rfl);have I:=gb (wi q (Ap q m));generalize Ap q m=R at*;have N:=gb c;have G:=gb (OI.lit1 (br+1) wr 1 Oa);have F:=gb (a.alloc a.size (.cells #[.int .i64 1] 3));have t:=gb (c.alloc (.cells #[.int .i64 1] 3));obtain⟨M,A⟩:∃M,m+1=M:=⟨_,rfl⟩;rw[A]at N t s z⊢;have HM:=gb A;clear c a A;go_wp2;go_loopw [9,10,11,12] (λnx pw d _ D=>∃(H j:Nat),H=j+1/\d= .int .i64 H/\H<=M/\pw= .int .i64 (yF q j)/\OI (br+1) D nx (jj (Fa q R j))/\OI w.heap.size D (.slice (some ⟨br,0,none⟩) M S) (jj R)/\gm w D) (λ_ _ d _ _=>M-(intOf d).toNat)
   case atStart=>exact⟨1,0,rfl,rfl,by have:=HM.out;omega,by rw[K.out],G.out,t.out,F.out⟩
   case round=>
    clear G F t N;obtain⟨H,j,Z,rfl,f,rfl,dh,g,a⟩:=hrel;have fa:=gb Z;clear Z;by_cases X:H<M
    ·have Y:(H:Int)<M:=(by omega);have B:=s.out wr g H X;have ae:=s.out wr g j D7;have hx:=z.out H X;have hy:=z.out j D7;have aA:(H:Int)-1=j:=D7;have ap:j<M:=Oa;obtain⟨p0,p1,p2⟩:=J.out j UN
     have ey:=gd ((if(1000000000000000000:Int)<wrap64 (yF q j*q)then 1000000000000000000 else wrap64 (yF q j*q))=yF q H) (by
      rw[<-IntWalk.i64_left,fa.out,<-L.out j,Int.min_def]
      exact Oa)
     have r:(jj (Fa q R j)).length<=1000000000000:=(by rw[jw,I.out];have:=HM.out;omega);have l:br+1<=wr.heap.size:=(g.lt br rfl).2;have HX:=gR g a;have dQ:=gd (jj (Fa q R j)++[((Gk (yF q j) (R.getD H 0) (R.getD j 0):Nat):Int)]=jj (Fa q R H)) (by rw[fa.out,ab.out j,tA]);clear g a;generalize R.getD H 0=x at*;generalize R.getD j 0=y at*;generalize yF q j=p at*;obtain⟨Q,hQ⟩:∃Q:Int,(1000000000000000000:Int).tdiv p=Q:=⟨_,rfl⟩;have ai: -1000000000000000000<=Q/\Q<=1000000000000000000:=by
      have U:=Int.natAbs_tdiv_le_natAbs (1000000000000000000:Int) p;exact Oa
     have ao:j<=30:=UN;have aB:IntKind.i64.wrap (j:Int)=(j:Int):=iE _ Oa;have al:wr.drew.cell? ⟨br,H,none⟩=_:=B;have am:wr.drew.drew.cell? ⟨br,H,none⟩=_:=B;have an:wr.drew.drew.cell? ⟨br,j,none⟩=_:=ae;by_cases hc:(x:Int)<=Q
     ·obtain⟨ay,az⟩:=afR hx.1 p0 Oa;have av:(x:Int)*p=((x*p.toNat:Nat):Int):=(by rw[gI,Bv Oa]);have i:Gk p x y=min 1000000000000000001 (x*p.toNat+y):=(by unfold Gk;simp_all);have aa:=gd ((if((x*p.toNat:Nat):Int)+y<1000000000000000001 then((x*p.toNat:Nat):Int)+y else 1000000000000000001)=(Gk p x y:Int)) (by rw[i];split<;>omega);clear i;generalize Gk p x y=aC at*;generalize x*p.toNat=xp at*;go_wp2;go_region;go_wp2;go_region;rw[aa.out];have ep:OI (br+1) wr.drew.drew u9 (jj (Fa q R j)):=dh.drewN 2;have C:br+1<=wr.drew.drew.heap.size:=l;go_wp2_with (at_builtin;refine g8 wr.drew.drew _ _ 45 rfl rfl underlying45 info3 (br+1) _ _ rfl ep rfl r C ?_;intro T c7 o aD au aI aU);have au:wr.drew.drew.grownBy o u9.ownBlock:=au;have cr:=(HX.out.1.drewN 2).kept au (.inr (λe=>Qz));have aG:=(gM HX.out.2 2).grown au (gM HX.out.2 2).size (λk e=>QI);exact Ms
     ·have i:Gk p x y=1000000000000000001:=(by unfold Gk;rw[gh Oa]);rw[i]at dQ;clear i;have ep:OI (br+1) wr.drew u9 (jj (Fa q R j)):=dh.drewN 1;have C:br+1<=wr.drew.heap.size:=l;go_wp2;go_region;go_wp2_with (at_builtin;refine g8 wr.drew _ _ 45 rfl rfl underlying45 info3 (br+1) _ _ rfl ep rfl r C ?_;intro T c7 o aD au aI aU);have au:wr.drew.grownBy o u9.ownBlock:=au;have cr:=(HX.out.1.drewN 1).kept au (.inr (λe=>Qz));have aG:=(gM HX.out.2 1).grown au (gM HX.out.2 1).size (λk e=>QI);exact Ms
    ·obtain rfl:H=M:=(by omega);have Y:¬(H:Int)<H:=Oa;have r:(jj (Fa q R j)).length<=1000000000000:=(by rw[jw,I.out];have:=fa.out;have:=HM.out;omega);have l:w.heap.size<=wr.heap.size:=a.size;have HX:=gb a;have ep:=dh.mono (show w.heap.size<=br+1 by omega)
     have dQ:=gd (jj (Fa q R j)++[(1:Int)]=jj (Ap q (m+1))) (by
      rw[ac.out,show m=j by have:=fa.out;have:=HM.out;omega]
      simp[jj])
     clear g a dh;go_wp2_with (at_builtin;refine g8 wr _ _ 45 rfl rfl underlying45 info3 w.heap.size _ _ rfl ep rfl r l ?_;intro T c7 o aD au aI aU);have au:wr.grownBy o u9.ownBlock:=au;have aG:=HX.out.grown au l (λk e=>(ep.lt k e).1);have HY:=gR (aD.cast dQ.out) aG;clear aD au aI aU aG ep HX;go_roundw
     case rel=>exact⟨m+1,by go_num,by omega,HY.out.1,HY.out.2⟩
     case measure=>exact gQ
  ·obtain rfl:m=n:=(by omega);have Y:¬(m:Int)<m:=Oa;have B:=(c.cell k (by rw[jw,b.out];omega)).trans (by rw[mL]);have hx:=Nk (v.out m) (i:=k) (by rw[b.out];omega);have HB:=gb a;clear a c b v J L K P;generalize (Ap q m).getD k 0=x at*;by_cases hc:1000000000000000000<x
   ·have ad:(1000000000000000000:Int)<x:=(by omega);exact Py
   ·have ad:¬(1000000000000000000:Int)<x:=(by omega);exact Px
theorem z8(t:Nat): -1<=dT t/\dT t<=1000000000000000000:=by grind [dT]
theorem tK(a b:Int)(r: -1<=a/\a<=1000000000000000000)(s: -1<=b/\b<=1000000000000000000)(w:World):
 Calls prog 168 #[.int .i64 a,.int .i64 b] w λf o=>f= .returned (.int .i64 (Cm a b))/\w=o:=by
 by_cases g:a<0
 ·have HR:=gd (Cm a b= -1) (gl (.inl g));exact Ps
 by_cases h:b<0
 ·have HR:=gd (Cm a b= -1) (gl (.inr h));exact Ps
 have c:=gd (Cm a b=if 0<b/\Int.tdiv 1000000000000000000 b<a then-1 else a*b) (gh Oa);obtain⟨x,rfl⟩:=jW (show 0<=a by omega);obtain⟨y,rfl⟩:=jW (show 0<=b by omega);have k:Int.tdiv 1000000000000000000 (y:Int)=((1000000000000000000/y:Nat):Int):=(iS _ _).symm;rw[k]at c;have t:1000000000000000000/y<=1000000000000000000:=jg _ _;have l:(x:Int)*y=((x*y:Nat):Int):=(gI _ _).symm;rw[l]at c;by_cases i:y=0
 ·subst i;have HR:=gd (Cm (x:Int) 0=0) (by unfold Cm;omega);have n:(x:Int)*0=0:=Gb _;exact Ps
 have p:(0:Int)<y:=Oa;have e:(1000000000000000000/y<x)↔(1000000000000000000<x*y):=jR Oa;generalize 1000000000000000000/y=d at*;generalize x*y=z at*;by_cases q:d<x
 ·have j:(d:Int)<x:=(by omega);have HR:=gd (Cm x y= -1) (by rw[c.out,gl Oa]);clear e;exact Ps
 ·have j:¬(d:Int)<x:=(by omega);have n:z<=1000000000000000000:=Oa;have HR:=gd (Cm x y=(z:Int)) (by rw[c.out,gh Oa]);clear e;exact Ps
def TV(q m:Nat)(j:Nat):gP:=(List.range j).map λi=>dT (gT q m i)
theorem abe(q m j:Nat):TV q m j++[dT (gT q m j)]=TV q m (j+1):=by grind [TV,List.range_succ]
theorem afN(q m j:Nat):(TV q m j).length=j:=by simp[TV]
theorem afM{q m j i:Nat}(h:i<j):(TV q m j).getD i 0=dT (gT q m i):=by
 grind [TV]
theorem Nb(n k q:Nat)(w:World)(hn:n<=30)(hk:k<=n)(aK:2<=q)(hq:q<=64):
 Calls prog 80 #[.int .i64 n,.int .i64 k,.int .i64 q] w λe w'=>e= .returned (.int .i64 (dT (gT q n k)))/\gm w w':=by
 have H:=gb (λ(ai aj:Int) ha J (D:World)=>tK ai aj ha J D);have g:=gb z8;have af:=gb (λm j (h:j<=m+1)=>afi (q:=q) Oa (m:=m) (j:=j) h);have ad:=gb (abe q);have cf:=gb (afN q);have F:=gb (λm j i (h:i<j)=>afM (q:=q) (m:=m) h)
 have HP:=gd (∀j,Cm (dT (q^j)) (q:Int)=dT (q^(j+1))) (λj=>by
  rw[mS,<-Jv (my _ _ Oa) (show 1<=q by omega),sw (t:=q) Oa])
 have aa:=gd (dT (q^0)=1) rfl;have ac:=gd (TV q 0 1=[1]) rfl;have HL:=gb (OI.lit1 w.heap.size w 1 (fZ _));have HB:=gb ((f0 w.heap.size w).alloc (fZ _) (.cells #[.int .i64 1] 3));have ax: -1<=(q:Int)/\(q:Int)<=1000000000000000000:=Oa;go_enter func80,ntmps80;go_wp2;go_loopw [7,8,9,10,11,12,13,14] (λrv C _ _ _ _ _ _ wr=>∃m:Nat,C= .int .i64 ((m+1:Nat):Int)/\m<=n/\OI w.heap.size wr rv (TV q m (m+1))/\gm w wr) (λ_ C _ _ _ _ _ _ _=>n+1-(intOf C).toNat)
 case atStart=>exact⟨0,rfl,ge _,HL.out.cast ac.out.symm,HB.out⟩
 case round=>
  obtain⟨m,rfl,hm,ho,J⟩:=hrel;obtain⟨br,Q,rfl,aF,aG⟩:=ho.form Sr;rw[cf.out]at ho⊢;obtain⟨M,p⟩:∃M,m+1=M:=⟨_,rfl⟩;rw[p]at ho⊢;have HM:=gb p;by_cases av:M<=n
  ·have au:(M:Int)<=n:=(by omega);have K:=gR ho J;have E:=gb (λ(D:World)(a:OI w.heap.size D (.slice (some ⟨br,0,none⟩) M Q) (TV q m M))(i:Nat)(T:i<M)=>(a.cell i (by rw[cf.out];exact T)).trans (by rw[F.out m M i T]));clear ho J p;obtain⟨P,am⟩:∃P,P=wr:=⟨_,rfl⟩;subst am;go_wp2;go_loopw [9,10,11,12,13,14] (λnv pv B _ _ _ wr=>∃j:Nat,B= .int .i64 j/\j<=M+1/\pv= .int .i64 (dT (q^j))/\OI (br+1) wr nv (TV q M j)/\OI w.heap.size wr (.slice (some ⟨br,0,none⟩) M Q) (TV q m M)/\gm w wr) (λ_ _ B _ _ _ _=>M+1-(intOf B).toNat)
   case atStart=>exact⟨0,rfl,ge _,by rw[aa.out],OI.nil _ _,K.out.1,K.out.2⟩
   case round=>
    obtain⟨j,rfl,hj,rfl,dh,X,r⟩:=hrel;have az:br+1<=wr.heap.size:=(X.lt br rfl).2;by_cases aI:j<=M
    ·have ap:(j:Int)<=M:=(by omega);have V:=g.out (q^j)
     have d:=gd ((if 0<=(if j<M then Cm (dT (q^j)) (dT (gT q m j))else 0)/\0<=(if 0<j then dT (gT q m (j-1))else 0)/\(if j<M then Cm (dT (q^j)) (dT (gT q m j))else 0)+(if 0<j then dT (gT q m (j-1))else 0)<=1000000000000000000 then(if j<M then Cm (dT (q^j)) (dT (gT q m j))else 0)+(if 0<j then dT (gT q m (j-1))else 0)else-1)=dT (gT q M j)) (by
      have:=af.out m j UN
      rwa [HM.out]at this)
     have ab:=gb (HP.out j);have I:=gb (H.out (dT (q^j)) q V ax);have ag:=gb (H.out (dT (q^j)) (dT (gT q m j)) V (g.out _))
     have N:=gd (-1<=(if j<M then Cm (dT (q^j)) (dT (gT q m j))else 0)/\(if j<M then Cm (dT (q^j)) (dT (gT q m j))else 0)<=1000000000000000000) (by
      split
      ·rename_i h;rw[Jv (my _ _ Oa) (xy Oa m j UN)];exact g.out _
      ·exact Oa)
     have aC:=g.out (gT q m (j-1));rw[ab.out]at I;have aq:(TV q M j).length<=1000000000000:=Sr;have G:=gb (ad.out M j);have HZ:=ju dh X r;clear r;obtain⟨x,z⟩:∃x,(if j<M then Cm (dT (q^j)) (dT (gT q m j))else 0)=x:=⟨_,rfl⟩;rw[z]at d N;have L:=gb z;clear z;obtain⟨y,A⟩:∃y,(if 0<j then dT (gT q m (j-1))else 0)=y:=⟨_,rfl⟩;rw[A]at d;have aN: -1<=y/\y<=1000000000000000000:=Oa;have O:=gb A;clear A aC;obtain⟨s,Y⟩:∃s,dT (gT q M j)=s:=⟨_,rfl⟩;rw[Y]at d G;clear Y;go_upto_if 28 with fail;go_cut [12]from 26 to 34 (λaD wc=>aD= .int .i64 x/\wr=wc)
     case first=>
      by_cases a:j<M
      ·have al:(j:Int)<M:=(by omega);have aV:=E.out wr HZ.out.2.1 j a;have b:=L.out;rw[gl a]at b;have ah:=gb b;clear b a;go_wp2_with fail;refine(ag.out wr).mono ?_;rintro e w2 ⟨rfl,rfl⟩;go_wp2_with fail;go_meet
       case rel=>exact⟨by rw[ah.out],rfl⟩
      ·have al:¬(j:Int)<M:=(by omega);have b:=L.out;rw[gh a]at b;clear a;subst b;exact Qg
     case rest=>
      obtain⟨rfl,aA⟩:=hcut;subst aA;go_upto_if 36 with fail;go_cut [13]from 35 to 41 (λaE wd=>aE= .int .i64 y/\wr=wd)
      case first=>
       by_cases l:0<j
       ·have ak:(0:Int)<j:=(by omega);have aV:=E.out wr HZ.out.2.1 (j-1) Oa;have aL:(j:Int)-1=((j-1:Nat):Int):=Oa;have aH:j-1<M:=Oa;have c:=O.out;rw[gl l]at c;rw[c]at aV;generalize j-1=j1 at*;clear l c;exact Qg
       ·have ak:¬(0:Int)<j:=(by omega);have c:=O.out;rw[gh l]at c;clear l;subst c;exact Qg
      case rest=>
       obtain⟨rfl,aB⟩:=hcut;subst aB;have aM:=N.out;have ay:(0<=x/\0<=y/\x+y<=1000000000000000000/\s=x+y)\/(0<=x/\0<=y/\¬x+y<=1000000000000000000/\s= -1)\/(0<=x/\¬0<=y/\s= -1)\/(¬0<=x/\s= -1):=by
        have h:=d.out;exact Oa
       rcases ay with⟨a,R,h3,f⟩|⟨a,R,h3,f⟩|⟨a,R,f⟩|⟨a,f⟩
       all_goals
        have ae:=gb f;clear f d;go_wp2_with (at_builtin;refine g8 wr _ _ 45 rfl rfl underlying45 info3 (br+1) _ _ rfl dh rfl aq az ?_;intro g7 c7 w4 U v an ao);have W:=HZ.out.2.1.kept v (.inr (λe=>Qw));have S:=HZ.out.2.2.grown v HZ.out.2.2.size (λk e=>QG);have o:=ju (U.cast (l':=TV q M (j+1)) (by rw[<-G.out,ae.out])) W S;clear U v an ao W S dh HZ;go_wp2_with fail;refine(I.out w4).mono ?_;rintro e w5 ⟨rfl,rfl⟩;go_wp2;go_roundw
        case rel=>exact⟨j+1,by go_num,by omega,rfl,o.out.1,o.out.2.1,o.out.2.2⟩
        case measure=>exact gQ
    ·obtain rfl:j=M+1:=(by omega);have ap:¬((M+1:Nat):Int)<=M:=Oa;have ar:=dh.mono (show w.heap.size<=br+1 by omega);go_wp2;go_roundw
     case rel=>exact⟨M,by go_num,av,ar,r⟩
     case measure=>exact gQ
  ·have au:¬(M:Int)<=n:=(by omega);have aw:m=n:=Oa;have aV:=(ho.cell k Sr).trans (by rw[F.out m M k Oa]);rw[aw]at aV;have aJ:k<M:=Oa;have HB:=gb J;obtain⟨Z,hz⟩:∃Z,dT (gT q n k)=Z:=⟨_,rfl⟩;exact Uv
def FD(m:Nat)(j:Nat):gP:=(List.range j).map λi=>((lg m i:Nat):Int)
theorem acZ(m j:Nat):FD m j++[((lg m j:Nat):Int)]=FD m (j+1):=by grind [FD,List.range_succ]
theorem agD(m j:Nat):(FD m j).length=j:=by simp[FD]
theorem agC{m j i:Nat}(h:i<j):(FD m j).getD i 0=((lg m i:Nat):Int):=by
 grind [FD]
theorem Z1{m i:Nat}(a:m<=30)(hi:i<=m):lg m i<=155117520:=Wv (n:=m) (by
 have:∀m,m<31->(tD m).all (λx=>decide (x<=155117520))=true:=OH
 grind) i hi
theorem WC(n i:Nat)(w:World)(hn:n<=30)(hi:i<=n):
 Calls prog 171 #[.int .i64 n,.int .i64 i] w λe w'=>e= .returned (.int .i64 (lg n i:Nat))/\gm w w':=by
 have A:=gb (λm j I t=>Z1 (m:=m) (i:=j) I t);have F:=gb acZ;have cf:=gb agD;have C:=gb (λm j i (X:i<j)=>agC (m:=m) X);have U:=gd (FD 0 1=[1]) rfl;have V:=gd (∀m,FD m 1=[1]) (λm=>by grind [FD,mC]);have S:=gd (∀m j,lg (m+1) (j+1)=lg m j+lg m (j+1)) (λm j=>rfl);have R:=gb vM;have T:=gb (OI.lit1 w.heap.size w 1 (fZ _));have HB:=gb ((f0 w.heap.size w).alloc (fZ _) (.cells #[.int .i64 1] 3));have al:¬(i:Int)<0:=Oa;have am:¬(n:Int)<i:=Oa;go_enter func171,ntmps171;go_wp2;go_loopw [5,6,7,8] (λrv x _ _ wr=>∃m:Nat,x= .int .i64 ((m+1:Nat):Int)/\m<=n/\OI w.heap.size wr rv (FD m (m+1))/\gm w wr) (λ_ x _ _ _=>n+1-(intOf x).toNat)
 case atStart=>exact⟨0,rfl,ge _,T.out.cast U.out.symm,HB.out⟩
 case round=>
  obtain⟨m,rfl,I,ho,J⟩:=hrel;obtain⟨br,G,rfl,ah,ai⟩:=ho.form Sr;rw[cf.out]at ho⊢;obtain⟨M,q⟩:∃M,m+1=M:=⟨_,rfl⟩;rw[q]at ho⊢;have HM:=gb q;by_cases ae:M<=n
  ·have ad:(M:Int)<=n:=(by omega);have B:=gb (λ(w1:World)(Y:OI w.heap.size w1 (.slice (some ⟨br,0,none⟩) M G) (FD m M))(i:Nat)(hi:i<M)=>(Y.cell i (by rw[cf.out];exact hi)).trans (by rw[C.out m M i hi]));have D:=gb ((OI.lit1 (br+1) wr 1 Oa).cast (V.out M).symm);have z:=gb (J.alloc J.size (.cells #[.int .i64 1] 3));have E:=gb (ho.alloc (.cells #[.int .i64 1] 3));clear ho J q;go_wp2;go_loopw [7,8] (λnv v y=>∃j:Nat,v= .int .i64 ((j+1:Nat):Int)/\j+1<=M/\OI (br+1) y nv (FD M (j+1))/\OI w.heap.size y (.slice (some ⟨br,0,none⟩) M G) (FD m M)/\gm w y) (λ_ v _=>M-(intOf v).toNat)
   case atStart=>exact⟨0,rfl,by have:=HM.out;omega,D.out,E.out,z.out⟩
   case round=>
    clear D z E;obtain⟨j,rfl,t,dh,g,l⟩:=hrel;have ag:br+1<=wr.heap.size:=(g.lt br rfl).2;obtain⟨a,p⟩:∃a,j+1=a:=⟨_,rfl⟩;rw[p]at t dh⊢;have HJ:=gb p;clear p;have H:(FD M a).length<=1000000000000:=Sr;by_cases ab:a<M
    ·have ac:(a:Int)<M:=(by omega);have Z:=B.out wr g j Ks;have aa:=B.out wr g a ab;have hx:=A.out m j Oa (by have:=HM.out;have:=HJ.out;omega);have hy:=A.out m a Oa UN;have an:j<M:=Ks;have ap:(a:Int)-1=j:=Ks;have aq:IntKind.i64.wrap (j:Int)=(j:Int):=iE _ Oa
     have o:=gd (FD M a++[((lg m j:Nat):Int)+((lg m a:Nat):Int)]=FD M (a+1)) (by
      rw[<-F.out M a,<-HM.out,<-HJ.out,S.out m j,R8])
     have aj:wr.drew.cell? ⟨br,j,none⟩=_:=Z;have ak:wr.drew.cell? ⟨br,a,none⟩=_:=aa;have h:=gR g l;clear g l;generalize lg m j=O at*;generalize lg m a=P at*;have hw:IntKind.i64.wrap ((O:Int)+P)=(O:Int)+P:=iE _ Oa;go_wp2;go_region_law (refine Yt wr _ _ 45 rfl rfl underlying45 info3 (br+1) _ _ rfl dh rfl H ag ?_;intro W c7 w4 f c r s)
     all_goals
      have L:=h.out.1.kept c (.inr (λe=>Qw));have d:=h.out.2.grown c h.out.2.size (λk e=>QG);have b:=ju (f.cast o.out) L d;clear f c r s L d dh h;go_wp2;go_roundw
      case rel=>exact⟨a,by go_num,by omega,b.out.1,b.out.2.1,b.out.2.2⟩
      case measure=>exact gQ
    ·obtain rfl:a=M:=(by omega);have ac:¬(a:Int)<a:=Oa;have K:=dh.mono (show w.heap.size<=br+1 by omega);have N:=l.size;have o:=gd (FD a a++[1]=FD a (a+1)) (by rw[<-F.out a a,R.out];rfl);go_wp2_with (at_builtin;refine g8 wr _ _ 45 rfl rfl underlying45 info3 w.heap.size _ _ rfl K rfl H N ?_;intro W c7 w4 f c r s);have d:=K.grown l c N;have b:=gR (f.cast o.out) d;clear f c r s d;go_roundw
     case rel=>exact⟨a,by go_num,ae,b.out.1,b.out.2⟩
     case measure=>exact gQ
  ·have ad:¬(M:Int)<=n:=(by omega);have af:m=n:=Oa;have aV:=(ho.cell i Sr).trans (by rw[C.out m M i Oa]);rw[af]at aV;have ao:i<M:=Oa;have HB:=gb J;obtain⟨Q,hz⟩:∃Q,lg n i=Q:=⟨_,rfl⟩;exact Uv
theorem agF(k a:Nat){i j:Nat}(h:i<=j):rS k a i<=rS k a j:=by
 have:=ahO k a (i:=i) (j-i)
 grind
theorem ade(k s t:Nat)(w:World)(am:1<=k)(W:k<=30)(ap:2<=s)(hs:s<=64)(ht:t<=k):
 Calls prog 85 #[.int .i64 k,.int .i64 s,.int .i64 t] w λe f=>e= .returned (.int .i64 (dT (rT k s t)))/\gm w f:=by
 obtain⟨a,ha⟩:∃a,s-1=a:=⟨_,rfl⟩;have aq:(s:Int)-1=a:=Oa;have U:∀n i,n<=30->i<=n->1<=sn n i/\sn n i<=155117520:=λn i g d=>⟨(VR n Oa i d).2,by rw[<-VQ g d];exact Z1 g d⟩
 have K:=gb (λ(n i:Nat)(b:World)(g:n<=30)(d:i<=n)(P:gm w b)=>(show Calls prog 171 #[.int .i64 n,.int .i64 i] b λe f=>e= .returned (.int .i64 (sn n i:Nat))/\gm w f from by
  have l:=WC n i b g d;rw[VQ g d]at l
  exact l.mono λe f ⟨e1,e2⟩=>⟨e1,P.trans (e2.mono P.size)⟩))
 have M:=gb (λ(n i q:Nat)(b:World)(g:n<=30)(d:i<=n)=>(show Calls prog 168 #[.int .i64 (dT (a^q)),.int .i64 (sn n i:Nat)] b λe f=>e= .returned (.int .i64 (dT (a^q*sn n i)))/\b=f from by
  obtain⟨g1,g2⟩:=U n i g d;rw[<-Jv (my _ _ Oa) g1,sw (t:=sn n i) Oa]
  exact tK _ _ (z8 _) Oa b))
 have af:=gb (λ(q:Nat)(b:World)=>(show Calls prog 168 #[.int .i64 (dT (a^q)),.int .i64 (a:Nat)] b λe f=>e= .returned (.int .i64 (dT (a^(q+1))))/\b=f from by
  rw[mS,<-Jv (my _ _ Oa) (show 1<=a by omega),sw (t:=a) Oa]
  exact tK _ _ (z8 _) Oa b))
 have hh:t/2<=15/\t/2<=k/\(t%2=1->t/2<=k-1):=Oa;have ae:=gd (∀i,rS k a (i+1)=rS k a i+a^i*sn k i) (λi=>rfl)
 have Y:=gd (∀i,i<=t/2+1->1000000000000000000<rS k a i->dT (rT k s t)= -1) (λi V l=>by
  have d:=agF k a V
  grind [qz,rT])
 have aa:=gd (¬t%2=1->rT k s t=rS k a (t/2+1)) (λl=>by unfold rT;grind);have ab:=gd (t%2=1->rT k s t=rS k a (t/2+1)+a^(t/2+1)*sn (k-1) (t/2)) (λl=>by unfold rT;grind);have r:=gb (λI=>sw (t:=I));have A:=gb (λI=>qz (t:=I));have ac:=gd (dT (a^0)=1) rfl;have ak:(t:Int).tdiv 2=((t/2:Nat):Int):=(iS _ _).symm;have ao:(t:Int).tmod 2=((t%2:Nat):Int):=(gO _ _).symm;have an:(k:Int)-1=((k-1:Nat):Int):=Oa;clear U ha;generalize hZ:dT (rT k s t)=Z at*;replace hZ:=gb hZ;generalize hT:rT k s t=T at*;generalize hH:t/2=H at*;generalize hO:t%2=O at*;have L:=gd (rS k a 0=0) rfl;clear hH hO hT;generalize rS k a=S at*;go_enter func85,ntmps85;go_wp2;go_loopw [7,8,9,10,11] (λuv pv G _ _ wr=>∃i:Nat,G= .int .i64 i/\i<=H+1/\uv= .int .i64 (S i:Nat)/\S i<=1000000000000000000/\pv= .int .i64 (dT (a^i))/\gm w wr) (λ_ _ G _ _ _=>H+1-(intOf G).toNat)
 case atStart=>exact⟨0,rfl,ge _,by rw[L.out];rfl,by rw[L.out];omega,by rw[ac.out],f0 _ _⟩
 case round=>
  obtain⟨i,rfl,V,rfl,hu,rfl,R⟩:=hrel;have z:=gb R;clear R;by_cases al:i<=H
  ·have ag:(i:Int)<=H:=(by omega);have j:=gb (K.out k i wr W Oa z.out);have D:=gb (λb=>M.out k i i b W Oa);have ad:=gb (af.out i);have eG:=gb (ae.out i);have J:=gb (Y.out (i+1) Oa);generalize hX:a^i*sn k i=X at*;have C:=gb (r.out X);have B:=gb (A.out X);clear hX;go_wp2_with fail;refine j.out.mono ?_;rintro e y ⟨rfl,p⟩;have aT:=gb p;clear p j;go_wp2_with fail;refine(D.out y).mono ?_;rintro e w3 ⟨rfl,rfl⟩;generalize ah:S i=c at*;generalize x:S (i+1)=u1 at*;have N:=gb x;clear ah x;by_cases o:X<=1000000000000000000
   ·rw[C.out o];have ai:¬(X:Int)<0:=Oa;by_cases h:c+X<=1000000000000000000
    ·have F:¬(1000000000000000000:Int)<c+X:=(by omega);have HU:=gd ((c:Int)+X=u1) Kg;have x:u1<=1000000000000000000:=(by rw[eG.out];exact h);clear h;go_wp2_with fail;refine(ad.out y).mono ?_;rintro e w4 ⟨rfl,rfl⟩;go_wp2;go_roundw
     case rel=>exact⟨i+1,by go_num,by omega,by rw[HU.out,N.out],by rw[N.out];exact x,rfl,aT.out⟩
     case measure=>exact gQ
    ·have F:(1000000000000000000:Int)<c+X:=(by omega);have HZ:=gb (J.out Kg);clear h;exact DT
   ·rw[B.out Oa];have HZ:=gb (J.out Kg);clear o;exact DT
  ·obtain rfl:i=H+1:=(by omega);have ag:¬((H+1:Nat):Int)<=H:=Oa;by_cases v:O=1
   ·have bw:=gb (ab.out v);have Q:(O:Int)=1:=Oa;have j:=gb (K.out (k-1) H wr Oa Oa z.out);have D:=gb (λb=>M.out (k-1) H (H+1) b Oa Oa);generalize S (H+1)=c at*;generalize a^(H+1)*sn (k-1) H=X at*;have C:=gb (r.out X);have B:=gb (A.out X);have E:=gb (r.out T);have fq:=gb (A.out T);generalize k-1=k1 at*;clear v;go_wp2_with fail;refine j.out.mono ?_;rintro e y ⟨rfl,p⟩;have aT:=gb p;clear p j;go_wp2_with fail;refine(D.out y).mono ?_;rintro e w3 ⟨rfl,rfl⟩;by_cases o:X<=1000000000000000000
    ·rw[C.out o];have ai:¬(X:Int)<0:=Oa;by_cases h:c+X<=1000000000000000000
     ·have F:¬(1000000000000000000:Int)<c+X:=(by omega);have bo:=gd (Z=(c:Int)+X) (by rw[<-hZ.out,E.out (by rw[bw.out];exact h),bw.out];omega);clear h;exact Um
     ·have F:(1000000000000000000:Int)<c+X:=(by omega);have bo:=gd (Z= -1) DL;clear h;exact Um
    ·rw[B.out Oa];have bo:=gd (Z= -1) DL;clear o;exact Um
   ·have bw:=gb (aa.out v);have Q:¬(O:Int)=1:=Oa;have aj:((O:Int)==1)=false:=gL.2 Q;have E:=gb (r.out T);generalize S (H+1)=c at*;have bo:=gd (Z=(c:Int)) (by rw[<-hZ.out,E.out (by rw[bw.out];exact hu),bw.out]);clear v;go_wp2;go_ret;exact⟨by rw[bo.out];rfl,z.out⟩
def SmK(k:Int)(l:gP):Prop:=∀x∈l,0<=x/\x<=k-1
theorem SmK.small{k:Int}{l:gP}(h:SmK k l)(b:k<=10):sS l:=λx a=>by have:=h x a;omega
theorem SmK.round{k:Int}{l:gP}(h:SmK k l)(c:1<=k)(m:Nat):SmK k (mq l m):=by
 intro x a;simp only[mq,gK]at a;obtain⟨i,_,rfl⟩:=a;rw[gc];cases b:l[i%l.length]? with
 |none=>simp;omega
 |some y=>simpa using h y (nT b)
theorem Ju{x y:Int}{l:gP}(h:y∈tM x l):y∈l:=by
 simp only[tM,List.mem_reverse]at h
 grind [List.dropWhile_sublist]
theorem ad7{x:Int}{l r:gP}{y:Int}(h:tM x l=r++[y]):y≠x:=by
 have a:(l.reverse.dropWhile (·==x))=y::r.reverse:=by
  have:=jA List.reverse h
  grind [tM]
 grind [List.head?_dropWhile_not]
theorem SmK.next{k:Int}{l:gP}(h:SmK k l)(c:1<=k)(m:Nat):SmK k (ro k l m):=by
 unfold ro;have b:=h.round c m;generalize mq l m=R at*;cases d:(tM (k-1) R).reverse with
 |nil=>
  have:GU (tM (k-1) R)=[]:=(by unfold GU;rw[d]);rw[this];intro x a;simp at a
 |cons y r=>
  have e:tM (k-1) R=r.reverse++[y]:=OK;have g:=ad7 e;rw[e,Cz];intro x a;rcases li.1 a with a|a
  ·exact b x (Ju (by rw[e];simp[a]))
  ·have f:=b y (Ju (x:=k-1) (by grind))
   grind
theorem XH(k:Int)(l:gP)(m:Nat):(ro k l m).length<=m:=by
 grind [ro,GU,tM,xU,List.dropWhile_sublist]
theorem GS{k:Int}{n:Nat}:∀{f:Nat}{w out R:gP},vP k n f w out=some R->out.length<=R.length
 |0,_,_,_,h=>Sb
 |f+1,w,out,R,h=>by
  simp only[vP]at h;split at h
  ·grind
  ·have:=GS h
   grind
theorem uY(k all:Nat):∀(f code seen:Nat)(out:gP),(mF k all f code seen out).length<=out.length+f
 |0,_,_,out=>by simp[mF]
 |f+1,code,seen,out=>by
  simp only[mF];split
  ·rename_i x _;have:=uY k all f ((code*k+x)%all) (seen|||2^((code*k+x)%all)) ((x:Int)::out)
   grind
  ·have:=uY k all f code seen out;exact Oa
theorem tV{k n:Nat}(h:k^n<=4096):(nM k n).length<=4096:=by
 grind [nM,uY]
theorem Ew(k n:Int)(w:World)(h:k<1\/10<k\/n<1):
 Calls prog 137 #[.int .i64 k,.int .i64 n] w λe a=>e= .returned (.tuple #[.slice none 0 0,.int .i64 1])/\w=a:=by
 by_cases b:k<1
 ·exact SF
 by_cases c:10<k
 ·exact SF
 ·have d:n<1:=(by omega);exact SF
theorem Gt(k n:Int)(w:World)(b:1<=k)(c:k<=10)(h:12<n):
 Calls prog 137 #[.int .i64 k,.int .i64 n] w λe a=>e= .returned (.tuple #[.slice none 0 0,.int .i64 3])/\w=a:=by
 go_enter func137,ntmps137;go_wp2
 all_goals (go_ret2;exact⟨rfl,rfl⟩)
theorem Gs(k n:Nat)(w:World)(b:1<=k)(c:k<=10)(d:1<=n)(f:n<=12)(h:4096<k^n):
 Calls prog 137 #[.int .i64 k,.int .i64 n] w λe a=>e= .returned (.tuple #[.slice none 0 0,.int .i64 3])/\w=a:=by
 have ao:=gb h;clear h;go_enter func137,ntmps137;go_wp2_with fail;refine(ac6 k n _ w b Oc Oc Oa Kf).mono ?_;rintro e a ⟨rfl,rfl⟩;go_wp2;go_ret2;exact⟨rfl,rfl⟩
theorem V0(k n:Nat)(w:World)(G:1<=k)(P:k<=10)(Q:1<=n)(S:n<=12)(h:k^n<=4096):
 Calls prog 137 #[.int .i64 k,.int .i64 n] w λl E=>(∃t,l= .returned (.tuple #[t,.int .i64 0])/\OI w.heap.size E t (nM k n))/\gm w E:=by
 have ao:=gb h;have O:=gb (aiw G P Q S h);have Z:=tV h;generalize nM k n=R at*;clear h;go_enter func137,ntmps137;go_wp2_with fail;refine(ac7 k n _ w G Oc Oc Oa Kf).mono ?_;rintro l E ⟨rfl,rfl⟩;go_wp2;go_loopg [8,9] 5000 (λo M X wr=>∃(i:Option Addr)(N j:Nat)(b s:gP),X= .slice i N j/\Hid (b.length=N)/\N<=12/\OI w.heap.size wr (.slice i N j) b/\OI w.heap.size wr M s/\qq M (.slice i N j)/\Hid (vP k n o b s=some R)/\SmK k b/\gm w wr)
 case atStart=>
  refine⟨_,1,1,[0],[],rfl,gb rfl,by omega,OI.lit1 _ w 0 (fZ _),OI.nil _ _,qq.nil _,O,λx hx=> ?_,(f0 _ _).alloc (fZ _) _⟩
  grind
 case round=>
  obtain⟨i,N,j,b,s,rfl,hN,aa,A,c,H,g,C,q⟩:=hrel;have p:=q.size;cases gk with
  |zero=>exfalso;have:=g.out;cases this
  |succ o=>
   have a:=g.out;simp only[vP]at a;rw[hN.out]at a;by_cases F:N=0
   ·subst F;rw[gl rfl]at a;obtain rfl:s=R:=gG a;clear a g;go_wp2;go_ret2;exact⟨⟨_,rfl,c⟩,q⟩
   have K:0<N:=Oa;rw[gh F]at a;have B:=A.sl MJ;have ab:=XH k b n;have L:=C.next Oa n;by_cases r:n%N=0
   ·have e:(((n:Int)%N)==0)=true:=(by grind);rw[gl r]at a;have U:=GS a;rw[gz,hN.out]at U;have v:=gb a;clear a g r;go_wp2_with (at_builtin;refine nP (w:=wr) _ _ 45 3 (.int .i64 0) 8 rfl rfl underlying45 info3 rfl Oc w.heap.size _ _ _ _ rfl c rfl B U7 (by simp only[gv];rw[hN.out];omega) p ?_;intro v' w1 I z T);have J:=OI.ofApp I;have V:=A.keptA c z H;have e:=c.grown q z p;have W:=V.sl MJ;clear I A c H T z B;go_wp2_with fail;refine(ID k n _ b _ W (by rw[hN.out];exact K) (C.small Oa) Oa Oa Oa).mono ?_;rintro l Y ⟨⟨t,rfl,d⟩,f⟩;obtain⟨y,c2,D⟩:=d.len;subst D;go_wp2;go_roundg o
    case measure=>omega
    case rel=>exact⟨y,_,c2,ro k b n,_,rfl,gb rfl,by omega,d.mono e.size,J.below f,qq.fresh J d,v,L,e.trans (f.mono e.size)⟩
   ·have e:(((n:Int)%N)==0)=false:=(by grind);rw[gh r]at a;have v:=gb a;clear a g r;go_wp2_with fail;refine(ID k n _ b _ B (by rw[hN.out];exact K) (C.small Oa) Oa Oa Oa).mono ?_;rintro l Y ⟨⟨t,rfl,d⟩,f⟩;obtain⟨y,c2,D⟩:=d.len;subst D;go_wp2;go_roundg o
    case measure=>omega
    case rel=>exact⟨y,_,c2,ro k b n,_,rfl,gb rfl,by omega,d.mono p,c.below f,qq.fresh c d,v,L,q.trans (f.mono p)⟩
theorem vQ(k n:Int)(w:World)(h:k<1\/10<k\/n<1):
 Calls prog 88 #[.int .i64 k,.int .i64 n] w λe a=>e= .returned (.int .i64 1)/\w=a:=by
 by_cases b:k<1
 ·exact QF
 by_cases c:10<k
 ·exact QF
 ·have d:n<1:=(by omega);exact QF
theorem xf(k n:Int)(w:World)(b:1<=k)(c:k<=10)(h:12<n):
 Calls prog 88 #[.int .i64 k,.int .i64 n] w λe a=>e= .returned (.int .i64 3)/\w=a:=by
 go_enter func88,ntmps88;go_wp2
 all_goals (go_ret;exact⟨rfl,rfl⟩)
theorem vR(k n:Nat)(w:World)(o:1<=k)(q:k<=10)(A:1<=n)(B:n<=12):
 Calls prog 88 #[.int .i64 k,.int .i64 n] w λl y=>l= .returned (.int .i64 (if 4096<k^n then 3 else 0))/\w=y:=by
 obtain⟨r,a⟩:∃r,r=k^n:=⟨_,rfl⟩;rw[<-a];have b:=gb a;clear a;have e:=gd (4096<r->(if 4096<r then(3:Int)else 0)=3) (λh=>gl h);have f:=gd (¬4096<r->(if 4096<r then(3:Int)else 0)=0) (λh=>gh h);generalize (if 4096<r then(3:Int)else 0)=z at*;go_enter func88,ntmps88;go_wp2;go_loop [5,6] (λx i=>∃j p:Nat,j<=n/\i= .int .i64 j/\x= .int .i64 p/\Hid (p=k^j)/\p<=4096) (λ_ i=>n-(intOf i).toNat)
 case atStart=>exact⟨0,1,ge _,rfl,rfl,gb rfl,by omega⟩
 case round=>
  obtain⟨j,p,E,rfl,rfl,hp,v⟩:=hrel;by_cases t:j<n
  ·have c:p*k<=4096*10:=gE v q;have C:0<=(p:Int)*k:=lG Oa Oa;have D:(p:Int)*k<=40960:=Oa;have g:=gd (p*k=k^(j+1)) QP;by_cases d:4096<p*k
   ·have s:4096<(p:Int)*k:=by omega
    obtain rfl:=e.out (by
     rw[b.out];have:=qE (i:=j+1) (n:=n) o t;rw[<-g.out]at this
     exact Oa)
    clear c d;exact Of
   ·have s:(p:Int)*k<=4096:=(by omega);clear c d;go_wp2;go_round
    case rel=>grind
    case measure=>exact gQ
  ·obtain rfl:j=n:=(by omega);obtain rfl:=f.out (by rw[b.out,<-hp.out];omega);exact Of
def uO(all s:Nat):np:=(List.range all).map λc=> .bool (s.testBit c)
theorem Eg(all s:Nat):(uO all s).length=all:=by simp[uO]
theorem RA(all:Nat):List.replicate all (Value.bool false)=uO all 0:=by
 apply ib
 grind [uO]
theorem Ef{all s c:Nat}(h:c<all):(uO all s)[c]? =some (.bool (s.testBit c)):=by simp[uO,h]
theorem X4{all s c:Nat}(h:c<all):(uO all s).set c (.bool true)=uO all (s|||2^c):=by
 apply ib
 grind [Ef,Eg]
theorem Hw{k all f code seen x:Nat}{out:gP}:vj k all code seen (k+1) 0=some x->mF k all (f+1) code seen out=mF k all f ((code*k+x)%all) (seen|||2^((code*k+x)%all)) ((x:Int)::out):=by
 grind [mF]
theorem Hv{k all f code seen:Nat}{out:gP}:vj k all code seen (k+1) 0=none->mF k all (f+1) code seen out=mF k all f code seen out:=by
 grind [mF]
theorem ac1{k all code seen f x:Nat}(h:¬x<k):vj k all code seen f x=none:=by
 cases f with
 |zero=>rfl
 |succ f=>simp only[vj];grind
theorem XQ{k all code seen f x:Nat}(h:x<k)(a:seen.testBit ((code*k+x)%all)=true):vj k all code seen (f+1) x=vj k all code seen f (x+1):=by
 simp only[vj];grind
theorem ac2{k all code seen f x:Nat}(h:x<k)(a:seen.testBit ((code*k+x)%all)=false):vj k all code seen (f+1) x=some x:=by
 simp only[vj];grind
theorem EK(k n:Nat)(w:World)(h1:1<=k)(h2:k<=10)(h3:1<=n)(h4:n<=12)(h:k^n<=4096):
 Calls prog 89 #[.int .i64 k,.int .i64 n] w λg X=>(∃W,g= .returned W/\OI w.heap.size X W (nM k n))/\gm w X:=by
 obtain⟨all,lM⟩:∃aj,aj=k^n:=⟨_,rfl⟩;have HG:=gd (nM k n=(mF k all all (all-1) 0 []).reverse) (by rw[lM];rfl);rw[<-lM]at h;have ah:0<all:=by grind
 have J:=gb lM;clear lM;generalize nM k n=R at*;go_enter func89,ntmps89;go_wp2;go_loop [5,6] (λI i=>∃j p:Nat,j<=n/\i= .int .i64 j/\I= .int .i64 p/\Hid (p=k^j)) (λ_ i=>n-(intOf i).toNat)
 case atStart=>exact⟨0,1,ge _,rfl,rfl,gb rfl⟩
 case round=>
  obtain⟨j,p,hj,rfl,rfl,hp⟩:=hrel;by_cases O:j<n
  ·have dO:p*k<=all:=(by rw[hp.out,<-rq,J.out];exact qE h1 O);have h7:0<=(p:Int)*k:=lG Oa Oa;have h8:(p:Int)*k<=40960:=Oa;exact OE
  ·obtain rfl:j=n:=(by omega);obtain rfl:p=all:=(by rw[hp.out,J.out]);clear hp O;go_wp2_with (at_make;refine nQ (w:=w) _ _ 93 4 (.bool false) 1 rfl rfl underlying93 info4 rfl Oc w.heap.size _ p rfl rfl rfl Oa (fZ _) ?_;intro Y e N ai);have P:Ow 4 w.heap.size Y (.slice (some ⟨w.heap.size,0,none⟩) p p) (uO p 0):=(by grind [RA]);have M:gm w Y:=(f0 _ _).grown N (fZ _) (λk h=>by cases h);clear e N;go_loopw [8,9,10] (λB vo i wr=>∃(t b s:Nat)(c:gP),t<=p/\i= .int .i64 t/\B= .int .i64 b/\b<p/\OI (w.heap.size+1) wr vo c/\Ow 4 w.heap.size wr (.slice (some ⟨w.heap.size,0,none⟩) p p) (uO p s)/\Hid ((mF k p (p-t) b s c.reverse).reverse=R)/\c.length<=t/\gm w wr/\w.heap.size<wr.heap.size) (λ_ _ i _=>p-(intOf i).toNat)
   case atStart=>exact⟨0,p-1,0,[],ge _,rfl,by go_num,by omega,OI.nil _ _,P,gb HG.out.symm,by simp,M,ai⟩
   case round=>
    obtain⟨t,b,s,c,ht,rfl,rfl,ac,G,y,E,ar,l,U⟩:=hrel;clear P M;by_cases au:t<p
    ·have L:=gb (λx=>Hw (x:=x) (k:=k) (all:=p) (f:=p-t-1) (code:=b) (seen:=s) (out:=c.reverse));have K:=gb (Hv (k:=k) (all:=p) (f:=p-t-1) (code:=b) (seen:=s) (out:=c.reverse));rw[show p-t-1+1=p-t by omega]at L K;have hB:w.heap.size+1<=wr.heap.size:=U;go_wp2;go_loop [8,9,11,12] (λB I x _=>∃z:Nat,z<=k/\x= .int .i64 z/\B= .int .i64 b/\I=u9/\Hid (vj k p b s (k+1-z) z=vj k p b s (k+1) 0)) (λ_ _ x _=>k-(intOf x).toNat)
     case atStart=>exact⟨0,ge _,rfl,rfl,rfl,gb rfl⟩
     case round=>
      obtain⟨x,hx,rfl,rfl,rfl,dO⟩:=hrel;by_cases H:x<k
      ·have o:(b*k+x)%p<p:=iD _ ah;have ad:b*k<=4096*10:=gE Oa h2;have al:0<=(b:Int)*k:=lG Oa Oa;have am:(b:Int)*k<=40960:=Oa;have C:=y.cell ((b*k+x)%p) (by rw[Eg];exact o);rw[Ef o]at C;have ae:=y.frozen ((b*k+x)%p);have Q:=y.stored ((b*k+x)%p) (.bool true);rw[X4 o]at Q;obtain⟨S,T⟩:=Q;have q:OI (w.heap.size+1) (wr.setCell ⟨w.heap.size,(b*k+x)%p,none⟩ (.bool true)) u9 c:=ownsRow_setCell_below (w:=wr) G (a:=⟨w.heap.size,(b*k+x)%p,none⟩) On (.bool true);have e:=L.out x;have v:=XQ (k:=k) (all:=p) (code:=b) (seen:=s) (f:=k-x) (x:=x) H;have r:=ac2 (k:=k) (all:=p) (code:=b) (seen:=s) (f:=k-x) (x:=x) H;rw[show k-x+1=k+1-x by omega]at v r;have an:0<=((b:Int)*k+x)%(p:Int):=m7 _ Oa;have ao:((b:Int)*k+x)%(p:Int)<p:=mO _ Oa;clear ad;cases d:s.testBit ((b*k+x)%p)with
       |true=>
        rw[d]at C;have A:=gb ((v d).symm.trans dO.out);clear d v r dO e q S T ae;go_wp2;go_round
        case rel=>exact⟨x+1,by omega,by go_num,rfl,rfl,gb (by have:=A.out;simp_all)⟩
        case measure=>exact gQ
       |false=>
        rw[d]at C;have A:=gb (e (dO.out.symm.trans (r d)));have ab:=l.grown T l.size (λV g=>by simp_all);have af:c.length<=1000000000000:=Oa;have aa:w.heap.size+1<=(wr.setCell ⟨w.heap.size,(b*k+x)%p,none⟩ (.bool true)).heap.size:=OK;clear d v r dO e;go_wp2_with (at_builtin;refine g8 (wr.setCell ⟨w.heap.size,(b*k+x)%p,none⟩ (.bool true)) _ _ 45 rfl rfl underlying45 info3 (w.heap.size+1) _ _ rfl q rfl af aa ?_;intro ak c2 w2 ag D ap aq);go_roundw
        case rel=>exact⟨t+1,(b*k+x)%p,s|||2^((b*k+x)%p),c++[(x:Int)],by omega,by go_num,by simp,o,ag,S.kept_other rfl q D,gb (by have:=E.out;rw[A.out]at this;rw[show p-(t+1)=p-t-1 by omega,List.reverse_append];exact this),by simp_all,ab.grown D Oa (λV g=>by have:=(q.lt V g).1;omega),by have:=D.size;omega⟩
        case measure=>exact gQ
      ·have F:=dO.out;rw[ac1 H]at F;have HN:=gb (E.out.symm.trans (by rw[K.out F.symm]));clear F dO;go_wp2;go_roundw
       case rel=>exact⟨t+1,b,s,c,by omega,by go_num,rfl,ac,G,y,gb (by rw[HN.out,show p-t-1=p-(t+1)by omega]),by omega,l,U⟩
       case measure=>exact gQ
    ·obtain rfl:t=p:=(by omega);have Z:=gd (R=c) (by have:=E.out;rw[jU]at this;grind [mF]);go_wp2;go_ret;exact⟨⟨_,rfl,by rw[Z.out];exact G.mono Oa⟩,l⟩
def RL(w:World)(v:Value)(ll:lO):Prop:=
 ∃a c,v= .slice a ll.length c/\(ll.length<=17592186044416/\ll.length<=c)/\(0<ll.length->∃g b,a=some ⟨g,b,none⟩/\g<w.heap.size/\∀i,i<ll.length->∃d,w.cell? ⟨g,b+i,none⟩=some d/\Sl w d (ll.getD i []))
theorem RL.open{w:World}{v:Value}{ll:lO}(h:RL w v ll):∃a c N,v= .slice a N c/\Hid (ll.length=N)/\(N<=17592186044416/\N<=c)/\(0<N->∃g b,a=some ⟨g,b,none⟩/\g<w.heap.size/\∀i,i<N->∃d,w.cell? ⟨g,b+i,none⟩=some d/\Sl w d (ll.getD i [])):=by
 obtain⟨a,c,e,f,j⟩:=h;exact⟨a,c,ll.length,e,gb rfl,f,j⟩
theorem OL.rl{B U:Nat}{w:World}{v:Value}{ll:lO}(h:OL B U w v ll)(p:ll.length<=1000000000000)(f:∀i,i<ll.length->(ll.getD i []).length<=17592186044416):RL w v ll:=by
 obtain⟨n,a,s,k,l⟩:=h;obtain⟨c,d,e⟩:=a.len;subst e;refine⟨c,d,by rw[k],⟨by omega,by have:=a.cap.1;omega⟩,λr=> ?_⟩;obtain⟨g,o,e,q,j⟩:=a.form Oa;simp only[iU]at e;obtain⟨rfl,_,rfl⟩:=e;refine⟨g,0,rfl,j,λi b=> ?_⟩;refine⟨n.getD i undef,?_,(l i b).1.sl (f i b)⟩;rw[iL,a.cell i Oa]
 grind
theorem RL.below{w w':World}{v:Value}{ll:lO}(h:RL w v ll)(a:gm w w'):RL w' v ll:=by
 obtain⟨b,c,d,f,i⟩:=h;refine⟨b,c,d,f,λn=> ?_⟩;obtain⟨g,r,e,k,j⟩:=i n;have t:=a.size;refine⟨g,r,e,by omega,λq l=> ?_⟩;obtain⟨s,p,o⟩:=j q l;exact⟨s,by rw[a.cell k];exact p,o.below a⟩
section
def PR(w:World)(v:Value)(l:List (Nat×Nat)):Prop:=
 ∃a c,v= .slice a l.length c/\(l.length<=1000/\l.length<=c)/\(0<l.length->∃b,a=some ⟨b,0,none⟩/\b<w.heap.size/\∀i,i<l.length->w.cell? ⟨b,i*2,none⟩=some (.int .i64 ((l.getD i (0,0)).1:Int))/\w.cell? ⟨b,i*2+1,none⟩=some (.int .i64 ((l.getD i (0,0)).2:Int)))
theorem PR.below{w w':World}{v:Value}{l:List (Nat×Nat)}(h:PR w v l)(a:gm w w'):PR w' v l:=by
 obtain⟨f,g,k,n,o⟩:=h;refine⟨f,g,k,n,λq=> ?_⟩;obtain⟨b,j,c,d⟩:=o q;exact⟨b,j,gS c a.size,λi e=>⟨(a.cell (p:=⟨b,i*2,none⟩) c).trans (d i e).1,(a.cell (p:=⟨b,i*2+1,none⟩) c).trans (d i e).2⟩⟩
theorem PR.open{w:World}{v:Value}{l:List (Nat×Nat)}(h:PR w v l):∃a c N,v= .slice a N c/\Hid (l.length=N)/\(N<=1000/\N<=c)/\(0<N->∃b,a=some ⟨b,0,none⟩/\b<w.heap.size/\∀i,i<N->w.cell? ⟨b,i*2,none⟩=some (.int .i64 ((l.getD i (0,0)).1:Int))/\w.cell? ⟨b,i*2+1,none⟩=some (.int .i64 ((l.getD i (0,0)).2:Int))):=by
 obtain⟨a,c,d,e,f⟩:=h;exact⟨a,c,l.length,d,gb rfl,e,f⟩
theorem pl0(w:World)(x y:Value)(t:TypeId):(w.alloc (.cells #[x,y] t)).cell? ⟨w.heap.size,0,none⟩=some x:=On
theorem pl1(w:World)(x y:Value)(t:TypeId):(w.alloc (.cells #[x,y] t)).cell? ⟨w.heap.size,1,none⟩=some y:=On
theorem alK(w:World)(o:Obj):w.heap.size<(w.alloc o).heap.size:=On
def flP:List (Nat×Nat)->np
 |[]=>[]
 |p::l=> .int .i64 (p.1:Int):: .int .i64 (p.2:Int)::flP l
theorem aa8:∀(l:List (Nat×Nat))(i:Nat),i<l.length->(flP l)[i*2]? =some (.int .i64 ((l.getD i (0,0)).1:Int))/\(flP l)[i*2+1]? =some (.int .i64 ((l.getD i (0,0)).2:Int))
 |p::l,0,_=>⟨rfl,rfl⟩
 |p::l,i+1,h=>by
  have:=aa8 l i (by grind)
  grind [flP]
theorem TT:∀(l m:List (Nat×Nat)),flP (l++m)=flP l++flP m
 |[],m=>rfl
 |p::l,m=>by simp[flP,TT l m]
def OP(B:Nat)(w:World)(v:Value)(l:List (Nat×Nat)):Prop:=w.ownsRow B 202 2 v l.length (flP l)
section
variable {B:Nat} {w w':World} {v:Value} {l:List (Nat×Nat)}
theorem OP.nil(B:Nat)(w:World):OP B w (.slice none 0 0) []:=pJ _ _ _ _
theorem OP.lt(h:OP B w v l):∀k,v.ownBlock=some k->B<=k/\k<w.heap.size:=JK h
theorem OP.below(h:OP B w v l)(J:gm w w'):OP B w' v l:=OX
theorem OP.pr(h:OP B w v l)(s:l.length<=1000):PR w v l:=by
 rcases h.2 with⟨rfl,a⟩|⟨g,d,e,rfl,o,b,t,q,r,y⟩
 ·exact⟨none,0,by rw[a],by omega,λx=>by omega⟩
 ·refine⟨_,_,rfl,by omega,λ_=>⟨g,rfl,(gZ.1 b).1,λi c=> ?_⟩⟩;have p:=akM h (g:=g) rfl;have n:∀j,(⟨g,0,none⟩:Addr).add j=⟨g,j,none⟩:=λj=>Kb;obtain⟨f,k⟩:=aa8 l i c
  grind
end
theorem info202:(prog.info? 202).map (λi=>(i.zero,i.size,i.bytes))=some (some (.agg #[.int .i64 0,.int .i64 0]),2,16):=Ob
theorem JA{P:Program}{ops:Array Oper}{rest:List Oper}{o:Oper}{a:Act}{Q:Exit->Act->World->Prop}{w:World}{H:Nat}(p:Nat×Nat)(d:World)(s y:Operand)(e:TypeId)
 (r:o.guard=none) (x:o.op= .call {callee:= .builtin .append,args:= #[s,y],argTypes:= #[e,e]})
 (C:P.underlying e=some (.slice 202)) (hi:(P.info? 202).map (λi=>(i.zero,i.size,i.bytes))=some (some (.agg #[.int .i64 0,.int .i64 0]),2,16))
 (B:Nat) (v:Value) (l:List (Nat×Nat)) (A:a.eval s=v) (z:OP B d v l) (D:a.eval y= .slice (some ⟨H,0,none⟩) 1 1)
 (N:l.length<=1000000000000) (M:B<=d.heap.size)
 (h:∀g f c,OP B c (.slice (some ⟨g,0,none⟩) (l.length+1) f) (l++[p])->d.grownBy c v.ownBlock->(v.ownBlock=some g\/d.heap.size<=g)->g<c.heap.size->wpList P ops Q rest (a.put o.dst (.slice (some ⟨g,0,none⟩) (l.length+1) f)) c)
 (h0:gm d w:=by first|exact(f0 _ _).alloc (fZ _) _|exact((f0 _ _).alloc (fZ _) _).drew|exact((f0 _ _).drew).alloc (fZ _) _)
 (hc0:w.cell? ⟨H,0,none⟩=some (.int .i64 (p.1:Int)):=by first|exact pl0 _ _ _ _|go_simp)
 (hc1:w.cell? ⟨H,1,none⟩=some (.int .i64 (p.2:Int)):=by first|exact pl1 _ _ _ _|go_simp):
 wpList P ops Q (o::rest) a w:=by
 obtain⟨I,t,E,F,G⟩:=ml hi;have aB:=h0.size;refine ah7 (P:=P) (w:=w) r s y e x B 202 I (.agg #[.int .i64 0,.int .i64 0]) 2 16 C t E F G rfl Oc v l.length (flP l) A (z.below h0) ⟨H,0,none⟩ 1 1 [.int .i64 (p.1:Int),.int .i64 (p.2:Int)] D rfl ?_ ?_ Oc ?_ ?_ Oa _ rfl ?_
 ·intro J K b
  match J,b with
  |0,b=>simp at b;subst b;simpa [Addr.add]using hc0
  |1,b=>simp at b;subst b;simpa [Addr.add]using hc1
 ·intro K j;simp at j;rcases j with rfl|rfl<;>rfl
 ·exact Mm
 ·exact Oa
 ·intro g k c n h2 L q;refine h g k c ?_ ?_ ?_ q
  ·unfold OP;rw[TT,gz];exact n
  ·exact KO
  grind
end
end Go.Proofs.YtnnaadmegeeinaaGreatDoor
