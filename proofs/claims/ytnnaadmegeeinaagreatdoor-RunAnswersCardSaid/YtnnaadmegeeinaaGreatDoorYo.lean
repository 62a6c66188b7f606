/-
  Part 15 of a proof: what it proves stands in the last text.
-/
import Derived.Test.YtnnaadmegeeinaaGreatDoorYn
import Derived.Deep.RegionHeld3
set_option linter.all false
set_option maxHeartbeats 8000000
set_option maxRecDepth 100000
namespace Go.Proofs.YtnnaadmegeeinaaGreatDoor
open Tryz Go.Proofs.Tryz
open Go.RowKit
def jb:=@List.append_nil
def uI:=@Nat.gcd_pos_of_pos_right
def Ge:=@Nat.gcd_dvd_right
def YX:=@Calls.quiet_of
def Y3:=@Nat.div_eq_of_eq_mul_right
theorem Om{p:Prop}(h:p:=by
 clear hA hB hC;have dZ:=gb (y6 W0 b A Bq Cq v _ wr fi aF a6);have fh:=gd ((L2++r3 (ye m x y h) H)++[(A,Bq,Cq)]=L2++r3 (ye m x y h) (H+1)) QL
 exact K5):p:=h
theorem OF{p:Prop}(h:p:=by
 obtain rfl:H=3:=Oa;rw[da.out]at a6;have bw:=gb a6;clear a6;go_wp2;go_roundw
 case rel=>exact⟨y+1,j+1,by have:=eQ.out;omega,by go_num,by omega,bw.out⟩
 case measure=>exact gQ):p:=h
theorem OT{p:Prop}(h:p:=by
 go_wp2_with (at_builtin;refine g8 wr _ _ 45 rfl rfl underlying45 info3 _ _ _ rfl eP rfl az fj ?_;intro ci c3 aN aD dV eL dx);have HX:=gR (aD.cast bt.out.symm) (eP.grown er.out dV fj);clear aD dV eL dx eP;go_roundw
 case rel=>exact⟨O+1,by omega,by go_num,HX.out.1,HX.out.2⟩
 case measure=>exact gQ):p:=h
theorem O2{p:Prop}(h:p:=by
 generalize A.getD I 0=x at*;obtain⟨kt,eT⟩:∃kt,kt=k-1-I:=⟨_,rfl⟩;rw[<-eT]at fu dq;clear eT p2;go_wp2_with fail;refine fu.out.mono ?_;rintro e aj ⟨rfl,q2,rfl⟩;go_wp2;go_roundw
 case rel=>exact⟨I+1,ai+q2,by omega,by go_num,by rw[fF.out];go_num,by trivial⟩
 case measure=>exact gQ):p:=h
theorem Me{p:Prop}(h:p:=by
 rw[show(H:Int)+1=((H+1:Nat):Int)by omega]
 exact(gO _ _).symm):p:=h
theorem MN{p:Prop}(h:p:=by
 go_wp2;go_roundw
 case rel=>exact⟨x+1,by omega,by go_num,bw.out⟩
 case measure=>exact gQ):p:=h
theorem Sv{p:Prop}(h:p:=by rw[gz,xR];have:=dD.out;omega):p:=h
theorem Ux{p:Prop}(h:p:=by
 clear ho J;go_wp2;go_ret2;refine⟨⟨_,rfl,?_⟩,HX.out.2⟩;rw[fE.out]
 exact HX.out.1):p:=h
theorem UK{p:Prop}(h:p:=by
 cases kk with
 |zero=>have:=HL.out.2.1 rfl;omega
 |succ k'=>grind):p:=h
theorem UP{p:Prop}(h:p:=by
 have bw:=gb a6;clear a6;go_wp2;go_end0
 exact⟨⟨_,rfl⟩,bw.out⟩):p:=h
theorem U8{p:Prop}(h:p:=by rw[gz,rF];have:=fH.out;have:=eQ.out;omega):p:=h
theorem DU{p:Prop}(h:p:=by rw[hA,hB,hC]):p:=h
theorem D5{p:Prop}(h:p:=by rw[<-HL.out.1,GV,jb]):p:=h
theorem Ka{p:Prop}(h:p:=by simp[mp]):p:=h
theorem KA{p:Prop}(h:p:=by
 clear dL;obtain⟨H,hi,rfl,a6⟩:=hrel;by_cases fb:H<3
 ·have aS:(H:Int)<3:=(by omega);have cd:(m:Int)*H=((m*H:Nat):Int):=(gI _ _).symm;have dv:((H:Int)+1).tmod 3=(((H+1)%3:Nat):Int):=Me;have bj:(m:Int)*(((H+1)%3:Nat):Int)=((m*((H+1)%3):Nat):Int):=(gI _ _).symm;have av:m*H<=11*3:=gE dF hi;have ar:m*((H+1)%3)<=11*3:=gE dF Oa;have cF:=gb (uj (ye m x y h) H);have eE:=gd ((ye m x y h) H=(x+m*H,y+m*H,h+m*((H+1)%3))) rfl;have fi:(L2++r3 (ye m x y h) H).length<=100000:=Sv;generalize (H+1)%3=p3 at*;generalize m*p3=P3 at*;generalize m*H=P1 at*;obtain⟨A,hA⟩:∃A,A=x+P1:=⟨_,rfl⟩;obtain⟨Bq,hB⟩:∃Bq,Bq=y+P1:=⟨_,rfl⟩;obtain⟨Cq,hC⟩:∃Cq,Cq=h+P3:=⟨_,rfl⟩;have fd:(x:Int)+P1=A:=Oa;have fc:(y:Int)+P1=Bq:=Oa;have fQ:(h:Int)+P3=Cq:=Oa;have eX:=gd ((x+P1,y+P1,h+P3)=(A,Bq,Cq)) DU;have fG:A<=1000:=Oa;have fv:Bq<=1000:=Oa;have fP:Cq<=1000:=Oa;exact Om
 ·exact OF):p:=h
theorem K5{p:Prop}(h:p:=by
 clear a6;go_wp2_with fail;refine dZ.out.mono ?_;rintro e aj ⟨⟨ah,rfl⟩,eB⟩;rw[fh.out]at eB;have bw:=gb eB;clear eB;go_wp2;go_roundw
 case rel=>exact⟨H+1,by omega,by go_num,bw.out⟩
 case measure=>exact gQ):p:=h
theorem PB{p:Prop}(h:p:=by
 clear h;go_enter func90,ntmps90
 exact Rr):p:=h
theorem Qd{p:Prop}(h:p:=by
 clear h;go_enter func221,ntmps221
 exact My):p:=h
theorem QL{p:Prop}(h:p:=by rw[iN,<-cF.out,eE.out,eX.out]):p:=h
theorem QM{p:Prop}(h:p:=by
 obtain rfl:x=m:=Oa;have cT:¬(x:Int)<x:=Oa
 exact UP):p:=h
theorem Q2{p:Prop}(h:p:=by
 go_wp2;go_loopw [80] (λiv wq=>∃H:Nat,H<=3/\iv= .int .i64 H/\TS W0 b v (L2++r3 (ye m x y h) H) wq) (λiv _=>3-(intOf iv).toNat)
 case atStart=>exact⟨0,ge _,rfl,by rw[show L2++r3 (ye m x y h) 0=L2 from jb _];exact dL.out⟩
 case round=>
  exact KA):p:=h
theorem Re{p:Prop}(h:p:=by
 clear hq;go_enter func86,ntmps86
 exact KN):p:=h
def WD(n k:Nat):List (Nat×Nat):=(List.range k).map λi=>(i+1,n-1-(i+1))
def Ts(n:Nat):lO:=Y6 (n-1) (WD n (n/2-1)) (n-1)
theorem aap(n k:Nat):WD n (k+1)=WD n k++[(k+1,n-1-(k+1))]:=by simp[WD,jc]
theorem afa(n k:Nat):(WD n k).length=k:=by simp[WD]
theorem aiA{n k:Nat}(h:k+1<=n/2):∀p∈WD n k,p.1<n-1/\p.2<n-1:=by
 intro p a;simp only[WD,gK,gC]at a
 grind
theorem JV(n:Int)(w:World)(h:x1 n=false):
 Calls prog 133 #[.int .i64 n] w λe b=>e= .returned (.tuple #[.slice none 0 0,.int .i64 1])/\w=b:=by
 have a:=gb (Em n w);rw[h]at a;clear h;go_enter func133,ntmps133;go_wp2_with fail;refine a.out.mono ?_;rintro e c ⟨rfl,rfl⟩;go_wp2;go_ret2;exact⟨rfl,rfl⟩
theorem V2(n:Nat)(w:World)(h:x1 n=true):
 Calls prog 133 #[.int .i64 n] w λe g=>(∃d,e= .returned (.tuple #[d,.int .i64 0])/\OL w.heap.size g.heap.size g d (Ts n))/\gm w g:=by
 have q:=gb (Em n w);rw[h]at q;obtain⟨m,J,P,O,R⟩:=ahV h;obtain rfl:n=m:=Oa;clear h J;have E:(n:Int).tdiv 2=((n/2:Nat):Int):=(iS n 2).symm;have B:=gb (aap n);have cf:=gb (afa n);have p:=gb (λ(d:Value)(j:World)(H:PR j d (WD n (n/2-1)))=>XY (n-1) d (WD n (n/2-1)) j Oa Oa H (aiA Oa));have o:=gd (Y6 (n-1) (WD n (n/2-1)) (n-1)=Ts n) rfl;obtain⟨h,x⟩:∃h,h=n/2:=⟨_,rfl⟩;have y:n=2*h:=Oa;have M:=gb y;have S:1<=h:=Oa;have T:h<=8:=Oa;have t:((n-1:Nat):Int)=n-1:=Oa;have A:=gb t;rw[<-x]at E p o;clear x t y;generalize Ts n=L at*;go_enter func133,ntmps133;go_wp2_with fail;refine q.out.mono ?_;rintro e j ⟨rfl,rfl⟩;go_wp2;go_loopw [4,5] (λK i wr=>∃k:Nat,k+1<=h/\i= .int .i64 ((k:Int)+1)/\OP w.heap.size wr K (WD n k)/\gm w wr) (λ_ i _=>h-(intOf i).toNat)
 case atStart=>exact⟨0,by omega,rfl,OP.nil _ _,f0 _ _⟩
 case round=>
  obtain⟨k,U,rfl,c,b⟩:=hrel;by_cases V:k+1<h
  ·have Q:(k:Int)+1<h:=(by omega);have I:(WD n k).length<=1000000000000:=Sr;have r:w.heap.size<=wr.heap.size:=b.size;have a:=gb b;have D:((n-1-(k+1):Nat):Int)=n-1-((k:Int)+1):=(by grind);clear b D;go_wp2_with (at_builtin;refine JA (k+1,n-1-(k+1)) wr _ _ 201 rfl rfl underlying201 info202 w.heap.size _ _ rfl c rfl I r ?_ (hc1:=by grind [pl1]) (hc0:=pl0 _ _ _ _);intro N c3 X z v F G);have HX:=gR z (a.out.grown v r (λC e=>(c.lt C e).1));clear z v F G c;go_roundw
   case rel=>exact⟨k+1,by omega,by go_num,by rw[B.out];exact HX.out.1,HX.out.2⟩
   case measure=>exact gQ
  ·obtain rfl:h=k+1:=(by omega);have l:=gb (p.out u4 wr (c.pr Sr));rw[A.out]at l;have a:=gb b;clear c b;go_wp2_with fail;refine l.out.mono ?_;rintro e W ⟨⟨u2,rfl,f⟩,s⟩;rw[o.out]at f;have HX:=gR (f.mono a.out.size (fZ _)) (a.out.trans (s.mono a.out.size));clear f s;exact QK
def cfE(v r a:Nat):Nat:=if(2*r+2*v-a)%v=a then v else(2*r+2*v-a)%v
def Y8(v r k:Nat):gP:=(List.range k).map λa=>(cfE v r a:Int)
def cfA(v k:Nat):lO:=(List.range k).map λr=>Y8 v r v++[(r:Int)]
theorem aaj(v r k:Nat):Y8 v r (k+1)=Y8 v r k++[(cfE v r k:Int)]:=by simp[Y8,jc]
theorem aai(v k:Nat):cfA v (k+1)=cfA v k++[Y8 v k v++[(k:Int)]]:=by simp[cfA,jc]
theorem aix{v r a:Nat}(h:a<v):(2*(r:Int)-a+2*v).tmod (v:Int)=(((2*r+2*v-a)%v:Nat):Int):=by
 grind
theorem Ex(n:Int)(a:ja n)(w:World)(h:x1 n=false):
 Calls prog 86 #[.int .i64 n] w λe b=>e= .returned (.tuple #[.slice none 0 0,.int .i64 1])/\w=b:=by
 have hq:¬(2<=n/\n<=16/\n.tmod 2=0):=by
  grind [x1]
 clear h;unfold ja at a;by_cases c:n<2
 ·exact Re
 ·by_cases d:16<n
  ·exact Re
  ·have f:n.tmod 2=1:=by
    grind
   exact Re
theorem Gv(n:Nat)(w:World)(h:x1 n=true):
 Calls prog 86 #[.int .i64 n] w λo x=>(∃J,o= .returned (.tuple #[J,.int .i64 0])/\OL w.heap.size x.heap.size x J (cfA (n-1) (n-1)))/\gm w x:=by
 obtain⟨m,hm,h2,ai,ac⟩:=ahV h;obtain rfl:n=m:=Oa;clear h hm;have aj:(n:Int).tmod 2=0:=by grind
 obtain⟨v,G⟩:∃v,v=n-1:=⟨_,rfl⟩;have ak:(n:Int)-1=v:=Oa;have am:0<v:=Oa;have an:v<=15:=Oa;rw[<-G];have Z:=gb (aai v);have A:=gb (aaj v);have T:=gb (λr O h=>aix (v:=v) (r:=r) (a:=O) h);have P:=gd (∀r O,cfE v r O=if(2*r+2*v-O)%v=O then v else(2*r+2*v-O)%v) λr O=>rfl;have z:=gd (∀r k,(Y8 v r k).length=k) (λr k=>by simp[Y8]);have R:=gd (∀k,(cfA v k).length=k) (λk=>by simp[cfA]);have Q:=gd (∀r,Y8 v r 0=[]) (λr=>rfl);have M:=gd (cfA v 0=[]) rfl;clear G ac;go_enter func86,ntmps86;go_wp2;go_loopw [5,6,7,8,9] (λt i _ _ _ wr=>∃r:Nat,r<=v/\i= .int .i64 r/\OL w.heap.size wr.heap.size wr t (cfA v r)/\gm w wr) (λ_ i _ _ _ _=>v-(intOf i).toNat)
 case atStart=>exact⟨0,ge _,rfl,by rw[M.out];exact OL.nil _ _ _,f0 _ _⟩
 case round=>
  obtain⟨r,hr,rfl,e,c⟩:=hrel;by_cases al:r<v
  ·have j:=gR e c;have F:=c.size;clear e c;go_wp2;go_loopw [7,8,9] (λt i _ L=>∃O:Nat,O<=v/\i= .int .i64 O/\OI wr.heap.size L t (Y8 v r O)/\gm wr L) (λ_ i _ _=>v-(intOf i).toNat)
   case atStart=>exact⟨0,ge _,rfl,by rw[Q.out];exact Ow.nil _ _ _,f0 _ _⟩
   case round=>
    obtain⟨O,ha,rfl,eP,a⟩:=hrel;by_cases aa:O<v
    ·have af:=T.out r O aa;have az:(Y8 v r O).length<=1000000000000:=(by rw[z.out];omega);have b:=P.out r O;have fj:=a.size;have er:=gb a;clear a;by_cases d:(2*r+2*v-O)%v=O
     ·rw[gl d]at b;rw[d]at af;have bt:=gb (A.out r O);rw[b]at bt;clear d b;exact OT
     ·rw[gh d]at b;have bt:=gb (A.out r O);rw[b]at bt;clear b;generalize (2*r+2*v-O)%v=l at*;have hq:((l:Int)==O)=false:=(by rw[gL];omega);clear d;exact OT
    ·obtain rfl:O=v:=(by omega);have fj:=a.size;have az:(Y8 O r O).length<=1000000000000:=(by rw[z.out];omega);have D:=j.out.1.below a;have g:=gb (j.out.2.trans (a.mono F));have bt:=gb (Z.out r);have B:=gb F;have S:=gb (R.out r);clear a j;generalize cfA O r=LA at*;generalize Y8 O r O=LL at*;have U:=gb D;clear D;go_wp2_with (first|((at_builtin;refine g8 wr _ _ 45 rfl rfl underlying45 info3 _ _ _ rfl eP rfl az fj ?_;intro ci c3 aN aD dV eL dx;have ag:=U.out.kept dV (λk q=> .inr (eP.lt k q).1);have Y:=gb aD;have ab:w.heap.size<=wr.heap.size:=g.out.size;have N:=gb (g.out.grown dV g.out.size (λk q=>gt B.out (eP.lt k q).1));have C:w.heap.size<=aN.heap.size:=gt ab dV.size;clear aD eL eP dV;obtain⟨K,f,H,s,I⟩:=ag;have ah:K.length<=1000000000000:=(by rw[s,S.out];omega);have V:=gb H;have W:=gb s;have X:=gb I;clear H s I))|((at_builtin;refine jt aN _ _ 46 45 (.slice none 0 0) 24 rfl rfl underlying46 info45 rfl Oc w.heap.size _ K rfl f rfl rfl ah C ?_;intro g4 c4 w5 aD p ad ae)));have E:=OL.snoc f V.out W.out X.out Y.out B.out aD p;have y:=gR E (N.out.grown p C (λl o=>(f.lt l o).1));clear E aD p ad ae f;go_roundw
     case rel=>exact⟨r+1,by omega,by go_num,by rw[bt.out];exact y.out.1,y.out.2⟩
     case measure=>exact gQ
  ·obtain rfl:r=v:=(by omega);have HX:=gR e c;clear e c;exact QK
section
open Go.Shelf
def Ik:Value->Nat
 | .slice _ n _=>n
 |_=>0
def mp(L:gA):gP:=L.map λx:Nat=>(x:Int)
theorem C0(L:gA)(x:Nat):mp (L++[x])=mp L++[(x:Int)]:=Ka
theorem qe(L:gA):(mp L).length=L.length:=Ka
def lN(k m:Nat):Nat:=RS k m (m+k)
theorem Z3{k:Nat}(a:1<=k):∀m,m<lg (m+k) k
 |0=>by rw[iL,vM];omega
 |m+1=>by
  obtain⟨j,rfl⟩:∃j,k=j+1:=⟨k-1,by omega⟩;have b:=Z3 a m
  grind [Ti,nb]
theorem pO{k m:Nat}(a:1<=k):lg (lN k m) k<=m/\m<lg (lN k m+1) k/\lN k m<m+k:=by
 grind [Er,Z3,lN]
theorem akB{k m a:Nat}(b:1<=k)(e:lg a k<=m)(f:m<lg (a+1) k):lN k m=a:=by
 obtain⟨c,d,_⟩:=pO (m:=m) b;rcases ny a (lN k m)with h|h|h
 ·have:=oW (show a+1<=lN k m by omega) k;omega
 ·exact Oa
 ·have:=oW (show lN k m+1<=a by omega) k;omega
def jr:Nat->Nat->gA
 |0,_=>[]
 |k+1,m=>if m=0 then[]else lN (k+1) m::jr k (m-lg (lN (k+1) m) (k+1))
theorem GV(k:Nat):jr k 0=[]:=by cases k<;>simp[jr]
theorem xg{k m:Nat}(h:0<m):jr (k+1) m=lN (k+1) m::jr k (m-lg (lN (k+1) m) (k+1)):=by simp only[jr];grind
theorem CA{k m:Nat}(h:k=0):m-lg (lN (k+1) m) (k+1)=0:=by
 subst h;obtain⟨a,b,_⟩:=pO (k:=1) (m:=m) Oa;have c:lg (lN 1 m+1) 1=lg (lN 1 m) 0+lg (lN 1 m) 1:=rfl
 grind [lg]
theorem pW:∀k m,(jr k m).length<=k
 |0,_=>by simp[jr]
 |k+1,m=>by
  simp only[jr];split
  ·exact On
  ·have:=pW k (m-lg (lN (k+1) m) (k+1))
   grind
theorem EM(k m n b c:Nat)(w:World)(r:n<=1000000030)(g:k<=30)(p:m<=1000000000)(l:w.cell? ⟨b,0,none⟩=some (.int .i64 k))(o:w.cell? ⟨c,0,none⟩=some (.int .i64 m)):
 Calls prog 271 #[.int .i64 n,.pointer (some ⟨b,0,none⟩),.pointer (some ⟨c,0,none⟩)] w λf h=>f= .returned (.bool (decide (m<lg (n+1) k)))/\∃q,h=w.drewN q:=by
 have a:=gb (λq=>Bs (n+1) k (w.drewN q) Oa g);have d:((n+1:Nat):Int)=n+1:=Oa;rw[d]at a
 have e:=gd (decide (m<yj (lg (n+1) k))=decide (m<lg (n+1) k)) (by
  rw[vC]
  grind [yj])
 clear d;generalize yj (lg (n+1) k)=j at*;generalize lg (n+1) k=i at*;go_enter func271,ntmps271;go_wp2_with fail;go_quiet ((go_at_call 272;exact YX (a.out _)));go_wp2;go_ret;exact⟨by rw[<-e.out];rfl,nq,rfl⟩
theorem YN(W:World)(A B C:Nat)(l:gP)(u:Value)(x y:Value){w:World}{r s:Value}(v:A≠B)(o:A<C)(p:B<C)(k:hU W A 3 [r])(n:hU W B 3 [s])(c:OI C W u l)(b:gm w W)(D:w.heap.size<=A:=by omega)(E:w.heap.size<=B:=by omega):
 hU ((W.setCell ⟨A,0,none⟩ x).setCell ⟨B,0,none⟩ y) A 3 [x]/\hU ((W.setCell ⟨A,0,none⟩ x).setCell ⟨B,0,none⟩ y) B 3 [y]/\OI C ((W.setCell ⟨A,0,none⟩ x).setCell ⟨B,0,none⟩ y) u l/\Below w.heap.size w ((W.setCell ⟨A,0,none⟩ x).setCell ⟨B,0,none⟩ y):=by
 obtain⟨f,a⟩:=k.stored 0 x;have i:=n.kept a Oo;obtain⟨c1,c2⟩:=i.stored 0 y;have h:=f.kept c2 Oo;have d:∀g,g<C->u.ownBlock=none\/u.ownBlock≠some g:=λg z=>by
  cases e:u.ownBlock with
  |none=>grind
  |some t=>right;intro j;cases j;have:=(c.lt _ e).1;omega
 exact⟨h,c1,(c.kept a (d A o)).kept c2 (d B p),(b.grown a b.size (λq e=>by grind)).grown c2 (gt b.size a.size) (λq e=>by grind)⟩
theorem wM{P:Program}{f:FuncId}{a:Func}(c:P.funcs[f]? =some a)(d:(a.name== "runtime.NumGoroutine")=false)(b:a.body.isNone=false)(args:Array Value)(w:World):
 (callFunc f args).run P w= .ok (.enter f args) w:=by
 unfold callFunc;simp only[program,Gh];simp[c,d,b,Sem.run,Result.andThen]
theorem Jc(k m a b:Nat)(w:World)(g:1<=k)(h:k<=30)(i:m<=1000000000)(d:w.cell? ⟨a,0,none⟩=some (.int .i64 k))(e:w.cell? ⟨b,0,none⟩=some (.int .i64 m)):
 Calls prog 270 #[.int .i64 1000000030,.func (.func 271) #[] #[.pointer (some ⟨a,0,none⟩),.pointer (some ⟨b,0,none⟩)]] w λf l=>f= .returned (.int .i64 (lN k m:Nat))/\∃q,l=w.drewN q:=by
 obtain⟨o,p,r⟩:=pO (m:=m) g
 have j:ZP 271 #[.pointer (some ⟨a,0,none⟩),.pointer (some ⟨b,0,none⟩)] (λn=>decide (m<lg (n+1) k)) 1000000030 w:=
  ⟨wM func271 Ob Ob,λx q c=>EM k m x a b (w.drewN q) Oa h i d e⟩
 exact QQ _ _ _ 1000000030 (lN k m) w Oa j Oa (λx c=>gp (by
  have:=oW (show x+1<=lN k m by omega) k
  omega)) (λx c _=>gy (by
  have:=oW (show lN k m+1<=x+1 by omega) k
  exact Oa))
theorem x4(m k:Int)(w:World)(h:m<0\/k<1\/30<k):
 Calls prog 221 #[.int .i64 m,.int .i64 k] w λe b=>e= .returned (.tuple #[.slice none 0 0,.int .i64 1])/\gm w b:=by
 have a:Below w.heap.size w ((w.alloc (.cells #[.int .i64 m] 3)).alloc (.cells #[.int .i64 k] 3)):=((f0 _ _).alloc (fZ _) _).alloc On _;have HB:=gb a;clear a;by_cases c:m<0
 ·exact Qd
 by_cases d:k<1
 ·exact Qd
 ·have f:30<k:=(by omega);exact Qd
theorem zL(m k:Nat)(w:World)(hk:1<=k)(ab:k<=30)(V:m<=1000000000):
 Calls prog 221 #[.int .i64 m,.int .i64 k] w λe F=>(∃E,e= .returned (.tuple #[E,.int .i64 0])/\OI w.heap.size F E (mp (jr k m)))/\gm w F:=by
 have g:hU ((w.alloc (.cells #[.int .i64 m] 3)).alloc (.cells #[.int .i64 k] 3)) w.heap.size 3 [.int .i64 m]:=hU.alloc (hU.new w _ [.int .i64 m]) _;have d:hU ((w.alloc (.cells #[.int .i64 m] 3)).alloc (.cells #[.int .i64 k] 3)) (w.heap.size+1) 3 [.int .i64 k]:=by
  have:=hU.new (w.alloc (.cells #[.int .i64 m] 3)) 3 [.int .i64 k];simpa using this
 have J:Below w.heap.size w ((w.alloc (.cells #[.int .i64 m] 3)).alloc (.cells #[.int .i64 k] 3)):=((f0 _ _).alloc (fZ _) _).alloc On _;have h:=ju g d J;clear g d J;go_enter func221,ntmps221;go_wp2;go_loopw [6] (λo wr=>∃(kk a:Nat)(L:gA),Hid (L++jr kk a=jr k m/\(kk=0->a=0)/\L.length+kk<=30/\Ik o=L.length)/\a<=1000000000/\hU wr w.heap.size 3 [.int .i64 a]/\hU wr (w.heap.size+1) 3 [.int .i64 kk]/\OI (w.heap.size+2) wr o (mp L)/\gm w wr) (λo _=>31-Ik o)
 case atStart=>exact⟨k,m,[],gb ⟨rfl,λaa=>by omega,by grind,rfl⟩,V,h.out.1,h.out.2.1,OI.nil _ _,h.out.2.2⟩
 case round=>
  obtain⟨kk,a,L,HL,X,g,d,ho,J⟩:=hrel;clear h;have s:=g.cell 0;have r:=d.cell 0;rw[gW]at s r;have D:=d.lt;by_cases W:0<a
  ·obtain⟨k',rfl⟩:∃k',kk=k'+1:=UK;have ac:=HL.out.2.2.1;have M:=gb (Jc (k'+1) a (w.heap.size+1) w.heap.size wr Oa Oa X r s);obtain⟨R,S,g3⟩:=pO (k:=k'+1) (m:=a) Oa;have x:=gb (xg (k:=k') W);have v:=gb (CA (k:=k') (m:=a));have H:=gb (show(mp L).length<=1000000000000 by rw[qe];omega);have q:=gb (λG=>Bs (lN (k'+1) a) (k'+1) G Oa Oa);rw[xj (show lg (lN (k'+1) a) (k'+1)<=1152921504606846976 by omega)]at q;generalize lN (k'+1) a=c at*;obtain⟨b,z⟩:∃b,b=lg c (k'+1):=⟨_,rfl⟩;rw[<-z]at q x v R;clear S z;have C:w.heap.size+2<=wr.heap.size:=D;go_wp2_with fail;refine M.out.mono ?_;rintro e G ⟨rfl,f,rfl⟩;have A:OI (w.heap.size+2) (wr.drewN f) _ _:=ho.drewN f;go_wp2_with (at_builtin;refine g8 (wr.drewN f) _ _ 45 rfl rfl underlying45 info3 (w.heap.size+2) _ _ rfl A rfl H.out C ?_;intro Q N p B n T U);have j:hU p w.heap.size 3 [.int .i64 a]:=(show hU (wr.drewN f) w.heap.size 3 _ from g).kept n (λe=>by have:=(ho.lt w.heap.size e.symm).1;omega);have l:hU p (w.heap.size+1) 3 [.int .i64 ((k'+1:Nat):Int)]:=(show hU (wr.drewN f) (w.heap.size+1) 3 _ from d).kept n (λe=>by have:=(ho.lt (w.heap.size+1) e.symm).1;omega);have y:gm w p:=((ho.drewN f).mono (show w.heap.size<=w.heap.size+2 by omega)).grown (gM J f) n (by show w.heap.size<=wr.heap.size;omega);have P:=j.cell 0;have Z:=j.frozen 0;have O:=l.cell 0;have Y:=l.frozen 0;rw[gW]at P O;have i:=gb (λt=>YN (p.drewN t) w.heap.size (w.heap.size+1) (w.heap.size+2) (mp L++[(c:Int)]) _ (.int .i64 ((a-b:Nat):Int)) (.int .i64 (k':Int)) Oa Oa Oa j l (B.drewN t) (gM y t));have K:=gd ((L++[c])++jr k' (a-b)=jr k m/\(k'=0->a-b=0)/\(L++[c]).length+k'<=30/\Ik (.slice (some ⟨Q,0,none⟩) ((mp L).length+1) N)=(L++[c]).length) ⟨by rw[iN,<-HL.out.1,x.out];rfl,v.out,by simp;omega,by simp[Ik,qe]⟩;have I:=gd (Ik u6=L.length/\L.length+k'+1<=30) ⟨HL.out.2.2.2,by omega⟩;clear g d ho J s r n T U j l B y A C D;have ad:((a:Int)-b)=((a-b:Nat):Int):=Oa;go_wp2_with fail;go_region_with ((go_at_call 272;refine(q.out _).mono ?_;rintro e w5 ⟨rfl,q5,rfl⟩))
   all_goals
    go_wp2;go_roundw
   all_goals first
    |exact⟨k',a-b,L++[c],K.out,by omega,(i.out _).1,(i.out _).2.1,(i.out _).2.2.1.cast (C0 L c).symm,(i.out _).2.2.2⟩
    |(rw[I.out.1];show 31-((mp L).length+1)<_;grind [qe])
  ·obtain rfl:a=0:=(by omega);have fE:=gd (mp (jr k m)=mp L) D5;have HX:=gR (ho.mono (show w.heap.size<=w.heap.size+2 by omega)) J;exact Ux
end
section
open Go.Shelf
def tb(x:Nat):Nat:=if x<=2147483648 then x else 2147483648
theorem tc{x:Nat}(h:x<=2147483648):tb x=x:=gl h
theorem WJ{x:Nat}(h:2147483648<=x):tb x=2147483648:=by
 unfold tb
 grind
theorem GP(n k:Nat)(w:World)(W:n<=1000000031)(S:k<=30)(T:k<=n):
 Calls prog 172 #[.int .i64 n,.int .i64 k] w λG L=>G= .returned (.int .i64 (tb (lg n k):Nat))/\w=L:=by
 obtain⟨d,i⟩:∃d,n=d+k:=⟨n-k,by omega⟩;have X:(n:Int)-k=d:=Oa;obtain⟨B,f⟩:∃B:Nat->Nat,B=λj=>lg (d+j) j:=⟨_,rfl⟩;have y:=gd (∀j,B j*(d+j+1)=B (j+1)*(j+1)) (λj=>by grind [mB]);have E:=gd (∀b c,b<=c->B b<=B c) (λb c h=>by rw[f];exact xq d h);have o:=gd (B 0=1) (by grind [mC]);have q:lg n k=B k:=by rw[f,i]
 rw[q];have O:d<=1000000031:=Oa;have M:=gb i;have U:¬(n:Int)<k:=Oa;clear q f i;obtain⟨R,s⟩:∃R,R=tb (B k):=⟨_,rfl⟩;have C:=gd (2147483648<=B k->R=2147483648) (λh=>by grind [WJ]);have F:=gd (B k<=2147483648->R=B k) (λh=>by grind [tc]);rw[<-s];clear s;go_enter func172,ntmps172;go_wp2;go_loop [5,6] (λK l=>∃j:Nat,j<=k/\l= .int .i64 ((j:Int)+1)/\K= .int .i64 (B j:Nat)/\B j<=2147483648) (λ_ l=>k+2-(intOf l).toNat)
 case atStart=>exact⟨0,ge _,rfl,by rw[o.out];rfl,by rw[o.out];omega⟩
 case round=>
  obtain⟨j,P,rfl,rfl,v⟩:=hrel;by_cases V:j<k
  ·have r:=y.out j;have D:=gb (E.out (j+1) k Oa);obtain⟨p,a⟩:∃p,p=B j*(d+j+1):=⟨_,rfl⟩;have Y:p<=2147483648*1000000062:=(by rw[a];exact gE v Oa);have Z:(B j:Int)*((d:Int)+((j:Int)+1))=p:=(by rw[a,gI];congr 1);have I:(p:Int).tdiv ((j:Int)+1)=(B (j+1):Int):=by
    rw[a,r,show(j:Int)+1=((j+1:Nat):Int)by omega,<-iS,al4 _ Oa]
   have H:B (j+1)<=p:=(by grind);have Q:¬(j:Int)+1=0:=Oa;clear r a;by_cases t:2147483648<B (j+1)
   ·have HR:=gd (R=2147483648) (C.out (gt (ly t) D.out));have N:(2147483648:Int)<(B (j+1):Int):=Oa;generalize B (j+1)=e at*;exact OG
   ·have x:B (j+1)<=2147483648:=(by omega);have J:¬(2147483648:Int)<(B (j+1):Int):=Oa;have z:=gb x;obtain⟨e,g⟩:∃e,e=B (j+1):=⟨_,rfl⟩;rw[<-g]at I x J H t;have A:=gb g;clear g;go_wp2;go_round
    case rel=>exact⟨j+1,by omega,by go_num,by rw[A.out],z.out⟩
    case measure=>exact gQ
  ·obtain rfl:j=k:=(by omega);have HR:=gb (F.out v);exact OG
end
section
open Go.Shelf
theorem JU(m k:Int)(w:World)(h:m<0\/k<1\/30<k):
 Calls prog 90 #[.int .i64 m,.int .i64 k] w λe a=>e= .returned (.tuple #[.slice none 0 0,.int .i64 1])/\gm w a:=by
 by_cases b:m<0
 ·exact PB
 by_cases c:k<1
 ·exact PB
 ·have d:30<k:=(by omega);exact PB
theorem Gu(m k:Int)(w:World)(h:¬(m<0\/k<1\/30<k))(f:1000000000<m):
 Calls prog 90 #[.int .i64 m,.int .i64 k] w λe a=>e= .returned (.tuple #[.slice none 0 0,.int .i64 3])/\gm w a:=by
 have b:¬m<0:=Oa;have c:¬k<1:=Oa;have d:¬30<k:=Oa;clear h;go_enter func90,ntmps90;go_wp2;go_ret2;exact⟨rfl,f0 _ _⟩
theorem V1(m k:Nat)(w:World)(hk:1<=k)(ab:k<=30)(hm:m<=1000000000):
 Calls prog 90 #[.int .i64 m,.int .i64 k] w λf P=>(∃O,f= .returned (.tuple #[O,.int .i64 0])/\OI w.heap.size P O (mp (jr k m)))/\gm w P:=by
 have s:=gb (λ(q k:Nat)(w:World)(l:q<=1000000031)(n:k<=30)(o:k<=q)=>GP q k w l n o);go_enter func90,ntmps90;go_wp2;go_loopw [0,1,6] (λx y ad wr=>∃(kk a:Nat)(L:gA),Hid (L++jr kk a=jr k m/\(kk=0->a=0)/\L.length+kk<=30)/\kk<=30/\a<=1000000000/\x= .int .i64 a/\y= .int .i64 kk/\OI w.heap.size wr ad (mp L)/\gm w wr) (λ_ y _ _=>(intOf y).toNat)
 case atStart=>exact⟨k,m,[],gb ⟨rfl,λh=>by omega,by grind⟩,ab,hm,rfl,rfl,OI.nil _ _,f0 _ _⟩
 case round=>
  obtain⟨kk,a,L,HL,G,ao,rfl,rfl,ho,J⟩:=hrel;by_cases ak:0<a
  ·obtain⟨k',F⟩:∃k',kk=k'+1:=UK;obtain⟨W,X,g3⟩:=pO (k:=kk) (m:=a) Oa;have H:kk<=lN kk a:=by
    rcases jh (lN kk a) kk with h|h
    ·have B:=oW (show lN kk a+1<=kk by omega) kk
     grind [vM]
    ·exact h
   have v:=gd (jr kk a=lN kk a::jr k' (a-lg (lN kk a) kk)) (by grind [xg]);have t:=gd (k'=0->a-lg (lN kk a) kk=0) (λh=>by grind [CA]);have T:=gb (show(mp L).length<=1000000000000 by rw[qe];have:=HL.out.2.2;omega)
   have S:=gb (λx (hx:kk<=x)=>(show(tb (lg x kk)<=a↔x<=lN kk a)from by
    constructor
    ·intro h;rcases jh (lN kk a) x with C|C
     ·have Y:=oW (show lN kk a+1<=x by omega) kk
      grind [tb]
     ·exact C
    ·intro h;have Y:=oW h kk
     grind [tc]))
   have R:=gb (show tb (lg (lN kk a) kk)=lg (lN kk a) kk from tc Oa);have j:=gb F;generalize lN kk a=i at*;clear X F;have N:=J.size;have ai:0<kk:=(by have:=j.out;omega);have U:=gR ho J;clear ho J;go_wp2;go_loop [7,8] (λx y=>∃c b:Nat,kk<=c/\c<=i/\i<=b/\b<=a+kk/\x= .int .i64 c/\y= .int .i64 b) (λx y=>(intOf y).toNat-(intOf x).toNat)
   case atStart=>exact⟨kk,a+kk,fZ _,H,by omega,fZ _,rfl,by congr 1;omega⟩
   case round=>
    obtain⟨c,b,l,n,o,B,rfl,rfl⟩:=hrel;by_cases aj:c<b
    ·obtain⟨d,K⟩:∃d,d=(c+b+1)/2:=⟨_,rfl⟩;have an:((c:Int)+b+1).tdiv 2=(d:Int):=(by rw[K,show(c:Int)+b+1=((c+b+1:Nat):Int)by omega];exact(iS (c+b+1) 2).symm);have al:c<d:=Oa;have am:d<=b:=Oa;have r:=gb (s.out d kk wr Oa G Oa);have p:=S.out d Oa;have ag:tb (lg d kk)<=2147483648:=(by unfold tb;split<;>omega);clear K;generalize tb (lg d kk)=A at*;by_cases ac:A<=a
     ·have I:=p.1 ac;have ah:(A:Int)<=a:=Oa;clear p;go_wp2_with fail;refine r.out.mono ?_;rintro f w1 ⟨rfl,rfl⟩;go_wp2;go_round
      case rel=>exact⟨d,b,by omega,I,o,B,by trivial,by trivial⟩
      case measure=>exact gQ
     ·have I:i<d:=Oa;clear p;go_wp2_with fail;refine r.out.mono ?_;rintro f w1 ⟨rfl,rfl⟩;go_wp2;go_round
      case rel=>exact⟨c,d-1,l,n,by omega,by omega,by trivial,by congr 1;omega⟩
      case measure=>exact gQ
    ·obtain rfl:c=i:=(by omega);obtain rfl:b=c:=Oa;obtain⟨ho,J⟩:=U.out;go_wp2_with (at_builtin;refine g8 wr _ _ 45 rfl rfl underlying45 info3 w.heap.size _ _ rfl ho rfl T.out N ?_;intro af ae w4 M E Z aa);have g:=s.out b kk w4 Oa G H;rw[R.out]at g;obtain⟨e,D⟩:∃e,e=lg b kk:=⟨_,rfl⟩;rw[<-D]at g v t W;have Q:=gb g;have z:=gR (M.cast (C0 L b).symm) (ho.grown J E N)
     have V:=gd ((L++[b])++jr (kk-1) (a-e)=jr k m/\(kk-1=0->a-e=0)/\(L++[b]).length+(kk-1)<=30) (by
      have f:kk-1=k':=(by rw[j.out];rfl);rw[f];refine⟨by rw[iN,<-HL.out.1,v.out];rfl,t.out,?_⟩;have:=HL.out.2.2;rw[j.out]at this;simp
      exact Oa)
     have ap:(a:Int)-e=((a-e:Nat):Int):=Oa;have aq:(kk:Int)-1=((kk-1:Nat):Int):=Oa;clear D g M E Z aa ho J;go_wp2_with fail;refine Q.out.mono ?_;rintro f w5 ⟨rfl,rfl⟩;go_wp2;go_roundw
     case rel=>exact⟨kk-1,a-e,L++[b],V,by omega,by omega,by trivial,by trivial,z.out.1,z.out.2⟩
     case measure=>exact gQ
  ·obtain rfl:a=0:=(by omega);have fE:=gd (mp (jr k m)=mp L) D5;have HX:=gR ho J;exact Ux
end
section
open Go.Shelf
theorem GO:∀(a j:Nat),lg a (j+1)*(j+1)=lg a j*(a-j)
 |0,j=>by rw[om 0 (j+1) Oa,Nat.zero_sub,pH,Nat.mul_zero]
 |a+1,0=>by rw[mB,mC,mC,ahq]
 |a+1,i+1=>by
  rw[mB];have b:=GO a i;by_cases h:i<=a
  ·rw[nb a i,qS,show a+1-(i+1)=a-i by omega,<-b,<-yV]
   grind
  grind
theorem Z2{a j:Nat}(h:j<a):lg a j<=lg a (j+1)*(j+1):=by
 rw[GO];exact k9 _ Oa
theorem oK:∀(k m i:Nat),m<=1000000000->k<=30->i<(jr k m).length->i<k/\k-i<=(jr k m).getD i 0/\lg ((jr k m).getD i 0) (k-i)<=1000000000/\(jr k m).getD i 0<=1000000030
 |0,m,i,_,_,h=>by simp[jr]at h
 |k+1,m,i,g,f,h=>by
  by_cases a:0<m
  ·rw[xg a]at h⊢;cases i with
   |zero=>
    obtain⟨b,c,d⟩:=pO (k:=k+1) (m:=m) Oa;refine⟨by omega,?_,by grind,by grind⟩;have:k+1<=lN (k+1) m:=by
     rcases jh (lN (k+1) m) (k+1)with h|h
     ·have e:=oW (show lN (k+1) m+1<=k+1 by omega) (k+1)
      grind [vM]
     ·exact h
    grind
   |succ i=>
    have j:=oK k (m-lg (lN (k+1) m) (k+1)) i Oa Oa (by grind)
    grind
  ·obtain rfl:m=0:=by omega
   grind [GV]
def BF(k:Nat)(A:gA):Nat->Nat
 |0=>0
 |t+1=>BF k A t+lg (A.getD t 0) (k-1-t)
theorem Fk{k m i:Nat}(e:m<=1000000000)(d:k<=30)(hi:i<(jr k m).length):lg ((jr k m).getD i 0) (k-1-i)<=30000000000/\k-1-i<(jr k m).getD i 0:=by
 obtain⟨f,g,b,h⟩:=oK k m i e d hi;have c:=Z2 (a:=(jr k m).getD i 0) (j:=k-1-i) Oa;rw[show k-1-i+1=k-i by omega]at c;have l:lg ((jr k m).getD i 0) (k-i)*(k-i)<=1000000000*30:=gE b Oa;exact Oa
theorem CW{k m:Nat}(b:m<=1000000000)(a:k<=30):∀t,t<=(jr k m).length->BF k (jr k m) t<=t*30000000000
 |0,_=>by rw[pH];exact fZ 0
 |t+1,h=>by
  have c:=CW b a t Oa
  grind [Fk,BF]
theorem CZ(L:gA)(j:Nat)(h:j<L.length):(mp L).getD j 0=((L.getD j 0:Nat):Int):=by simp[mp,gc,h]
theorem V8(m k:Int)(w:World)(h:m<0\/k<1\/30<k):
 Calls prog 222 #[.int .i64 m,.int .i64 k] w λe c=>e= .returned (.tuple #[.int .i64 0,.int .i64 1])/\gm w c:=by
 have H:=gb (x4 m k w h);clear h;go_enter func222,ntmps222;go_wp2_with fail;refine H.out.mono ?_;rintro e d ⟨rfl,a⟩;have b:=gb a;clear a;go_wp2;go_ret2;exact⟨rfl,b.out⟩
theorem Zn(m k:Nat)(w:World)(M:1<=k)(a:k<=30)(c:m<=1000000000):
 Calls prog 222 #[.int .i64 m,.int .i64 k] w λe T=>e= .returned (.tuple #[.int .i64 (BF k (jr k m) (jr k m).length:Nat),.int .i64 0])/\gm w T:=by
 have H:=gb (zL m k w M a c);have q:=gb (λi o=>oK k m i c a o);have r:=gb (λi o=>Fk (k:=k) (m:=m) (i:=i) c a o);have p:=gb (CW (k:=k) (m:=m) c a);have z:=gd (∀I,BF k (jr k m) (I+1)=BF k (jr k m) I+lg ((jr k m).getD I 0) (k-1-I)) (λI=>rfl);have y:=gd (BF k (jr k m) 0=0) rfl;have O:=pW k m;have B:=gb (λ(t k:Nat)(w:World)(G:t<=1000000031)(J:k<=30)=>Bs t k w G J);generalize BF k (jr k m)=l at*;generalize jr k m=A at*;go_enter func222,ntmps222;go_wp2_with fail;refine H.out.mono ?_;rintro e v ⟨⟨u,rfl,d⟩,s⟩;have x:=gb s;obtain⟨C,D,rfl⟩:=d.len;have f:=gb (λ(F:0<(mp A).length)=>d.form F);have h:=gb d;rw[qe]at h f⊢;obtain⟨N,n⟩:∃N,N=A.length:=⟨_,rfl⟩;rw[<-n]at h f q r p O⊢;have g:=gb n;clear d s n;go_wp2;go_loopw [8,22] (λQ i wr=>∃I ai:Nat,I<=N/\i= .int .i64 I/\Q= .int .i64 (l I:Nat)/\wr=v.drewN ai) (λ_ i _=>N-(intOf i).toNat)
 case atStart=>exact⟨0,0,ge _,rfl,by rw[y.out];rfl,rfl⟩
 case round=>
  obtain⟨I,ai,P,rfl,rfl,rfl⟩:=hrel;by_cases b:I<N
  ·obtain⟨E,c0,L,V,W⟩:=f.out Oa;obtain⟨rfl,rfl⟩:C=some ⟨E,0,none⟩/\c0=D:=by
    grind
   have K:=h.out.cell I (by rw[qe,<-g.out];exact b);rw[CZ A I (by rw[<-g.out];exact b)]at K;obtain⟨Y,p2,R,Z⟩:=q.out I b;obtain⟨t1,S⟩:=r.out I b;have X:=p.out I P;have fF:=gb (z.out I);have j:=B.out (A.getD I 0) (k-1-I) (v.drewN ai) Oa Oa;rw[xj (show lg (A.getD I 0) (k-1-I)<=1152921504606846976 by omega)]at j;have fu:=gb j;have dq:(k:Int)-1-I=((k-1-I:Nat):Int):=Oa;clear j L R S;generalize lg (A.getD I 0) (k-1-I)=U at*;exact O2
  ·obtain rfl:I=N:=(by omega);go_wp2;go_ret2;exact⟨by rw[show l A.length=l I by rw[g.out]];rfl,gM x.out ai⟩
theorem ae7(a b:Nat)(w:World)(l:a<9223372036854775808)(n:b<9223372036854775808):
 Calls prog 230 #[.int .i64 a,.int .i64 b] w λj p=>j= .returned (.int .i64 (Nat.gcd a b:Nat))/\∃q,p=w.drewN q:=by
 obtain⟨G,f⟩:∃G,G=Nat.gcd a b:=⟨_,rfl⟩;have h:=gb f;rw[<-f];clear f;go_enter func230,ntmps230;go_wp2;go_loopw [0,1] (λx y wr=>∃c d q:Nat,c<9223372036854775808/\d<9223372036854775808/\Hid (Nat.gcd c d=G)/\x= .int .i64 c/\y= .int .i64 d/\wr=w.drewN q) (λ_ y _=>(intOf y).toNat)
 case atStart=>exact⟨a,b,0,l,n,gb h.out.symm,rfl,rfl,rfl⟩
 case round=>
  obtain⟨c,d,q,s,o,e,rfl,rfl,rfl⟩:=hrel;by_cases k:0<d
  ·have v:(c:Int).tmod (d:Int)=((c%d:Nat):Int):=(gO c d).symm;have t:c%d<d:=iD _ k;have i:=gd (Nat.gcd d (c%d)=G) (by rw[<-e.out,ss c d,aks d c,ss]);clear e;generalize c%d=r at*;go_wp2;go_quiet (fail);go_wp2;go_roundw
   case rel=>exact⟨d,r,q+nq,o,by omega,i,rfl,rfl,by simp⟩
   case measure=>exact gQ
  ·obtain rfl:d=0:=(by omega);have g:=gd (G=c) (by rw[<-e.out,Cv]);clear e;go_wp2;go_ret;exact⟨by rw[g.out];rfl,q,rfl⟩
theorem Nh{b x i q:Nat}(hi:0<i)(h:b*x=q*i):b/Nat.gcd b i*(x/(i/Nat.gcd b i))=q:=by
 have d:0<Nat.gcd b i:=uI b hi;obtain⟨c,g⟩:=JI b i;obtain⟨a,k⟩:=Ge b i;have j:Nat.gcd c a=1:=by
  have:=Nat.gcd_div (JI b i) (Ge b i)
  grind [Nat.div_self,Nat.div_eq_of_eq_mul_right]
 have e:b/Nat.gcd b i=c:=Y3 d g;have f:i/Nat.gcd b i=a:=Y3 d k;rw[e,f];have n:0<a:=by
  grind
 have l:c*x=q*a:=by
  grind [Nat.mul_assoc,Nat.mul_left_comm,Nat.eq_of_mul_eq_mul_left]
 obtain⟨p,o⟩:a∣x:=(Nat.Coprime.symm j).dvd_of_dvd_mul_left ⟨q,by grind⟩
 grind [Nat.mul_div_cancel_left,Nat.mul_left_comm,Nat.mul_comm]
theorem abm(n k:Nat)(w:World)(hn:n<=1000000031)(X:k<=30)(Y:k<=n)(F:lg n k<=1152921504606846976):
 Calls prog 173 #[.int .i64 n,.int .i64 k] w λr M=>r= .returned (.int .i64 (lg n k:Nat))/\∃ai,M=w.drewN ai:=by
 obtain⟨d,l⟩:∃d,n=d+k:=⟨n-k,by omega⟩;have ad:(n:Int)-k=d:=Oa;obtain⟨B,f⟩:∃B:Nat->Nat,B=λj=>lg (d+j) j:=⟨_,rfl⟩;have y:=gd (∀j,B j*(d+j+1)=B (j+1)*(j+1)) (λj=>by grind [mB]);have q:=gd (∀a b,a<=b->B a<=B b) (λa b E=>by rw[f];exact xq d E);have v:=gd (B 0=1) (by grind [mC]);have p:lg n k=B k:=by rw[f,l]
 rw[p]at F⊢;have U:d<=1000000031:=Oa;have O:=gb l;have Z:¬(n:Int)<k:=Oa;have A:=gb (λ(a b:Nat)(w:World)=>ae7 a b w);clear p f l;go_enter func173,ntmps173;go_wp2;go_loopw [5,6] (λK i wr=>∃j ai:Nat,j<=k/\i= .int .i64 ((j:Int)+1)/\K= .int .i64 (B j:Nat)/\wr=w.drewN ai) (λ_ i _=>k+2-(intOf i).toNat)
 case atStart=>exact⟨0,0,ge _,rfl,by rw[v.out];rfl,rfl⟩
 case round=>
  obtain⟨j,ai,I,rfl,rfl,rfl⟩:=hrel;by_cases aa:j<k
  ·have s:=y.out j;have J:=q.out (j+1) k Oa;have ab:=q.out j k I;have t:=Nh (b:=B j) (x:=d+j+1) (i:=j+1) (q:=B (j+1)) Oa s;have o:=A.out (B j) (j+1) (w.drewN ai) Oa Oa;have G:0<Nat.gcd (B j) (j+1):=uI _ Oa;have H:Nat.gcd (B j) (j+1)<=j+1:=Nat.le_of_dvd Oa (Ge _ _);have V:0<(j+1)/Nat.gcd (B j) (j+1):=Nat.div_pos H G;have W:(j+1)/Nat.gcd (B j) (j+1)<=j+1:=jg _ _;rw[show((j+1:Nat):Int)=j+1 by omega]at o;obtain⟨e,h⟩:∃e,e=B (j+1):=⟨_,rfl⟩;rw[<-h]at t J;have z:=gb h;clear s h;generalize Nat.gcd (B j) (j+1)=g at*;have R:((j:Int)+1).tdiv (g:Int)=(((j+1)/g:Nat):Int):=(by grind);have S:((B j:Nat):Int).tdiv (g:Int)=((B j/g:Nat):Int):=(iS _ _).symm;have P:B j/g<=B j:=jg _ _;generalize (j+1)/g=c at*;have T:((d:Int)+((j:Int)+1)).tdiv (c:Int)=(((d+j+1)/c:Nat):Int):=(by grind);have Q:(d+j+1)/c<=d+j+1:=jg _ _;generalize (d+j+1)/c=N at*;generalize B j/g=D at*;have ac:(D:Int)*N=e:=Oa;have C:=gb o;clear t o;go_wp2_with fail;refine C.out.mono ?_;rintro r w1 ⟨rfl,L,rfl⟩;go_wp2;go_quiet (fail);go_wp2;go_roundw
   case rel=>exact⟨j+1,ai+L+nq,by omega,by go_num,by rw[z.out],by trivial⟩
   case measure=>exact gQ
  ·obtain rfl:j=k:=(by omega);exact MG
end
section
open Go.Shelf
theorem GC(v:Value)(m k:Nat)(w:World)(Q:1<=k)(d:k<=30)(f:m<=1000000000)(p:Sl w v (mp (jr k m))):
 Calls prog 91 #[v,.int .i64 k] w λe J=>e= .returned (.int .i64 (BF k (jr k m) (jr k m).length:Nat))/\∃ai,J=w.drewN ai:=by
 have j:=gb (λi c=>oK k m i f d c);have l:=gb (λi c=>Fk (k:=k) (m:=m) (i:=i) f d c);have h:=gb (CW (k:=k) (m:=m) f d);have x:=gd (∀I,BF k (jr k m) (I+1)=BF k (jr k m) I+lg ((jr k m).getD I 0) (k-1-I)) (λI=>rfl);have t:=gd (BF k (jr k m) 0=0) rfl;have E:=pW k m;have s:=gb (λ(n k:Nat)(w:World)(z:n<=1000000031)(B:k<=30)(C:k<=n)(D:lg n k<=1152921504606846976)=>abm n k w z B C D);obtain⟨K,O,N,rfl,b,R,q⟩:=p.open;rw[qe]at b
 have r:=gd (∀I,I<N->(mp (jr k m))[I]?.getD 0=(((jr k m).getD I 0:Nat):Int)) (λI g=>by
  rw[<-gc,CZ _ _ (by rw[b.out];exact g)])
 rw[b.out]at j l h E⊢;clear p;generalize BF k (jr k m)=y at*;generalize mp (jr k m)=nA at*;generalize jr k m=A at*;go_enter func91,ntmps91;go_wp2;go_loopw [5,6] (λF i wr=>∃I ai:Nat,I<=N/\i= .int .i64 I/\F= .int .i64 (y I:Nat)/\wr=w.drewN ai) (λ_ i _=>N-(intOf i).toNat)
 case atStart=>exact⟨0,0,ge _,rfl,by rw[t.out];rfl,rfl⟩
 case round=>
  obtain⟨I,ai,g,rfl,rfl,rfl⟩:=hrel;by_cases a:I<N
  ·obtain⟨L,T,rfl,P,o⟩:=q Oa;have c1:=o I a;rw[r.out I a]at c1;obtain⟨U,p2,G,V⟩:=j.out I a;obtain⟨W,H⟩:=l.out I a;have S:=h.out I g;have fF:=gb (x.out I);have fu:=gb (s.out (A.getD I 0) (k-1-I) (w.drewN ai) Oa Oa Oa Oa);have dq:(k:Int)-1-I=((k-1-I:Nat):Int):=Oa;clear o q G H;generalize lg (A.getD I 0) (k-1-I)=M at*;exact O2
  ·obtain rfl:I=N:=(by omega);exact MG
end
def vO(t:Nat×Nat×Nat):gP:=[(t.1:Int),(t.2.1:Int),(t.2.2:Int)].mergeSort λx y=>decide (x<=y)
theorem y7(t:Nat×Nat×Nat):(vO t).length=3:=by grind [vO,List.length_mergeSort]
def TS(d:World)(b:Nat)(v:Int)(L:List (Nat×Nat×Nat))(w:World):Prop:=
 ∃(a:Option Addr)(c:Nat),hU w b 194 [.slice a L.length c,.int .i64 v]/\OL (b+1) w.heap.size w (.slice a L.length c) (L.map vO)/\Below b d w
theorem y6(n:World)(b x y z:Nat)(v:Int)(L:List (Nat×Nat×Nat))(w:World)(hL:L.length<=100000)(aj:n.heap.size<=b)(h:TS n b v L w):
 Calls prog 255 #[.pointer (some ⟨b,0,none⟩),.int .i64 x,.int .i64 y,.int .i64 z] w λe l=>(∃ah,e= .returned ah)/\TS n b v (L++[(x,y,z)]) l:=by
 obtain⟨o,p,q,E,G⟩:=h;have ab:=q.lt;have J:OI w.heap.size (w.alloc (.cells #[.int .i64 x,.int .i64 y,.int .i64 z] 3)) (.slice (some ⟨w.heap.size,0,none⟩) 3 3) [(x:Int),(y:Int),(z:Int)]:=Ow.lit 3 w.heap.size w #[.int .i64 x,.int .i64 y,.int .i64 z] 3 (fZ _) rfl Oc;have B:=gd (Calls prog 268 #[.slice (some ⟨w.heap.size,0,none⟩) 3 3] (w.alloc (.cells #[.int .i64 x,.int .i64 y,.int .i64 z] 3)) λe l=>e= .returned (.tuple #[])/\OI w.heap.size l (.slice (some ⟨w.heap.size,0,none⟩) 3 3) (vO (x,y,z))/\(w.alloc (.cells #[.int .i64 x,.int .i64 y,.int .i64 z] 3)).grownBy l (some w.heap.size)) (Jf [(x:Int),(y:Int),(z:Int)] w.heap.size w.heap.size 3 _ J On);have s:=gb (q.alloc (.cells #[.int .i64 x,.int .i64 y,.int .i64 z] 3));have A:=gb (E.below ((f0 w.heap.size w).alloc (fZ _) (.cells #[.int .i64 x,.int .i64 y,.int .i64 z] 3)));have V:=gd ((L++[(x,y,z)]).map vO=L.map vO++[vO (x,y,z)]) On;have ai:=gd ((L++[(x,y,z)]).length=L.length+1) On;have t:=gb (G.alloc (ly ab) (.cells #[.int .i64 x,.int .i64 y,.int .i64 z] 3));generalize vO (x,y,z)=bl at*;clear q E G J;go_enter func255,ntmps255;go_wp2_with fail;refine B.out.mono ?_;rintro e c ⟨rfl,M,d⟩;have f:=s.out.kept d Oo;have Z:=A.out.kept d (λk e=>by grind);have D:=t.out.grown d Oo (λk e=>by grind);have H:=f.cell 0;have af:b+1<=c.heap.size:=by have:=d.size;simp at this;omega
 obtain⟨j,i,N,O,P⟩:=Z;have R:=gb f;have S:=gb D;have T:=gb M;have W:=gb N;have X:=gb O;have Y:=gb P;have ag:j.length<=1000000000000:=by grind
 have I:j.length=L.length:=by grind
 have U:=gb I;have ak:b<c.heap.size:=Oa;have an:=f.frozen 0;have al:c.cell? ⟨b,0,none⟩=some (.slice o L.length p):=H;clear f D M N O P d B s t A H I
 go_wp2_with (first
  |(at_builtin;refine jt c _ _ 46 45 (.slice none 0 0) 24 rfl rfl underlying46 info45 rfl Oc (b+1) _ j rfl i rfl rfl ag af ?_
    intro C c3 Q ae a aq ap;have a:c.grownBy Q (Value.slice o L.length p).ownBlock:=a;have ac:some b≠(Value.slice o L.length p).ownBlock:=λe=>by
     have:=(i.lt b e.symm).1;exact Oa
    have r:=R.out.kept a ac;have am:=r.cell 0
    have ao:=r.frozen 0)
  |fail)
 have ad:=OL.snoc i W.out X.out Y.out T.out (show b+1<=w.heap.size by omega) ae a;have g:=r.stored 0 (.slice (some ⟨C,0,none⟩) (j.length+1) c3);have K:=(ad.kept g.2 (λk e=>by grind)).mono (fZ _) g.2.size;have aa:=S.out.grown a (show b<=c.heap.size by omega) (λk e=>by have:=(i.lt k e).1;omega);have F:=aa.grown g.2 (show b<=Q.heap.size by have:=a.size;omega) (λk e=>by grind);rw[<-V.out]at K;rw[U.out]at g K F⊢;go_end0;refine⟨⟨_,rfl⟩,some ⟨C,0,none⟩,c3,?_,?_,F⟩
 ·grind
 grind
def r3(f:Nat->Nat×Nat×Nat)(i:Nat):List (Nat×Nat×Nat):=(List.range i).map f
theorem uj(f:Nat->Nat×Nat×Nat)(i:Nat):r3 f i++[f i]=r3 f (i+1):=by grind [r3,List.range_succ]
theorem xR(f:Nat->Nat×Nat×Nat)(i:Nat):(r3 f i).length=i:=by simp[r3]
def ye(m x y h i:Nat):Nat×Nat×Nat:=(x+m*i,y+m*i,h+m*((i+1)%3))
def tR(g:Nat->Nat->Nat)(m x:Nat):Nat->List (Nat×Nat×Nat)
 |0=>[]
 |j+1=>tR g m x j++r3 (ye m x (x+1+j) (g x (x+1+j))) 3
theorem rF(g:Nat->Nat->Nat)(m x:Nat):∀j,(tR g m x j).length=3*j
 |0=>rfl
 |j+1=>by rw[tR,gz,rF g m x j,xR];omega
def uP(t m x y:Nat):Nat:=(x+y)*(t+1)%m
def JN(t m:Nat):Nat->List (Nat×Nat×Nat)
 |0=>[]
 |x+1=>(JN t m x++[(x,x+m,x+2*m)])++tR (uP t m) m x (m-(x+1))
theorem Tk(t m:Nat)(a:m<=11):∀x,x<=m->(JN t m x).length<=40*x
 |0,_=>ge _
 |x+1,h=>by
  rw[JN,gz,gz,rF];have:=Tk t m a x Oa
  grind
def X5(t m x i:Nat):Nat×Nat×Nat:=(6*t,x+t+m*i,x+m*((i+1)%3))
def JT(t m:Nat):Nat->List (Nat×Nat×Nat)
 |0=>[]
 |x+1=>(JT t m x++[(x,x+m,x+2*m)])++r3 (X5 t m x) 3
theorem zB(t m:Nat):∀x,(JT t m x).length=4*x
 |0=>rfl
 |x+1=>by
  rw[JT,gz,gz,xR,zB t m x]
  grind
def vH(t m x y:Nat):Nat:=if(x+y)%m%2=0 then(x+y)%m/2 else((x+y)%m-1)/2+t
def Gp(t m:Nat):Nat->List (Nat×Nat×Nat)
 |0=>JT t m t
 |x+1=>Gp t m x++tR (vH t m) m x (m-(x+1))
theorem VH(t m:Nat)(a:m<=11)(b:t<=5):∀x,x<=m->(Gp t m x).length<=40*x+20
 |0,_=>by rw[Gp,zB];omega
 |x+1,h=>by
  rw[Gp,gz,rF];have:=VH t m a b x Oa;exact Oa
theorem aac(W0:World)(b t:Nat)(v:Int)(w:World)(O:t<=5)(aF:W0.heap.size<=b)(h:TS W0 b v [] w):
 Calls prog 205 #[.pointer (some ⟨b,0,none⟩),.int .i64 t] w λe E=>(∃ah,e= .returned ah)/\TS W0 b v (JN t (2*t+1) (2*t+1)) E:=by
 obtain⟨m,l⟩:∃m,m=2*t+1:=⟨_,rfl⟩;rw[<-l];have L:2*(t:Int)+1=m:=Oa;have dF:m<=11:=Oa;have J:1<=m:=Oa;have r:=gd (∀x,JN t m (x+1)=(JN t m x++[(x,x+m,x+2*m)])++tR (uP t m) m x (m-(x+1))) (λx=>rfl);have q:=gb (Tk t m dF);have i:=gb h;have p:=gd (JN t m 0=[]) rfl;generalize JN t m=c at*;clear h l;go_enter func205,ntmps205;go_wp2;go_loopw [13] (λf wr=>∃x:Nat,x<=m/\f= .int .i64 x/\TS W0 b v (c x) wr) (λf _=>m-(intOf f).toNat)
 case atStart=>exact⟨0,ge _,rfl,by rw[p.out];exact i.out⟩
 case round=>
  clear i;obtain⟨x,C,rfl,a6⟩:=hrel;by_cases P:x<m
  ·have cT:(x:Int)<m:=(by omega);have I:=q.out x C;have fH:=gd ((c x++[(x,x+m,x+2*m)]).length<=500) (by grind);have s:=gb (r.out x);obtain⟨A,hA⟩:∃A,A=x+m:=⟨_,rfl⟩;obtain⟨Bq,hB⟩:∃Bq,Bq=x+2*m:=⟨_,rfl⟩;have fd:(x:Int)+m=A:=Oa;have fc:(x:Int)+2*m=Bq:=Oa;have fG:A<=1000:=Oa;have fv:Bq<=1000:=Oa;have eX:=gd ((x,x+m,x+2*m)=(x,A,Bq)) (by rw[hA,hB]);clear hA hB;have dZ:=gb (y6 W0 b x A Bq v _ wr Oa aF a6);rw[<-eX.out]at dZ;clear a6;go_wp2_with fail;refine dZ.out.mono ?_;rintro e aj ⟨⟨ah,rfl⟩,eB⟩;have dL:=gb eB;clear eB dZ;generalize c x++[(x,x+m,x+2*m)]=a at*;go_wp2;go_loopw [6] (λg wr=>∃y j:Nat,y=x+1+j/\g= .int .i64 y/\y<=m/\TS W0 b v (a++tR (uP t m) m x j) wr) (λg _=>m-(intOf g).toNat)
   case atStart=>exact⟨x+1,0,rfl,by go_num,by omega,by rw[show a++tR (uP t m) m x 0=a from jb _];exact dL.out⟩
   case round=>
    clear dL;obtain⟨y,j,o,rfl,S,a6⟩:=hrel;have eQ:=gb o;have Q:x+1<=y:=Oa;clear o;by_cases R:y<m
    ·have D:(y:Int)<m:=(by omega);have k:=gd (tR (uP t m) m x (j+1)=tR (uP t m) m x j++r3 (ye m x y ((uP t m) x y)) 3) (by rw[eQ.out];rfl);have dD:=gd ((a++tR (uP t m) m x j).length<=1000) U8;have da:=gd ((a++tR (uP t m) m x j)++r3 (ye m x y ((uP t m) x y)) 3=a++tR (uP t m) m x (j+1)) (by rw[k.out,iN]);have B:(x:Int)+y=((x+y:Nat):Int):=Oa;have z:((x+y:Nat):Int)*((t:Int)+1)=(((x+y)*(t+1):Nat):Int):=OK;have M:(x+y)*(t+1)<=22*6:=gE Oa Oa;have K:(((x+y)*(t+1):Nat):Int).tmod (m:Int)=((uP t m x y:Nat):Int):=(gO _ _).symm;have G:uP t m x y<m:=iD _ Oa;generalize (x+y)*(t+1)=PR at*;obtain⟨sm,n⟩:∃sm,x+y=sm:=⟨_,rfl⟩;rw[n]at B z;have N:sm<=22:=Oa;clear n;have dL:=gb a6;clear a6 k;generalize a++tR (uP t m) m x j=L2 at*;generalize (uP t m) x y=h at*;go_wp2;go_loopw [43] (λd F=>∃H:Nat,H<=3/\d= .int .i64 H/\TS W0 b v (L2++r3 (ye m x y h) H) F) (λd _=>3-(intOf d).toNat)
     case atStart=>exact⟨0,ge _,rfl,by rw[show L2++r3 (ye m x y h) 0=L2 from jb _];exact dL.out⟩
     case round=>
      exact KA
    ·have D:¬(y:Int)<m:=(by omega);have bw:=gb a6;rw[show j=m-(x+1)by have:=eQ.out;omega]at bw;clear a6;rw[<-s.out]at bw;exact MN
  ·exact QM
theorem RB(W0:World)(b t:Nat)(v:Int)(w:World)(V:t<=5)(aF:W0.heap.size<=b)(h:TS W0 b v [] w):
 Calls prog 206 #[.pointer (some ⟨b,0,none⟩),.int .i64 t] w λe X=>(∃ah,e= .returned ah)/\TS W0 b v (Gp t (2*t) (2*t)) X:=by
 obtain⟨m,E⟩:∃m,m=2*t:=⟨_,rfl⟩;rw[<-E];have Z:2*(t:Int)=m:=Oa;have dF:m<=11:=Oa;have af:t<=m:=Oa;have s:=gd (∀x,JT t m (x+1)=(JT t m x++[(x,x+m,x+2*m)])++r3 (X5 t m x) 3) (λx=>rfl);have r:=gb (zB t m);have N:=gb (VH t m dF V);have O:=gd (∀x,Gp t m (x+1)=Gp t m x++tR (vH t m) m x (m-(x+1))) (λx=>rfl);have C:=gd (Gp t m 0=JT t m t) rfl;have o:=gb h;have p:=gd (JT t m 0=[]) rfl;generalize JT t m=i at*;generalize Gp t m=a at*;clear h E;go_enter func206,ntmps206;go_wp2;go_loopw [14] (λc wr=>∃x:Nat,x<=t/\c= .int .i64 x/\TS W0 b v (i x) wr) (λc _=>t-(intOf c).toNat)
 case atStart=>exact⟨0,ge _,rfl,by rw[p.out];exact o.out⟩
 case round=>
  clear o;obtain⟨x,l,rfl,a6⟩:=hrel;by_cases J:x<t
  ·have cT:(x:Int)<t:=(by omega);have S:=r.out x;have dD:=gd ((i x++[(x,x+m,x+2*m)]).length<=1000) (by grind);have M:=gb (s.out x);obtain⟨A,hA⟩:∃A,A=x+m:=⟨_,rfl⟩;obtain⟨Bq,hB⟩:∃Bq,Bq=x+2*m:=⟨_,rfl⟩;have fd:(x:Int)+m=A:=Oa;have fc:(x:Int)+2*m=Bq:=Oa;have fG:A<=1000:=Oa;have fv:Bq<=1000:=Oa;have eX:=gd ((x,x+m,x+2*m)=(x,A,Bq)) (by rw[hA,hB]);clear hA hB;have dZ:=gb (y6 W0 b x A Bq v _ wr Oa aF a6);rw[<-eX.out]at dZ;clear a6;go_wp2_with fail;refine dZ.out.mono ?_;rintro e aj ⟨⟨ah,rfl⟩,eB⟩;have dL:=gb eB;clear eB dZ;generalize i x++[(x,x+m,x+2*m)]=d at*;go_wp2;go_loopw [29] (λiv wq=>∃H:Nat,H<=3/\iv= .int .i64 H/\TS W0 b v (d++r3 (X5 t m x) H) wq) (λiv _=>3-(intOf iv).toNat)
   case atStart=>exact⟨0,ge _,rfl,by rw[show d++r3 (X5 t m x) 0=d from jb _];exact dL.out⟩
   case round=>
    clear dL;obtain⟨H,hi,rfl,a6⟩:=hrel;by_cases fb:H<3
    ·have aS:(H:Int)<3:=(by omega);have cd:(m:Int)*H=((m*H:Nat):Int):=(gI _ _).symm;have dv:((H:Int)+1).tmod 3=(((H+1)%3:Nat):Int):=Me;have bj:(m:Int)*(((H+1)%3:Nat):Int)=((m*((H+1)%3):Nat):Int):=(gI _ _).symm;have av:m*H<=11*3:=gE dF hi;have ar:m*((H+1)%3)<=11*3:=gE dF Oa;have cF:=gb (uj (X5 t m x) H);have eE:=gd ((X5 t m x) H=(6*t,x+t+m*H,x+m*((H+1)%3))) rfl;have fi:(d++r3 (X5 t m x) H).length<=100000:=Sv;generalize (H+1)%3=p3 at*;generalize m*p3=P3 at*;generalize m*H=P1 at*;obtain⟨A,hA⟩:∃A,A=6*t:=⟨_,rfl⟩;obtain⟨Bq,hB⟩:∃Bq,Bq=x+t+P1:=⟨_,rfl⟩;obtain⟨Cq,hC⟩:∃Cq,Cq=x+P3:=⟨_,rfl⟩;have fd:6*(t:Int)=A:=Oa;have fc:(x:Int)+t+P1=Bq:=Oa;have fQ:(x:Int)+P3=Cq:=Oa;have eX:=gd ((6*t,x+t+P1,x+P3)=(A,Bq,Cq)) DU;have fv:Bq<=1000:=Oa;have fP:Cq<=1000:=Oa;clear hA hB hC;have dZ:=gb (y6 W0 b A Bq Cq v _ wr fi aF a6);have fh:=gd ((d++r3 (X5 t m x) H)++[(A,Bq,Cq)]=d++r3 (X5 t m x) (H+1)) QL;exact K5
    ·obtain rfl:H=3:=(by omega);rw[<-M.out]at a6;have bw:=gb a6;clear a6;exact MN
  ·have K:x=t:=(by omega);have cT:¬(x:Int)<t:=Oa;have bw:=gb a6;rw[K]at bw;clear K;rw[<-C.out]at bw;clear a6 r s p C;go_wp2;go_loopw [55] (λc wr=>∃z:Nat,z<=m/\c= .int .i64 z/\TS W0 b v (a z) wr) (λc _=>m-(intOf c).toNat)
   case atStart=>exact⟨0,ge _,rfl,bw.out⟩
   case round=>
    clear bw l J cT;obtain⟨x,l,rfl,a6⟩:=hrel;by_cases J:x<m
    ·have cT:(x:Int)<m:=(by omega);have S:=N.out x l;have fH:=gd ((a x).length<=500) Oa;have P:=gb (O.out x);have dL:=gb a6;clear a6;go_wp2;go_loopw [8] (λn wr=>∃y j:Nat,y=x+1+j/\n= .int .i64 y/\y<=m/\TS W0 b v ((a x)++tR (vH t m) m x j) wr) (λn _=>m-(intOf n).toNat)
     case atStart=>exact⟨x+1,0,rfl,by go_num,by omega,by rw[show(a x)++tR (vH t m) m x 0=(a x)from jb _];exact dL.out⟩
     case round=>
      clear dL;obtain⟨y,j,L,rfl,ak,a6⟩:=hrel;have eQ:=gb L;have ag:x+1<=y:=Oa;clear L;by_cases ai:y<m
      ·have W:(y:Int)<m:=(by omega);have B:=gd (tR (vH t m) m x (j+1)=tR (vH t m) m x j++r3 (ye m x y ((vH t m) x y)) 3) (by rw[eQ.out];rfl);have dD:=gd (((a x)++tR (vH t m) m x j).length<=1000) U8;have da:=gd (((a x)++tR (vH t m) m x j)++r3 (ye m x y ((vH t m) x y)) 3=(a x)++tR (vH t m) m x (j+1)) (by rw[B.out,iN]);have U:(x:Int)+y=((x+y:Nat):Int):=Oa;have T:((x+y:Nat):Int).tmod (m:Int)=(((x+y)%m:Nat):Int):=(gO _ _).symm;have ad:(x+y)%m<m:=iD _ Oa;have g:=gd (vH t m x y=if(x+y)%m%2=0 then(x+y)%m/2 else((x+y)%m-1)/2+t) rfl;generalize (x+y)%m=q at*;obtain⟨sm,I⟩:∃sm,x+y=sm:=⟨_,rfl⟩;rw[I]at U T;have ae:sm<=22:=Oa;clear I;have dL:=gb a6;clear a6 B;generalize (a x)++tR (vH t m) m x j=L2 at*;generalize (vH t m) x y=h at*;have G:(q:Int).tmod 2=((q%2:Nat):Int):=(gO _ _).symm;by_cases D:q%2=0
       ·have aa:(q:Int).tmod 2=0:=(by omega);have k:h=q/2:=(by have:=g.out;simp_all);have Q:(q:Int).tdiv 2=(h:Int):=OK;have R:h<m:=Oa;clear G D k g;exact Q2
       ·have ab:(q:Int).tmod 2=1:=(by omega);have k:h=(q-1)/2+t:=(by have:=g.out;simp_all);obtain⟨f,F⟩:∃f,(q-1)/2=f:=⟨_,rfl⟩;have Q:((q:Int)-1).tdiv 2=(f:Int):=(by rw[Y1 Oa,<-F];omega);have Y:(f:Int)+t=h:=Oa;have R:h<=20:=Oa;have ac:f<=20:=Oa;clear G D k g F;exact Q2
      ·have W:¬(y:Int)<m:=(by omega);have bw:=gb a6;rw[show j=m-(x+1)by have:=eQ.out;omega]at bw;clear a6;rw[<-P.out]at bw;exact MN
    ·exact QM
end Go.Proofs.YtnnaadmegeeinaaGreatDoor
