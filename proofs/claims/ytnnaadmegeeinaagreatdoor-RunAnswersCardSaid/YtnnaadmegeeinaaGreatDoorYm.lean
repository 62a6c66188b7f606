/-
  Part 13 of a proof: what it proves stands in the last text.
-/
import Derived.Test.YtnnaadmegeeinaaGreatDoorYl
set_option linter.all false
set_option maxHeartbeats 8000000
set_option maxRecDepth 100000
namespace Go.Proofs.YtnnaadmegeeinaaGreatDoor
open Tryz Go.Proofs.Tryz
open Go.RowKit
def ahZ:=@wp_store_mid
theorem Oj{p:Prop}(h:p:=by
 subst hE;clear dY bt cL;have t8:wr.there (w.heap.size+1) 0 (#[Value.int .i64 0,Value.int .i64 0,Value.slice none 0 0,Value.int .i64 0]:Array Value).size:=HR.out.1.there;have dc:hU (wr.setCells (w.heap.size+1) 0 [Value.int .i64 0,Value.int .i64 0,Value.slice none 0 0,Value.int .i64 0]) (w.heap.size+1) 172 [Value.int .i64 0,Value.int .i64 0,Value.slice none 0 0,Value.int .i64 0]:=hU.setCells [Value.int .i64 0,Value.int .i64 0,Value.slice none 0 0,Value.int .i64 0] [] _ wr HR.out.1 rfl;have cb:=iu (b:=w.heap.size+1) [Value.int .i64 0,Value.int .i64 0,Value.slice none 0 0,Value.int .i64 0] 0 wr;have H9:=gR dc (HR.out.2.grown cb HR.out.2.size (λk h=>by grind));clear dc cb;go_wp2_with (refine iA rfl 172 _ _ rfl (w.heap.size+1) 0 #[Value.int .i64 0,Value.int .i64 0,Value.slice none 0 0,Value.int .i64 0] rfl rfl t8 cX (ru _ _ _ _ _ _) ?_;show wpList _ _ _ _ _ (wr.setCells (w.heap.size+1) 0 [Value.int .i64 0,Value.int .i64 0,Value.slice none 0 0,Value.int .i64 0]));have bx:=gV (P:=prog) _ _ _ 172 _ _ H9.out.1.range underlying172 rfl cX;refine⟨rfl,.tuple #[rm0,.int .i64 1],?_,rfl,H9.out.2⟩
 exact Mp):p:=h
theorem OC{p:Prop}(h:p:=by
 subst hE;clear dY bt;go_wp2_with (refine iA rfl 172 _ _ rfl (w.heap.size+1) 0 #[Value.int .i64 0,Value.int .i64 0,Value.slice none 0 0,Value.int .i64 0] rfl rfl t8 cX (ru _ _ _ _ _ _) ?_;show wpList _ _ _ _ _ (wr.setCells (w.heap.size+1) 0 [Value.int .i64 0,Value.int .i64 0,Value.slice none 0 0,Value.int .i64 0]));have bx:=gV (P:=prog) _ _ _ 172 _ _ H9.out.1.range underlying172 rfl cX;refine⟨rfl,.tuple #[rm0,.int .i64 1],?_,rfl,H9.out.2⟩;show((results _ _).run _ _)=_
 simp[results,f184,asAddr,bx,rm0,Ec]):p:=h
theorem Mp{p:Prop}(h:p:=by
 show((results _ _).run _ _)=_
 simp[results,f236,asAddr,bx,rm0,Ec]):p:=h
theorem MU{p:Prop}(h:p:=by
 unfold execOp;simp only[ho,Act.eval,r0]
 exact M4):p:=h
theorem M4{p:Prop}(h:p:=by
 go_simp
 all_goals (try rfl)):p:=h
theorem Dq{p:Prop}(h:p:=by
 have:=e3.there
 simpa [jS,kg,apply_ite List.length]using this):p:=h
theorem DG{p:Prop}(h:p:=by
 intro e;obtain⟨h1,h2,h3⟩:=h.a7 e
 exact⟨h1,h2,h3.below J⟩):p:=h
theorem DH{p:Prop}(h:p:=by
 intro e;obtain⟨h1,h2,h3⟩:=h.a8 e
 exact⟨h1,h2,h3.below J⟩):p:=h
theorem PM{p:Prop}(h:p:=by
 rw[(hl 10).trans (gh Oa),(hl 11).trans (gh Oa)]
 exact h.ne):p:=h
theorem P5{p:Prop}(h:p:=by
 rw[hl,gh Oa]at d8
 exact h.rd j hj d8):p:=h
theorem P6{p:Prop}(h:p:=by
 intro j h7 h8 hj;rw[hp,gh Oa]
 exact h.oth j h7 h8 hj):p:=h
theorem Qn{p:Prop}(h:p:=by
 rw[(hl 10).trans (gh Oa),(hl 12).trans (gh Oa),(hp 7).trans (gh Oa)]
 exact DG):p:=h
theorem Qo{p:Prop}(h:p:=by
 rw[(hl 11).trans (gh Oa),(hl 13).trans (gh Oa),(hp 8).trans (gh Oa)]
 exact DH):p:=h
theorem QN{p:Prop}(h:p:=by
 rw[(hl 12).trans (gh Oa),(hl 10).trans (gh Oa)]
 exact h.o12):p:=h
theorem QO{p:Prop}(h:p:=by
 rw[(hl 13).trans (gh Oa),(hl 11).trans (gh Oa)]
 exact h.o13):p:=h
theorem vd{p q r s t:Prop}(P:p)(Q:q)(R:r)(S:s)(T:t):Hid (p/\q/\r/\s/\t):=⟨P,Q,R,S,T⟩
theorem afU{p q r s t u:Prop}(P:p)(Q:q)(R:r)(S:s)(T:t)(U:u):Hid (p/\q/\r/\s/\t/\u):=⟨P,Q,R,S,T,U⟩
theorem Xb:∀K,K<7->∀P,P<9->2<=K->2<=P->P^K<=64->((List.range (P^K)).all λn=>yp P K (jo P n 7)==rdF P K (jo P n K))=true:=OH
theorem abC(P:Nat)(l:gA):yp P 1 l=true:=rfl
theorem ajZ(P:Nat)(l:gA):rdF P 1 l=true:=rfl
theorem DR{P K:Nat}(b:2<=K)(h:P^K<=64):P<9:=by
 rcases jh P 9 with a|a
 ·exact a
 ·have c:P^2<=P^K:=gN Oa b;have d:9^2<=P^2:=oG a 2;exact Oa
theorem ahK{P K n:Nat}(h:jp P K≠0)(g:n<jp P K):yp P K (jo P n 7)=rdF P K (jo P n K):=by
 obtain⟨b,a,c,d,l,j,k,e,f,o,i⟩:=lU h;obtain rfl:P=b:=Oa;obtain rfl:K=a:=Oa
 grind [abC,ajZ,Xb,DR]
theorem Xa:∀K,K<7->∀P,P<9->(!(decide (2<=K)&&decide (2<=P)&&decide (P^K<=64)&&m0 P)||((List.range (P^K)).any λn=>yp P K (jo P n 7)))=true:=OH
theorem abU(p:Nat->Bool):∀n,p n=true->∃m,m<=n/\p m=true/\∀k,k<m->p k=false:=by
 intro n
 induction n using Nat.strongRecOn with
 |_ n a=>
  grind
theorem Ib{P K:Nat}(h:jp P K≠0):∃a,a<jp P K/\yp P K (jo P a 7)=true/\∀n,n<a->yp P K (jo P n 7)=false:=by
 obtain⟨c,b,i,j,x,v,w,p,q,g,s⟩:=lU h;obtain rfl:P=c:=Oa;obtain rfl:K=b:=Oa;have e:∃n,n<P^K/\yp P K (jo P n 7)=true:=by
  by_cases f:K=1
  ·subst f;exact⟨0,by simp;omega,abC _ _⟩
  ·have t:m0 P=true:=(by grind [zw]);have:=Xa K Oa P (DR Oa g)
   grind
 obtain⟨n,r,d⟩:=e;obtain⟨m,k,l,o⟩:=abU (λn=>yp P K (jo P n 7)) n d
 grind
theorem ad3(l:gA):pD (nZ l)=l:=by simp[pD,nZ,jL,amd]
theorem aa3{P K n:Nat}(h:jp P K≠0)(k:n<jp P K):th P K (nZ (jo P n K))=if yp P K (jo P n 7)=true then 0 else 4:=by
 obtain⟨b,a,d,e,p,c,o,g,j,q,l⟩:=lU h;obtain rfl:P=b:=Oa;obtain rfl:K=a:=Oa
 have:=aa4 h (low:=nZ (jo P n K)) (by rw[kO,kg,iZ]) (λi f=>by
  rw[<-gc,mJ];have:=ph (P:=P) (n:=n) c K i
  grind [pg])
 grind [ad3,ahK]
theorem zM(p k:Int)(w:World)(j:ja p)(i:ja k)(h:jp p k=0):
 Calls prog 55 #[.int .i64 p,.int .i64 k] w λe l=>e= .returned (.tuple #[kq 0 0 (.slice none 0 0),.int .i64 1])/\gm w l:=by
 have a:=gb (λc=>qw p k c j i);rw[h]at a;clear h;have b:Below w.heap.size w (w.alloc (.cells #[.int .i64 0,.int .i64 0,.slice none 0 0] 60)):=(f0 _ _).alloc (fZ _) _;have d:=gb b;clear b;go_enter func55,ntmps55;go_wp2_with fail;refine(a.out _).mono ?_;rintro e c ⟨rfl,rfl⟩;go_wp2;have f:hU (w.alloc (.cells #[.int .i64 0,.int .i64 0,.slice none 0 0] 60)) w.heap.size 60 [.int .i64 0,.int .i64 0,.slice none 0 0]:=hU.new w _ _;have g:=gV (P:=prog) _ _ _ 60 _ _ f.range underlying60 rfl Ob;refine⟨rfl,.tuple #[kq 0 0 (.slice none 0 0),.int .i64 1],?_,rfl,d.out⟩;show((results _ _).run _ _)=_;simp[results,f55,asAddr,g,kq]
theorem BL(P K n0:Nat)(w:World)(h:jp P K≠0)(al:n0<jp P K)(R:yp P K (jo P n0 7)=true)(N:∀n,n<n0->yp P K (jo P n 7)=false):
 Calls prog 55 #[.int .i64 P,.int .i64 K] w λf S=>(∃g,f= .returned (.tuple #[kq P K g,.int .i64 0])/\OI w.heap.size S g (nZ (jo P n0 K)))/\gm w S:=by
 obtain⟨P',K',e1,t,af,h2,ai,aj,ak,ag,ae⟩:=lU h;obtain rfl:P=P':=Oa;obtain rfl:K=K':=Oa;have HO:=gb (λe=>qw P K e (by grind [ja]) (by grind [ja]));have U:=gb (λn e (r:n<=64)=>tN P n K e Oa Oa Oa Oa)
 have V:=gb (λn (g:Value) (e:World) (A:Sl e g (nZ (jo P n K))) (r:n<jp P K)=>Zl P K g (nZ (jo P n K)) e A h (by rw[kO,kg]) (λaq Q=>by
  simp only[nZ,gK,jo,gC]at Q;obtain⟨ar,⟨q,_,rfl⟩,rfl⟩:=Q;have:dg P n q<P:=iD _ Oa
  grind [ja]))
 have W:=gb (λn (r:n<jp P K)=>aa3 h r);have hz:(((jp (P:Int) (K:Int):Nat):Int)==0)=false:=by grind
 have an:jp (P:Int) (K:Int)<=64:=Oa;have be:=gb N;have cy:=gb R;have Z:=gd (∀n,(nZ (jo P n K)).length=K) (λn=>by rw[kO,kg]);have E:hU (w.alloc (.cells #[.int .i64 0,.int .i64 0,.slice none 0 0] 60)) w.heap.size 60 [.int .i64 0,.int .i64 0,.slice none 0 0]:=hU.new w _ _;have s:=gR E ((f0 w.heap.size w).alloc (fZ _) (.cells #[.int .i64 0,.int .i64 0,.slice none 0 0] 60));clear E R N ae af ag;generalize jp (P:Int) (K:Int)=ah at*;clear h;go_enter func55,ntmps55;go_wp2_with fail;refine(HO.out _).mono ?_;rintro f e ⟨rfl,rfl⟩;go_wp2;go_loopw [7,8,9,10] (λq _ _ _ wr=>∃n:Nat,n<=n0/\q= .int .i64 n/\hU wr w.heap.size 60 [.int .i64 0,.int .i64 0,.slice none 0 0]/\gm w wr) (λq _ _ _ _=>n0-(intOf q).toNat)
 case atStart=>exact⟨0,ge _,rfl,s.out.1,s.out.2⟩
 case round=>
  clear s;obtain⟨n,r,rfl,D,J⟩:=hrel;have am:(n:Int)<ah:=Oa;have T:=gb (U.out n wr Oa);have Y:=gb (λ(g:Value)(e:World) A=>V.out n g e A Oa);have X:=gb (W.out n Oa);have i:=gR D J
  have hB:=gd (n=n0/\yp P K (jo P n 7)=true\/n<n0/\yp P K (jo P n 7)=false) (by
   exact SY)
  have C:=gb (Z.out n);clear D J;go_wp2_with fail;refine T.out.mono ?_;rintro f k ⟨⟨u2,rfl,p⟩,y⟩;have p:OI wr.heap.size k u2 (nZ (jo P n K)):=p;obtain⟨a,c2,t⟩:=p.len;rw[C.out]at t;subst t;have v:=i.out.1.below y;have z:=i.out.2.trans (y.mono i.out.2.size);have H:hU (k.alloc (.cells #[.int .i64 (P:Int),.int .i64 (K:Int),.slice a K c2] 60)) k.heap.size 60 [.int .i64 (P:Int),.int .i64 (K:Int),.slice a K c2]:=hU.new k _ _;have c:=afU H (v.alloc (.cells #[.int .i64 (P:Int),.int .i64 (K:Int),.slice a K c2] 60)) (z.alloc z.size (.cells #[.int .i64 (P:Int),.int .i64 (K:Int),.slice a K c2] 60)) (p.alloc (.cells #[.int .i64 (P:Int),.int .i64 (K:Int),.slice a K c2] 60)) i.out.2.size v.lt;have j:=gb (Y.out (.slice a K c2) (k.alloc (.cells #[.int .i64 (P:Int),.int .i64 (K:Int),.slice a K c2] 60)) (OI.sl c.out.2.2.2.1 (by rw[C.out];omega)));rw[X.out]at j;unfold kq at j;clear p y v z H;rcases hB.out with⟨rfl,G⟩|⟨hl,F⟩
  ·rw[G,gl rfl]at j;clear G;go_wp2_with fail;refine j.out.mono ?_;rintro f l ⟨rfl,d⟩;have I:=c.out.1.below d;have x:=c.out.2.1.below d;have O:=c.out.2.2.2.1.below d;have L:=c.out.2.2.1.trans (d.mono c.out.2.2.1.size);have r6:=I.range;have B:(prog.info? 60).map (·.size)=some 3:=Ob;have t8:l.there w.heap.size 0 (#[Value.int .i64 (P:Int),Value.int .i64 (K:Int),Value.slice a K c2]:Array Value).size:=x.there;have o:=ju x L O;clear d I x O L
   go_wp2_with (first
    |(refine ii rfl 60 _ rfl k.heap.size 0 rfl [.int .i64 (P:Int),.int .i64 (K:Int),.slice a K c2] _ r6 underlying60 rfl B ?_)
    |(refine iA rfl 60 _ _ rfl w.heap.size 0 #[Value.int .i64 (P:Int),Value.int .i64 (K:Int),Value.slice a K c2] rfl rfl t8 B (zk _ _ _ _ _) ?_;show wpList _ _ _ _ _ (l.setCells w.heap.size 0 [Value.int .i64 (P:Int),Value.int .i64 (K:Int),Value.slice a K c2])))
   have aa:hU (l.setCells w.heap.size 0 [Value.int .i64 (P:Int),Value.int .i64 (K:Int),Value.slice a K c2]) w.heap.size 60 [Value.int .i64 (P:Int),Value.int .i64 (K:Int),Value.slice a K c2]:=hU.setCells [Value.int .i64 (P:Int),Value.int .i64 (K:Int),Value.slice a K c2] [] _ l o.out.1 rfl;have M:=iu (b:=w.heap.size) [Value.int .i64 (P:Int),Value.int .i64 (K:Int),Value.slice a K c2] 0 l;have ab:=o.out.2.1.grown M o.out.2.1.size (λap h=>by grind);have ao:w.heap.size<wr.heap.size:=i.out.1.lt
   have ad:=(o.out.2.2.kept M (.inr (λf=>by
    have:=(o.out.2.2.lt _ f).1
    omega))).mono i.out.2.size
   have ac:=gV (P:=prog) _ _ _ 60 _ _ aa.range underlying60 rfl B;refine⟨rfl,.tuple #[kq P K (.slice a K c2),.int .i64 0],?_,⟨_,rfl,ad⟩,ab⟩;show((results _ _).run _ _)=_;simp[results,f55,asAddr,ac,kq]
  ·rw[F,gh Oc]at j;clear F;go_wp2_with fail;refine j.out.mono ?_;rintro f l ⟨rfl,d⟩;have HX:=gR (c.out.2.1.below d) (c.out.2.2.1.trans (d.mono c.out.2.2.1.size));clear d;exact Uu
def Ec(p k:Int)(u:Value)(q:Int):Value:= .agg #[.int .i64 p,.int .i64 k,u,.int .i64 q]
def rm0:Value:=Ec 0 0 (.slice none 0 0) 0
def lJ(P:Nat):gA->Nat
 |[]=>0
 |x::l=>x+P*lJ P l
theorem EX(P j:Nat):dg P 0 j=0:=by simp[dg]
theorem afq{P x m:Nat}(a:x<P)(j:Nat):dg P (x+P*m) (j+1)=dg P m j:=by
 unfold dg;rw[mS,ka (P^j) P,<-wX,akq _ _ Oa,qu a,iL]
theorem uW{P:Nat}:∀(l:gA),(∀j,l.getD j 0<P)->∀j,dg P (lJ P l) j=l.getD j 0
 |[],_,j=>by rw[lJ,EX];rfl
 |x::l,h,0=>by
  have a:x<P:=h 0;show(x+P*lJ P l)/P^0%P=x;rw[Gf,Nat.div_one,Nat.add_mul_mod_self_left,ox a]
 |x::l,h,j+1=>by
  have a:x<P:=h 0;rw[lJ,afq a];exact uW l (λj=>h (j+1)) j
theorem qf{P:Nat}:∀(l:gA),(∀j,l.getD j 0<P)->lJ P l<P^l.length
 |[],_=>by simp[lJ]
 |x::l,h=>by
  have b:x<P:=h 0;have a:=qf l (λj=>h (j+1));rw[lJ,iP,mS,ka (P^l.length) P];have:P*(lJ P l+1)<=P*P^l.length:=iI _ a
  grind
theorem TF{P:Nat}{l:gA}(h:∀j,l.getD j 0<P):jo P (lJ P l) l.length=l:=by
 apply jd
 ·rw[kg]
 grind [jo,uW]
def Fp(l:gA)(i:Nat):gA:=(List.range 7).map λj=>if j<i then l.getD j 0 else 0
theorem Vb(l:gA)(i:Nat):(Fp l i).length=7:=by simp[Fp]
theorem acm(l:gA):Fp l 0=List.replicate 7 0:=by simp[Fp];rfl
theorem acl(l:gA){i:Nat}(hi:i<7):(Fp l i).set i (l.getD i 0)=Fp l (i+1):=by
 apply ib;intro j;rw[jx];simp only[Vb];by_cases e:i=j
 ·subst e;rw[gl rfl,gl hi];simp[Fp,hi]
 ·rw[gh e];by_cases a:j<7
  ·simp only[Fp,gY,i7 a,jZ]
   grind
  grind [Fp]
theorem af9{P:Nat}{l:gA}(h:∀j,l.getD j 0<P)(a:l.length<=7):Fp l l.length=jo P (lJ P l) 7:=by
 unfold Fp jo;apply jn;intro j _;rw[uW l h]
 grind
theorem ajy{P:Nat}{l:gA}(h:∀j,l.getD j 0<P)(i:Nat):∀j,(Fp l i).getD j 0<P:=by
 intro j;have a:=h 0
 grind [Fp]
theorem acU(p k:Int)(u:Value)(low:gP)(w:World)(A:ja k)(n:SR w)(o:Sl w u low)(h:jp p k=0\/low.length≠k.toNat):
 Calls prog 236 #[kq p k u] w λi B=>i= .returned (.tuple #[rm0,.int .i64 (th p k low)])/\gm w B:=by
 have r:=λd (x:gm w d)=>uh p k d A (n.below x);obtain⟨f,g,N,rfl,v,E,s⟩:=o.open;have q:hU ((w.alloc (.cells #[.int .i64 p,.int .i64 k,.slice f N g] 60)).alloc (.cells #[.int .i64 0,.int .i64 0,.slice none 0 0,.int .i64 0] 172)) (w.heap.size+1) 172 [.int .i64 0,.int .i64 0,.slice none 0 0,.int .i64 0]:=by
  have:=hU.new (w.alloc (.cells #[.int .i64 p,.int .i64 k,.slice f N g] 60)) 172 [.int .i64 0,.int .i64 0,.slice none 0 0,.int .i64 0];exact OK
 have j:=((f0 w.heap.size w).alloc (fZ _) (.cells #[.int .i64 p,.int .i64 k,.slice f N g] 60)).alloc On (.cells #[.int .i64 0,.int .i64 0,.slice none 0 0,.int .i64 0] 172);have c:=gb (r _ j);have b:=gR q j;clear r q j;by_cases a:jp p k=0
 ·have e:=gb (E6 (low:=low) a);rw[a]at c;clear o s h a n;unfold kq;go_enter func236,ntmps236;go_wp2_with fail;refine c.out.mono ?_;rintro i d ⟨rfl,rfl⟩;go_wp2;have bx:=gV (P:=prog) _ _ _ 172 _ _ b.out.1.range underlying172 rfl Ob;refine⟨rfl,.tuple #[rm0,.int .i64 1],?_,by rw[e.out],b.out.2⟩;exact Mp
 ·have l:low.length≠k.toNat:=h.resolve_left a;have e:=gb (L8 a l);have t:(!(jp p k==0))=true:=(by simp[a]);rw[t]at c;obtain⟨P,K,rfl,rfl,z,F,G,C,D,I,y⟩:=lU a;rw[iZ,v.out]at l;have H:((N:Int) !=K)=true:=Oo;clear o s h l z y t n;generalize jp (P:Int) (K:Int)=Q at*;unfold kq;go_enter func236,ntmps236;go_wp2_with fail;refine c.out.mono ?_;rintro i d ⟨rfl,rfl⟩;go_wp2;have bx:=gV (P:=prog) _ _ _ 172 _ _ b.out.1.range underlying172 rfl Ob;refine⟨rfl,.tuple #[rm0,.int .i64 2],?_,by rw[e.out],b.out.2⟩;exact Mp
theorem ru(p k:Int)(a:Option Addr)(n c:Nat)(q:Int):(#[Value.int .i64 p,Value.int .i64 k,Value.slice a n c,Value.int .i64 q]:Array Value).all (·.oneCell')=true:=SO
theorem hU.at2{w:World}{b c:TypeId}{x y:Array Value}{a:TypeId}{xs:np}:hU (((w.alloc (.cells x b)).alloc (.cells y c)).alloc (.cells xs.toArray a)) (w.heap.size+2) a xs:=by
 have:=hU.new ((w.alloc (.cells x b)).alloc (.cells y c)) a xs;simpa using this
theorem hU.at1{w:World}{b a:TypeId}{x:Array Value}{ys:np}:hU ((w.alloc (.cells x b)).alloc (.cells ys.toArray a)) (w.heap.size+1) a ys:=by
 have:=hU.new (w.alloc (.cells x b)) a ys;exact OK
def opR(P K:Int)(u:Value)(q E:Int):Value:=if E=0 then Ec P K u q else rm0
theorem agB(P K:Nat)(u:Value)(low:gP)(w:World)(hp:SR w)(hu:Sl w u low)(v:jp P K≠0)(az:low.length=K)(aa:∀x∈low,ja x):
 Calls prog 236 #[kq P K u] w λe w'=>e= .returned (.tuple #[opR P K u (jp P K) (th P K low),.int .i64 (th P K low)])/\gm w w':=by
 obtain⟨P',K',T,U,ax,aw,aI,aq,ar,ae,av⟩:=lU v;obtain rfl:P=P':=Oa;obtain rfl:K=K':=Oa;have L:=λl (f:gm w l)=>uh P K l (by grind [ja]) (hp.below f);have hz:(!(jp P K==0))=true:=by simp[v]
 rw[hz]at L;have G:=gb (λH r h=>L9 v (low:=low) Oa (i:=H) r h);have A:=gb (λh=>aa4 v (low:=low) Oa h);rw[iZ,iZ]at A;have I:(pD low).length=K:=by grind [pD]
 have E:=gd ((∀H,H<low.length->pg P (low[H]?.getD 0)=false)->yp P K (Fp (pD low) K)=rdF P K (pD low)/\∀j,(Fp (pD low) K).getD j 0<P) (λh=>by
  have g:=RQ (P:=P) (low:=low) Oa h;have hn:=qf (pD low) g;rw[I]at hn;have T:=af9 g Oa;have U:=TF g;rw[I]at T U;refine⟨?_,ajy g K⟩
  grind [ahK])
 have ah:=gb (λ(M:gA) l (h1:M.length=7) (h2:∀j,M.getD j 0<P)=>tn P K M l aw Oa aq ar ae h1 h2);have F:=gb (Vb (pD low));have ak:=gb (λH r=>acl (pD low) (i:=H) r);have ai:=gb (acm (pD low))
 have al:=gd (∀H,H<K->0<=low[H]?.getD 0->low[H]?.getD 0=(((pD low).getD H 0:Nat):Int)) (λH r hx=>by
  grind [pD])
 have ag:=gd (∀H,H<K->ja (low[H]?.getD 0)) (λH r=>aa _ (by grind));obtain⟨a,c,N,rfl,hN,aG,ac⟩:=hu.open;obtain rfl:N=K:=Ut;rw[az]at G A E;have aJ:((N:Int) !=N)=false:=On;have C:=((f0 w.heap.size w).alloc (fZ _) (.cells #[.int .i64 (P:Int),.int .i64 (N:Int),.slice a N c] 60)).alloc On (.cells #[.int .i64 0,.int .i64 0,.slice none 0 0,.int .i64 0] 172);have HC:=gb (L _ C);have Z:=C.alloc C.size (.cells (pv (List.replicate 7 0)).toArray 168);have W:hU (((w.alloc (.cells #[.int .i64 (P:Int),.int .i64 (N:Int),.slice a N c] 60)).alloc (.cells #[.int .i64 0,.int .i64 0,.slice none 0 0,.int .i64 0] 172)).alloc (.cells (pv (List.replicate 7 0)).toArray 168)) w.heap.size 60 [.int .i64 (P:Int),.int .i64 (N:Int),.slice a N c]:=((hU.new w 60 [.int .i64 (P:Int),.int .i64 (N:Int),.slice a N c]).alloc _).alloc _;have Y:hU (((w.alloc (.cells #[.int .i64 (P:Int),.int .i64 (N:Int),.slice a N c] 60)).alloc (.cells #[.int .i64 0,.int .i64 0,.slice none 0 0,.int .i64 0] 172)).alloc (.cells (pv (List.replicate 7 0)).toArray 168)) (w.heap.size+1) 172 [.int .i64 0,.int .i64 0,.slice none 0 0,.int .i64 0]:=(hU.at1 (ys:=[.int .i64 0,.int .i64 0,.slice none 0 0,.int .i64 0])).alloc _;have X:hU (((w.alloc (.cells #[.int .i64 (P:Int),.int .i64 (N:Int),.slice a N c] 60)).alloc (.cells #[.int .i64 0,.int .i64 0,.slice none 0 0,.int .i64 0] 172)).alloc (.cells (pv (List.replicate 7 0)).toArray 168)) (w.heap.size+2) 168 (pv (List.replicate 7 0)):=hU.at2;have t:=oB W Y X Z;have cX:(prog.info? 172).map (·.size)=some 4:=Ob;have i3:(prog.info? 60).map (·.size)=some 3:=Ob;have aj:=gb ac;generalize th (P:Int) (N:Int) low=O at*;generalize jp (P:Int) (N:Int)=Q at*;clear ax av ae az aa v L hz C Z W Y X hu ac hp I;unfold kq;go_enter func236,ntmps236;go_wp2_with fail;refine HC.out.mono ?_;rintro e l ⟨rfl,rfl⟩;go_wp2;go_loopw [7,8,30] (λ_ _ x wr=>∃H:Nat,H<=N/\x= .int .i64 H/\Hid (∀j,j<H->pg P (low[j]?.getD 0)=false)/\hU wr w.heap.size 60 [.int .i64 (P:Int),.int .i64 (N:Int),.slice a N c]/\hU wr (w.heap.size+1) 172 [.int .i64 0,.int .i64 0,.slice none 0 0,.int .i64 0]/\hU wr (w.heap.size+2) 168 (pv (Fp (pD low) H))/\gm w wr) (λ_ _ x _=>N-(intOf x).toNat)
 case atStart=>exact⟨0,ge _,rfl,gb (λj hj=>by omega),t.out.1,t.out.2.1,by rw[ai.out];exact t.out.2.2.1,t.out.2.2.2⟩
 case round=>
  clear t;obtain⟨H,r,rfl,hH,i,y,n,f⟩:=hrel;have k0:=i.cell 0;have k1:=i.cell 1;have k2:=i.cell 2;simp only[gW,ij]at k0 k1 k2;by_cases g:H<N
  ·obtain⟨b,aC,rfl,an,hc⟩:=aj.out Oa;have aE:=(f.cell (p:=⟨b,aC+H,none⟩) an).trans (hc H g);have ap:=ag.out H g;have dY:=gb (G.out H g);have bt:=gd (pg P (low[H]?.getD 0)=false->∀j,j<H+1->pg P (low[j]?.getD 0)=false) (λh j hj=>PA);have aD:(H:Int)<N:=Oa;have cL:=al.out H g;have au:=n.cell H;rw[m5 (by rw[F.out];omega)]at au;have aH:=n.frozen H;have s:=n.stored H (.int .i64 (((pD low).getD H 0:Nat):Int));rw[r9,ak.out H Oa]at s;have B:=oB (i.kept s.2 On) (y.kept s.2 On) s.1 (f.grown s.2 f.size (λk h=>by grind));have HR:=gR y f;have aF:(H:Int)<7:=Oa;clear hc hH i y n f s;generalize low[H]?.getD 0=x at*;unfold ja at ap;by_cases ay:x<0
   ·have hE:=dY.out Kz;exact Oj
   ·have hd:decide (x<0)=false:=gp ay;by_cases aB:(P:Int)<=x
    ·have hE:=dY.out (by grind [pg]);exact Oj
    ·have ao:decide ((P:Int)<=x)=false:=gp aB;have am:=gb (bt.out (by grind [pg]));have aA:=cL Oa;clear dY bt cL hd ao;generalize (pD low).getD H 0=xn at*;subst aA;generalize (Fp (pD low) H).getD H 0=aK at*;go_wp2;go_roundw
     case rel=>exact⟨H+1,by omega,by go_num,am,B.out.1,B.out.2.1,B.out.2.2.1,B.out.2.2.2⟩
     case measure=>exact gQ
  ·obtain rfl:H=N:=(by omega);have V:=A.out hH.out;obtain⟨ab,ad⟩:=E.out hH.out;have S:=gb (λl=>ah.out _ l (F.out H) ad);rw[ab]at S;have R:=gb V;have r5:=n.range;have i5:(prog.info? 168).map (·.size)=some (pv (Fp (pD low) H)).length:=(by rw[jS,F.out];kernel_rfl);have z:=ju i y f;clear V ab ad G A E hH i y n f;generalize rdF P H (pD low)=af at*;generalize Fp (pD low) H=lw at*;go_wp2_with (refine ii rfl 168 _ rfl (w.heap.size+2) 0 rfl (pv lw) _ r5 underlying168 rfl i5 ?_);refine(S.out _).mono ?_;rintro e d ⟨rfl,D⟩;have J:=z.out.1.below D;have o:=z.out.2.1.below D;have q:=z.out.2.2.trans (D.mono z.out.2.2.size);clear D r5 k0 k1 k2;cases af with
   |false=>
    have hE:O=4:=R.out;subst hE;have t8:d.there (w.heap.size+1) 0 (#[Value.int .i64 0,Value.int .i64 0,Value.slice none 0 0,Value.int .i64 0]:Array Value).size:=o.there;have dc:hU (d.setCells (w.heap.size+1) 0 [Value.int .i64 0,Value.int .i64 0,Value.slice none 0 0,Value.int .i64 0]) (w.heap.size+1) 172 [Value.int .i64 0,Value.int .i64 0,Value.slice none 0 0,Value.int .i64 0]:=hU.setCells [Value.int .i64 0,Value.int .i64 0,Value.slice none 0 0,Value.int .i64 0] [] _ d o rfl;have cb:=iu (b:=w.heap.size+1) [Value.int .i64 0,Value.int .i64 0,Value.slice none 0 0,Value.int .i64 0] 0 d;have H9:=gR dc (q.grown cb q.size (λk h=>by grind));clear J o q dc cb;go_wp2_with (refine iA rfl 172 _ _ rfl (w.heap.size+1) 0 #[Value.int .i64 0,Value.int .i64 0,Value.slice none 0 0,Value.int .i64 0] rfl rfl t8 cX (ru _ _ _ _ _ _) ?_;show wpList _ _ _ _ _ (d.setCells (w.heap.size+1) 0 [Value.int .i64 0,Value.int .i64 0,Value.slice none 0 0,Value.int .i64 0]));have bx:=gV (P:=prog) _ _ _ 172 _ _ H9.out.1.range underlying172 rfl cX;refine⟨rfl,.tuple #[rm0,.int .i64 4],?_,rfl,H9.out.2⟩;exact Mp
   |true=>
    have hE:O=0:=R.out;subst hE;have r6:=J.range;have t8:d.there (w.heap.size+1) 0 (#[Value.int .i64 (P:Int),Value.int .i64 (H:Int),Value.slice a H c,Value.int .i64 (Q:Int)]:Array Value).size:=o.there;have dc:hU (d.setCells (w.heap.size+1) 0 [Value.int .i64 (P:Int),Value.int .i64 (H:Int),Value.slice a H c,Value.int .i64 (Q:Int)]) (w.heap.size+1) 172 [Value.int .i64 (P:Int),Value.int .i64 (H:Int),Value.slice a H c,Value.int .i64 (Q:Int)]:=hU.setCells [Value.int .i64 (P:Int),Value.int .i64 (H:Int),Value.slice a H c,Value.int .i64 (Q:Int)] [] _ d o rfl;have cb:=iu (b:=w.heap.size+1) [Value.int .i64 (P:Int),Value.int .i64 (H:Int),Value.slice a H c,Value.int .i64 (Q:Int)] 0 d;have H9:=gR dc (q.grown cb q.size (λk h=>by grind));clear J o q dc cb
    go_wp2_with (first
     |(refine ii rfl 60 _ rfl w.heap.size 0 rfl [.int .i64 (P:Int),.int .i64 (H:Int),.slice a H c] _ r6 underlying60 rfl i3 ?_)
     |(refine iA rfl 172 _ _ rfl (w.heap.size+1) 0 #[Value.int .i64 (P:Int),Value.int .i64 (H:Int),Value.slice a H c,Value.int .i64 (Q:Int)] rfl rfl t8 cX (ru _ _ _ _ _ _) ?_;show wpList _ _ _ _ _ (d.setCells (w.heap.size+1) 0 [Value.int .i64 (P:Int),Value.int .i64 (H:Int),Value.slice a H c,Value.int .i64 (Q:Int)])))
    have bx:=gV (P:=prog) _ _ _ 172 _ _ H9.out.1.range underlying172 rfl cX;refine⟨rfl,.tuple #[Ec P H (.slice a H c) Q,.int .i64 0],?_,rfl,H9.out.2⟩;show((results _ _).run _ _)=_;simp[results,f236,asAddr,bx,Ec]
theorem acT(p k:Int)(u:Value)(low:gP)(w:World)(l:ja p)(i:ja k)(b:SR w)(c:Sl w u low)(f:∀x∈low,ja x):
 Calls prog 236 #[kq p k u] w λe j=>e= .returned (.tuple #[opR p k u (jp p k) (th p k low),.int .i64 (th p k low)])/\gm w j:=by
 by_cases h:jp p k=0\/low.length≠k.toNat
 ·have d:th p k low≠0:=by
   grind [E6,L8]
  rw[opR,gh d];exact acU p k u low w i b c h
 ·have a:jp p k≠0:=λe=>h (.inl e);have g:low.length=k.toNat:=gx λe=>h (.inr e);obtain⟨P,K,rfl,rfl,_⟩:=lU a;exact agB P K u low w b c a g f
def x2(p k:Int)(low es:gP):Int:=if th p k low=0 then(if es.any (pg (jp p k))=true then 1 else 0)else th p k low
theorem aed{p k:Int}{low es:gP}(h:th p k low≠0):x2 p k low es=th p k low:=gh h
theorem ake{p k:Int}{low es:gP}(h:th p k low=0){i:Nat}(hi:i<es.length)(a:pg (jp p k) (es[i]?.getD 0)=true):x2 p k low es=1:=by
 rw[x2,gl h,gl]
 grind
theorem alS{p k:Int}{low es:gP}(h:th p k low=0)(a:∀H,H<es.length->pg (jp p k) (es[H]?.getD 0)=false):x2 p k low es=0:=by
 rw[x2,gl h,gh];exact QT
theorem aa5{p k:Int}{low:gP}(h:th p k low=0):jp p k≠0:=λa=>by
 grind [E6]
theorem aeg(p k:Int)(u v:Value)(low es:gP)(w:World)(ip:ja p)(ik:ja k)(O:SR w)(A:Sl w u low)(af:∀x∈low,ja x)(B:Sl w v es)(ae:∀x∈es,ja x):
 Calls prog 184 #[kq p k u,v] w λe w'=>e= .returned (.tuple #[opR p k u (jp p k) (x2 p k low es),.int .i64 (x2 p k low es)])/\gm w w':=by
 have g:=λw1 (b:gm w w1)=>acT p k u low w1 ip ik (O.below b) (A.below b) af;obtain⟨a,c,e1⟩:=A.len;subst e1;generalize an:low.length=L at*;have U:hU ((w.alloc (.cells #[.int .i64 p,.int .i64 k,.slice a L c] 60)).alloc (.cells #[.int .i64 0,.int .i64 0,.slice none 0 0,.int .i64 0] 172)) (w.heap.size+1) 172 [.int .i64 0,.int .i64 0,.slice none 0 0,.int .i64 0]:=hU.at1 (ys:=[.int .i64 0,.int .i64 0,.slice none 0 0,.int .i64 0]);have I:=((f0 w.heap.size w).alloc (fZ _) (.cells #[.int .i64 p,.int .i64 k,.slice a L c] 60)).alloc On (.cells #[.int .i64 0,.int .i64 0,.slice none 0 0,.int .i64 0] 172);have f:=gb (g _ I);have n:=gR U I;have cX:(prog.info? 172).map (·.size)=some 4:=Ob;clear g U I;by_cases l:th p k low=0
 ·have D:=gb (λH J o=>ake (es:=es) l (i:=H) J o);have C:=gb (λo=>alS (es:=es) l o);have X:=aa5 l;obtain⟨P,K,rfl,rfl,ai,ax,ay,aq,ar,aj,ah⟩:=lU X;rw[l]at f;unfold opR at f;rw[gl rfl]at f;unfold Ec kq at f;have S:=gd (∀H,H<es.length->ja (es[H]?.getD 0)) (λH J=>ae _ (by grind));obtain⟨av,cv,M,rfl,hM,au,W⟩:=B.open;rw[hM.out]at D C S;have aa:=gb W;clear ai ah aj l X A B W O;generalize jp (P:Int) (K:Int)=Q at*;generalize x2 (P:Int) (K:Int) low es=R at*;unfold kq;go_enter func184,ntmps184;go_wp2_with fail;refine f.out.mono ?_;rintro e d ⟨rfl,s⟩;have t:=n.out.1.below s;have q:=n.out.2.trans (s.mono n.out.2.size);have T:hU (d.alloc (.cells #[.int .i64 (P:Int),.int .i64 (K:Int),.slice a L c,.int .i64 (Q:Int)] 172)) d.heap.size 172 [.int .i64 (P:Int),.int .i64 (K:Int),.slice a L c,.int .i64 (Q:Int)]:=hU.new d _ _;have y:=ju T (t.alloc (.cells #[.int .i64 (P:Int),.int .i64 (K:Int),.slice a L c,.int .i64 (Q:Int)] 172)) (q.alloc q.size (.cells #[.int .i64 (P:Int),.int .i64 (K:Int),.slice a L c,.int .i64 (Q:Int)] 172));clear s t q T n f;go_wp2;go_loopw [9,21] (λ_ x wr=>∃H:Nat,H<=M/\x= .int .i64 H/\Hid (∀j,j<H->pg Q (es[j]?.getD 0)=false)/\hU wr d.heap.size 172 [.int .i64 (P:Int),.int .i64 (K:Int),.slice a L c,.int .i64 (Q:Int)]/\hU wr (w.heap.size+1) 172 [.int .i64 0,.int .i64 0,.slice none 0 0,.int .i64 0]/\gm w wr) (λ_ x _=>M-(intOf x).toNat)
  case atStart=>exact⟨0,ge _,rfl,gb (λj hj=>by omega),y.out.1,y.out.2.1,y.out.2.2⟩
  case round=>
   clear y;obtain⟨H,J,rfl,hH,g,r,b⟩:=hrel;have Z:=g.cell 3;simp only[gW,ij]at Z;by_cases N:H<M
   ·obtain⟨z,am,rfl,ac,V⟩:=aa.out Oa;have ap:=(b.cell (p:=⟨z,am+H,none⟩) ac).trans (V H N);have ag:=S.out H N;have dY:=gb (D.out H N);have bt:=gd (pg Q (es[H]?.getD 0)=false->∀j,j<H+1->pg Q (es[j]?.getD 0)=false) (λo j hj=>PA);have ao:(H:Int)<M:=Oa;have t8:wr.there (w.heap.size+1) 0 (#[Value.int .i64 0,Value.int .i64 0,Value.slice none 0 0,Value.int .i64 0]:Array Value).size:=r.there;have h:hU (wr.setCells (w.heap.size+1) 0 [Value.int .i64 0,Value.int .i64 0,Value.slice none 0 0,Value.int .i64 0]) (w.heap.size+1) 172 [Value.int .i64 0,Value.int .i64 0,Value.slice none 0 0,Value.int .i64 0]:=hU.setCells [Value.int .i64 0,Value.int .i64 0,Value.slice none 0 0,Value.int .i64 0] [] _ wr r rfl;have i:=iu (b:=w.heap.size+1) [Value.int .i64 0,Value.int .i64 0,Value.slice none 0 0,Value.int .i64 0] 0 wr;have H9:=gR h (b.grown i b.size (λk o=>by grind));have E:=ju g r b;clear V hH g r b h i;generalize es[H]?.getD 0=x at*;unfold ja at ag;by_cases ak:x<0
    ·have hE:=dY.out Kz;exact OC
    ·have hd:decide (x<0)=false:=gp ak;by_cases al:(Q:Int)<=x
     ·have hE:=dY.out (by grind [pg]);exact OC
     ·have ad:decide ((Q:Int)<=x)=false:=gp al;have ab:=gb (bt.out (by grind [pg]));clear dY bt hd ad t8;go_wp2;go_roundw
      case rel=>exact⟨H+1,by omega,by go_num,ab,E.out.1,E.out.2.1,E.out.2.2⟩
      case measure=>exact gQ
   ·obtain rfl:H=M:=(by omega);have hE:=C.out hH.out;subst hE;have r6:=g.range;have t8:wr.there (w.heap.size+1) 0 (#[Value.int .i64 (P:Int),Value.int .i64 (K:Int),Value.slice a L c,Value.int .i64 (Q:Int)]:Array Value).size:=r.there;have h:hU (wr.setCells (w.heap.size+1) 0 [Value.int .i64 (P:Int),Value.int .i64 (K:Int),Value.slice a L c,Value.int .i64 (Q:Int)]) (w.heap.size+1) 172 [Value.int .i64 (P:Int),Value.int .i64 (K:Int),Value.slice a L c,Value.int .i64 (Q:Int)]:=hU.setCells [Value.int .i64 (P:Int),Value.int .i64 (K:Int),Value.slice a L c,Value.int .i64 (Q:Int)] [] _ wr r rfl;have i:=iu (b:=w.heap.size+1) [Value.int .i64 (P:Int),Value.int .i64 (K:Int),Value.slice a L c,Value.int .i64 (Q:Int)] 0 wr;have H9:=gR h (b.grown i b.size (λk o=>by grind));clear hH g r b h i D C Z
    go_wp2_with (first
     |(refine ii rfl 172 _ rfl d.heap.size 0 rfl [.int .i64 (P:Int),.int .i64 (K:Int),.slice a L c,.int .i64 (Q:Int)] _ r6 underlying172 rfl cX ?_)
     |(refine iA rfl 172 _ _ rfl (w.heap.size+1) 0 #[Value.int .i64 (P:Int),Value.int .i64 (K:Int),Value.slice a L c,Value.int .i64 (Q:Int)] rfl rfl t8 cX (ru _ _ _ _ _ _) ?_;show wpList _ _ _ _ _ (wr.setCells (w.heap.size+1) 0 [Value.int .i64 (P:Int),Value.int .i64 (K:Int),Value.slice a L c,Value.int .i64 (Q:Int)])))
    have bx:=gV (P:=prog) _ _ _ 172 _ _ H9.out.1.range underlying172 rfl cX;refine⟨rfl,.tuple #[Ec P K (.slice a L c) Q,.int .i64 0],?_,rfl,H9.out.2⟩;show((results _ _).run _ _)=_;simp[results,f184,asAddr,bx,Ec]
 ·have Y:=aed (es:=es) l;rw[Y];unfold opR at f⊢;rw[gh l]at f⊢;have aw:(th p k low !=0)=true:=(by grind);obtain⟨av,cv,e2⟩:=B.len;subst e2;generalize es.length=M at*;generalize th p k low=R at*;unfold rm0 Ec kq at*;clear A B O Y l;go_enter func184,ntmps184;go_wp2_with fail;refine f.out.mono ?_;rintro e d ⟨rfl,s⟩;have t:=n.out.1.below s;have q:=n.out.2.trans (s.mono n.out.2.size);have G:=t.alloc (.cells #[.int .i64 0,.int .i64 0,.slice none 0 0,.int .i64 0] 172);have F:=q.alloc q.size (.cells #[.int .i64 0,.int .i64 0,.slice none 0 0,.int .i64 0] 172);have t8:(d.alloc (.cells #[.int .i64 0,.int .i64 0,.slice none 0 0,.int .i64 0] 172)).there (w.heap.size+1) 0 (#[Value.int .i64 0,Value.int .i64 0,Value.slice none 0 0,Value.int .i64 0]:Array Value).size:=G.there;have h:hU ((d.alloc (.cells #[.int .i64 0,.int .i64 0,.slice none 0 0,.int .i64 0] 172)).setCells (w.heap.size+1) 0 [Value.int .i64 0,Value.int .i64 0,Value.slice none 0 0,Value.int .i64 0]) (w.heap.size+1) 172 [Value.int .i64 0,Value.int .i64 0,Value.slice none 0 0,Value.int .i64 0]:=hU.setCells [Value.int .i64 0,Value.int .i64 0,Value.slice none 0 0,Value.int .i64 0] [] _ _ G rfl;have i:=iu (b:=w.heap.size+1) [Value.int .i64 0,Value.int .i64 0,Value.slice none 0 0,Value.int .i64 0] 0 (d.alloc (.cells #[.int .i64 0,.int .i64 0,.slice none 0 0,.int .i64 0] 172));have H9:=gR h (F.grown i F.size (λk o=>by grind));clear s t q G F h i;go_wp2_with (refine iA rfl 172 _ _ rfl (w.heap.size+1) 0 #[Value.int .i64 0,Value.int .i64 0,Value.slice none 0 0,Value.int .i64 0] rfl rfl t8 cX (ru _ _ _ _ _ _) ?_;show wpList _ _ _ _ _ ((d.alloc (.cells #[.int .i64 0,.int .i64 0,.slice none 0 0,.int .i64 0] 172)).setCells (w.heap.size+1) 0 [Value.int .i64 0,Value.int .i64 0,Value.slice none 0 0,Value.int .i64 0]));have bx:=gV (P:=prog) _ _ _ 172 _ _ H9.out.1.range underlying172 rfl cX;refine⟨rfl,.tuple #[.agg #[.int .i64 0,.int .i64 0,.slice none 0 0,.int .i64 0],.int .i64 R],?_,rfl,H9.out.2⟩;show((results _ _).run _ _)=_;simp[results,f184,asAddr,bx]
theorem km{P:Nat}{l:gA}(h:∀j,l.getD j 0<P)(k:Nat):∀j,(l.take k).getD j 0<P:=by
 intro j;have a:=h 0;rw[gc,o9];split
 ·exact OK
 grind
theorem wg{P:Nat}{l:gA}(h:∀j,l.getD j 0<P)(k:Nat):∀j,(l.drop k).getD j 0<P:=OK
theorem IG{P:Nat}{l:gA}{i:Nat}(hi:i<l.length):lJ P (l.drop i)=l.getD i 0+P*lJ P (l.drop (i+1)):=by
 grind [List.drop_eq_getElem_cons,lJ]
theorem XJ(P K Q:Nat)(u:Value)(a:gA)(w:World)(V:∃x n c,u= .slice x n c)(hP:2<=P)(M:P<=64)(hK:1<=K)(aa:K<=6)(U:P^K<=64)(ha:a.length=7)(p:∀j,a.getD j 0<P):
 Calls prog 238 #[Ec P K u Q,.agg (pv a).toArray] w λL Y=>L= .returned (.int .i64 (lJ P (a.take K)))/\gm w Y:=by
 obtain⟨x,n,c,rfl⟩:=V;have d:hU ((w.alloc (.cells #[.int .i64 (P:Int),.int .i64 (K:Int),.slice x n c,.int .i64 (Q:Int)] 172)).alloc (.cells (pv a).toArray 168)) w.heap.size 172 [.int .i64 (P:Int),.int .i64 (K:Int),.slice x n c,.int .i64 (Q:Int)]:=(hU.new w _ [.int .i64 (P:Int),.int .i64 (K:Int),.slice x n c,.int .i64 (Q:Int)]).alloc _;have b:hU ((w.alloc (.cells #[.int .i64 (P:Int),.int .i64 (K:Int),.slice x n c,.int .i64 (Q:Int)] 172)).alloc (.cells (pv a).toArray 168)) (w.heap.size+1) 168 (pv a):=hU.at1;have g:=((f0 w.heap.size w).alloc (fZ _) (.cells #[.int .i64 (P:Int),.int .i64 (K:Int),.slice x n c,.int .i64 (Q:Int)] 172)).alloc On (.cells (pv a).toArray 168);have k:=ju d b g;have T:(a.take K).length=K:=by grind
 have E:=gb (λi (h:i<K)=>IG (P:=P) (l:=a.take K) (i:=i) Oa);have G:=gd (∀i,i<K->(a.take K).getD i 0=a.getD i 0) (λi h=>by grind);have F:=gd (lJ P ((a.take K).drop K)=0) (by rw[wV Oa];rfl);have D:=gd (lJ P ((a.take K).drop 0)=lJ P (a.take K)) rfl;have H:=gb p
 have s:=gd (∀i,i<=K->lJ P ((a.take K).drop i)<=64) (λi h=>by
  have h1:=qf ((a.take K).drop i) (wg (km p K) i);have h2:P^((a.take K).drop i).length<=P^K:=gN Oa (by grind)
  exact Oa)
 obtain⟨f,z⟩:∃f:Nat->Nat,f=λi=>lJ P ((a.take K).drop i):=⟨_,rfl⟩;have e:=gd (∀i,lJ P ((a.take K).drop i)=f i) (λi=>by rw[z]);generalize lJ P (a.take K)=R at*;clear z d b g T p U;unfold Ec;go_enter func238,ntmps238;go_wp2;generalize (w.alloc (.cells #[.int .i64 (P:Int),.int .i64 (K:Int),.slice x n c,.int .i64 (Q:Int)] 172)).alloc (.cells (pv a).toArray 168)=w0 at*;go_loopw [5,6] (λm i wr=>∃j:Nat,j<=K/\i= .int .i64 ((j:Int)-1)/\m= .int .i64 (f j:Nat)/\hU wr w.heap.size 172 [.int .i64 (P:Int),.int .i64 (K:Int),.slice x n c,.int .i64 (Q:Int)]/\hU wr (w.heap.size+1) 168 (pv a)/\gm w wr) (λ_ i _=>(intOf i+1).toNat)
 case atStart=>exact⟨K,fZ _,rfl,by rw[<-e.out,F.out];rfl,k.out.1,k.out.2.1,k.out.2.2⟩
 case round=>
  clear k;obtain⟨j,O,rfl,rfl,d,b,g⟩:=hrel;have X:=d.cell 0;simp only[gW]at X;have o:=ju d b g;by_cases ac:1<=j
  ·have ab:(0:Int)<=j-1:=(by omega);have y:=E.out (j-1) Oa;rw[show j-1+1=j by omega,G.out (j-1) Oa,e.out,e.out]at y;have v:=b.cell (j-1);rw[m5 Oa]at v;have W:=H.out (j-1);have t:=s.out j O;rw[e.out]at t;have q:=s.out (j-1) Oa;rw[e.out]at q;have A:(j:Int)-1=((j-1:Nat):Int):=Oa;have n1:(f j:Int)*P=((P*f j:Nat):Int):=(by grind);have hm:P*f j<=4096:=gE M t;have B:((P*f j:Nat):Int)+((a.getD (j-1) 0:Nat):Int)=((f (j-1):Nat):Int):=Oa;have S:((j-1:Nat):Int)<7:=Oa;clear d b g y;rw[A];obtain⟨i,h⟩:∃i,i=j-1:=⟨_,rfl⟩;rw[<-h]at A B S W q v⊢;have N:j=i+1:=Oa;clear h;subst N;generalize P*f (i+1)=pf at*;generalize f (i+1)=ad at*;obtain⟨C,r⟩:∃C,C=f i:=⟨_,rfl⟩;rw[<-r]at B q;have J:=gb r;clear r;generalize a.getD i 0=Z at*;go_wp2;go_quiet (fail);go_wp2;go_roundw
   case rel=>exact⟨i,by omega,by go_num,by rw[J.out],o.out.1,o.out.2.1,gM o.out.2.2 _⟩
   case measure=>exact gQ
  ·obtain rfl:j=0:=(by omega);have I:=gd (f 0=R) (by rw[<-e.out];exact D.out);clear d b g;go_wp2;go_ret;exact⟨by rw[<-I.out];rfl,o.out.2.2⟩
section
def uB(ops:Array Oper)(i:Nat)(b:Op)(a:Option Tmp):Prop:=∃o,ops[i]? =some o/\o.op=b/\o.dst=a/\o.guard=none
theorem oS{ops:Array Oper}{i:Nat}{c:Op}{b:Option Tmp}{P:Program}{Q:Exit->Act->World->Prop}{K:Act->World->Prop}{a:Act}{w w':World}{r:Value}(h:uB ops i c b)
 (k:∀o:Oper,o.op=c->(execOp a.eval o).run P w= .ok (.value r) w') (j:K (a.put b r) w'):wpOp P ops Q i K a w:=by
 obtain⟨o,d,e,f,g⟩:=h;unfold wpOp;simp only[d];rw[gl (by simp[Region.wanted,g])];left;show o.upon P a K Q ((execOp a.eval o).run P w);rw[k o e];show K (a.put o.dst r) w';rw[f];exact j
theorem zK{ops:Array Oper}{i:Nat}{c:Op}{b:Option Tmp}{P:Program}{Q:Exit->Act->World->Prop}{K:Act->World->Prop}{a:Act}{w:World}(h:uB ops i c b)
 (j:∀o:Oper,o.op=c->o.dst=b->o.wp P a w K Q):wpOp P ops Q i K a w:=by
 obtain⟨o,d,e,f,g⟩:=h;unfold wpOp;simp only[d];rw[gl (by simp[Region.wanted,g])];exact .inl (j o e f)
theorem Es{P:Program}{md:Region.Mode}{ops:Array Oper}{Q:Exit->Act->World->Prop}(Inv:Array Bool->Act->World->Prop)
 (r:∀b a w,Inv b a w->∀i∈Region.ready md ops b,wpOp P ops Q i (λe o=>Inv (b.setIfInBounds i true) e o) a w)
 (j:∀b a w,Inv b a w->Region.ready md ops b=[]->Q .normal a w):
 ∀(f:Nat)(b:Array Bool)(a:Act)(w:World),b.size=ops.size->(b.toList.filter (·==false)).length<=f->Inv b a w->wpAny P md ops Q f b a w
 |0,b,a,w,q,x,h=>by
  have c:Region.ready md ops b=[]:=by
   rw[List.eq_nil_iff_forall_not_mem];intro n y;obtain⟨g,z,t,_⟩:=qD.1 y;have k:n<b.size:=(by grind);have v:b[n]=false:=(by simpa [k]using g);have p:(b.toList.filter (·==false))=[]:=iX Oa;rw[List.filter_eq_nil_iff]at p;exact p b[n] On (by grind)
  exact⟨c,j _ _ _ h c⟩
 |f+1,b,a,w,q,x,h=>by
  refine⟨λc=>j _ _ _ h c,λi d=> ?_⟩;refine wpOp_mono (λe o s=>Es Inv r j f _ e o (by simpa using q) ?_ s) (r _ _ _ h i d);obtain⟨g,z,t,_⟩:=qD.1 d;have k:i<b.size:=(by grind);have v:b[i]=false:=(by simpa [k]using g);have C:∀(l:List Bool)(i:Nat)(d:i<l.length),l[i]=false->((l.set i true).filter (·==false)).length+1=(l.filter (·==false)).length:=by
   intro l
   induction l with
   |nil=>grind
   |cons D l B=>
    intro i d A;cases i with
    |zero=>grind
    |succ i=>
     grind
  grind
theorem p8{a:Array Bool}{i j:Nat}(h:i<a.size):(a.setIfInBounds i true).getD j false=if i=j then true else a.getD j false:=by
 by_cases e:i=j
 ·subst e;simp[h]
 ·simp[e]
theorem FF{a:Act}{d j:Nat}{v:Value}(h:d<a.tmps.size):(a.put (some d) v).tmps.getD j undef=if d=j then v else a.tmps.getD j undef:=by
 show(a.tmps.setIfInBounds d v).getD j undef=_;by_cases e:d=j
 ·subst e;simp[h]
 ·simp[e]
theorem A8{a:Act}{d:Nat}{v:Value}:(a.put (some d) v).tmps.size=a.tmps.size:=by
 show(a.tmps.setIfInBounds d v).size=_;exact On
theorem F2{ops:Array Oper}{a:Array Bool}{i d:Nat}(hi:i∈Region.ready .any ops a)(b:Region.waitsFor .any ops i d=true):a.getD d false=true:=by
 obtain⟨o,c,e,f,g,h⟩:=qV b;obtain⟨_,l,j,k⟩:=qD.1 hi
 grind
def ahv(ops:Array Oper):Bool:=(List.range ops.size).all λj=>((ops[j]?).map λo=>o.after.all λe=>decide (e.on<j)).getD true
theorem Ll{ops:Array Oper}{a:Array Bool}{n:Nat}(g:ahv ops=true)(o:a.size=n)(p:ops.size=n)(h:Region.ready .any ops a=[]):∀j,j<n->a.getD j false=true:=by
 intro j
 induction j using Nat.strongRecOn with
 |_ j q=>
  intro l;cases e:a.getD j false with
  |true=>rfl
  |false=>
   exfalso;have c:j<ops.size:=Oa;have i:j∈Region.ready .any ops a:=by
    refine qD.2 ⟨getD_in Oa e,ops[j],by simp[c],λd f _=> ?_⟩;have b:=gF.1 g j (gC.2 c);rw[Array.getElem?_eq_getElem c]at b;simp only[jZ,iQ]at b;have k:=F8.1 b d f
    grind
   grind
def aec(bR P x y:Nat)(a b:gA):Nat->Value
 |0=> .pointer (some ⟨bR,0,none⟩)
 |1=> .pointer (some ⟨bR,0,none⟩)
 |2=> .int .i64 P
 |3=> .int .i64 x
 |4=> .agg (pv a).toArray
 |5=> .pointer (some ⟨bR,0,none⟩)
 |6=> .pointer (some ⟨bR,0,none⟩)
 |7=> .int .i64 P
 |8=> .int .i64 y
 |_=> .agg (pv b).toArray
structure uu(s0 n bR P x y b7 b8:Nat)(D1 D2:gA)(T:Nat->Value)(cs:np)(W:World)(listed:Array Bool)(a:Act)(w:World):Prop where
 ls:listed.size=14
 ts:a.tmps.size=n
 df:a.defers=[]
 oth:∀j,j≠7->j≠8->(j<s0\/s0+10<=j)->a.tmps.getD j undef=T j
 rd:∀i,i<10->listed.getD i false=true->a.tmps.getD (s0+i) undef=aec bR P x y D1 D2 i
 bel:gm W w
 rm:hU w bR 172 cs
 a7:listed.getD 10 false=true->a.tmps.getD 7 undef= .pointer (some ⟨b7,0,none⟩)/\W.heap.size<=b7/\hU w b7 168 (if listed.getD 12 false=true then pv D1 else pv (List.replicate 7 0))
 a8:listed.getD 11 false=true->a.tmps.getD 8 undef= .pointer (some ⟨b8,0,none⟩)/\W.heap.size<=b8/\hU w b8 168 (if listed.getD 13 false=true then pv D2 else pv (List.replicate 7 0))
 ne:listed.getD 10 false=true->listed.getD 11 false=true->b7≠b8
 o12:listed.getD 12 false=true->listed.getD 10 false=true
 o13:listed.getD 13 false=true->listed.getD 11 false=true
section
variable {s0 n bR P x y b7 b8:Nat} {D1 D2:gA} {T:Nat->Value} {cs:np} {W:World} {listed:Array Bool} {a:Act} {w w':World}
theorem uu.read(h:uu s0 n bR P x y b7 b8 D1 D2 T cs W listed a w)(f:8<s0)(d:s0+10<=n){i:Nat}(hi:i<10)(J:gm w w'):uu s0 n bR P x y b7 b8 D1 D2 T cs W (listed.setIfInBounds i true) (a.put (some (s0+i)) (aec bR P x y D1 D2 i)) w':=by
 have g:=h.ts;have c:=h.ls;have hp:∀j,(a.put (some (s0+i)) (aec bR P x y D1 D2 i)).tmps.getD j undef=if s0+i=j then aec bR P x y D1 D2 i else a.tmps.getD j undef:=λj=>FF Oa;have hl:∀j,(listed.setIfInBounds i true).getD j false=if i=j then true else listed.getD j false:=λj=>p8 Oa;refine⟨by simp[h.ls],by rw[A8];exact h.ts,h.df,?_,?_,h.bel.trans (J.mono h.bel.size),h.rm.below J,?_,?_,?_,?_,?_⟩
 ·exact P6
 ·intro j hj b;rw[hp];by_cases e:i=j
  ·grind
  ·rw[gh Oa];rw[hl,gh e]at b;exact h.rd j hj b
 ·exact Qn
 ·exact Qo
 ·exact PM
 ·exact QN
 ·exact QO
theorem uu.alloc7(h:uu s0 n bR P x y b7 b8 D1 D2 T cs W listed a w)(i:8<s0)(f:s0+10<=n)(g:listed.getD 10 false=false):uu s0 n bR P x y w.heap.size b8 D1 D2 T cs W (listed.setIfInBounds 10 true) (a.put (some 7) (.pointer (some ⟨w.heap.size,0,none⟩))) (w.alloc (.cells (pv (List.replicate 7 0)).toArray 168)):=by
 have k:=h.ts;have d:=h.ls;have hp:∀j,(a.put (some 7) (.pointer (some ⟨w.heap.size,0,none⟩))).tmps.getD j undef=if 7=j then .pointer (some ⟨w.heap.size,0,none⟩)else a.tmps.getD j undef:=λj=>FF Oa;have hl:∀j,(listed.setIfInBounds 10 true).getD j false=if 10=j then true else listed.getD j false:=λj=>p8 Oa;have b:=h.bel.size;have J:Below w.heap.size w (w.alloc (.cells (pv (List.replicate 7 0)).toArray 168)):=(f0 _ _).alloc (fZ _) _;have c:listed.getD 12 false=false:=by
  cases e:listed.getD 12 false with
  |false=>rfl
  |true=>have:=h.o12 e;grind
 refine⟨by simp[h.ls],by rw[A8];exact h.ts,h.df,?_,?_,h.bel.trans (J.mono h.bel.size),h.rm.below J,?_,?_,?_,?_,?_⟩
 ·exact P6
 ·intro j hj d8;rw[hp,gh Oa];exact P5
 ·rw[(hl 10).trans (gl rfl),(hl 12).trans (gh Oa),(hp 7).trans (gl rfl),c];intro _;exact⟨rfl,b,hU.new _ _ _⟩
 ·exact Qo
 ·rw[(hl 10).trans (gl rfl),(hl 11).trans (gh Oa)];intro _ e;have:=(h.a8 e).2.2.lt;exact Oa
 ·grind
 ·exact QO
theorem uu.store7(h:uu s0 n bR P x y b7 b8 D1 D2 T cs W listed a w)(z:bR<W.heap.size)(D:8<s0)(C:s0+10<=n)(g:listed.getD 10 false=true)(f:D1.length=7):uu s0 n bR P x y b7 b8 D1 D2 T cs W (listed.setIfInBounds 12 true) (a.put none undef) (w.setCells b7 0 (pv D1)):=by
 have B:=h.ls;have hl:∀j,(listed.setIfInBounds 12 true).getD j false=if 12=j then true else listed.getD j false:=λj=>p8 Oa;obtain⟨k,l,o⟩:=h.a7 g;have d:=iu (b:=b7) (pv D1) 0 w;have s:hU (w.setCells b7 0 (pv D1)) b7 168 (pv D1):=by
  obtain⟨c,t,v⟩:∃c:np,hU w b7 168 c/\c.length=7:=⟨_,o,by cases listed.getD 12 false<;>simp[jS,f]⟩;exact hU.setCells (pv D1) [] c w t (by rw[v,jS,f])
 refine⟨by simp[h.ls],h.ts,h.df,h.oth,?_,h.bel.grown d h.bel.size (λE A=>by grind),h.rm.kept d (λe=>by grind),?_,?_,?_,?_,?_⟩
 ·intro j hj d8;exact P5
 ·rw[(hl 10).trans (gh Oa),(hl 12).trans (gl rfl),gl rfl];exact λ_=>⟨k,l,s⟩
 ·rw[(hl 11).trans (gh Oa),(hl 13).trans (gh Oa)];intro e;obtain⟨p,q,r⟩:=h.a8 e;exact⟨p,q,r.kept d (λi=>h.ne g e (gG i).symm)⟩
 ·exact PM
 ·grind
 ·rw[(hl 11).trans (gh Oa)];rw[(hl 13).trans (gh Oa)];exact h.o13
theorem uu.alloc8(h:uu s0 n bR P x y b7 b8 D1 D2 T cs W listed a w)(i:8<s0)(f:s0+10<=n)(g:listed.getD 11 false=false):uu s0 n bR P x y b7 w.heap.size D1 D2 T cs W (listed.setIfInBounds 11 true) (a.put (some 8) (.pointer (some ⟨w.heap.size,0,none⟩))) (w.alloc (.cells (pv (List.replicate 7 0)).toArray 168)):=by
 have k:=h.ts;have d:=h.ls;have hp:∀j,(a.put (some 8) (.pointer (some ⟨w.heap.size,0,none⟩))).tmps.getD j undef=if 8=j then .pointer (some ⟨w.heap.size,0,none⟩)else a.tmps.getD j undef:=λj=>FF Oa;have hl:∀j,(listed.setIfInBounds 11 true).getD j false=if 11=j then true else listed.getD j false:=λj=>p8 Oa;have b:=h.bel.size;have J:Below w.heap.size w (w.alloc (.cells (pv (List.replicate 7 0)).toArray 168)):=(f0 _ _).alloc (fZ _) _;have c:listed.getD 13 false=false:=by
  cases e:listed.getD 13 false with
  |false=>rfl
  |true=>have:=h.o13 e;grind
 refine⟨by simp[h.ls],by rw[A8];exact h.ts,h.df,?_,?_,h.bel.trans (J.mono h.bel.size),h.rm.below J,?_,?_,?_,?_,?_⟩
 ·exact P6
 ·intro j hj d8;rw[hp,gh Oa];exact P5
 ·exact Qn
 ·rw[(hl 11).trans (gl rfl),(hl 13).trans (gh Oa),(hp 8).trans (gl rfl),c];intro _;exact⟨rfl,b,hU.new _ _ _⟩
 ·rw[(hl 10).trans (gh Oa),(hl 11).trans (gl rfl)];intro e _;have:=(h.a7 e).2.2.lt;exact Oa
 ·exact QN
 grind
theorem uu.store8(h:uu s0 n bR P x y b7 b8 D1 D2 T cs W listed a w)(z:bR<W.heap.size)(D:8<s0)(C:s0+10<=n)(g:listed.getD 11 false=true)(f:D2.length=7):uu s0 n bR P x y b7 b8 D1 D2 T cs W (listed.setIfInBounds 13 true) (a.put none undef) (w.setCells b8 0 (pv D2)):=by
 have B:=h.ls;have hl:∀j,(listed.setIfInBounds 13 true).getD j false=if 13=j then true else listed.getD j false:=λj=>p8 Oa;obtain⟨k,l,o⟩:=h.a8 g;have d:=iu (b:=b8) (pv D2) 0 w;have s:hU (w.setCells b8 0 (pv D2)) b8 168 (pv D2):=by
  obtain⟨c,t,v⟩:∃c:np,hU w b8 168 c/\c.length=7:=⟨_,o,by cases listed.getD 13 false<;>simp[jS,f]⟩;exact hU.setCells (pv D2) [] c w t (by rw[v,jS,f])
 refine⟨by simp[h.ls],h.ts,h.df,h.oth,?_,h.bel.grown d h.bel.size (λE A=>by grind),h.rm.kept d (λe=>by grind),?_,?_,?_,?_,?_⟩
 ·intro j hj d8;exact P5
 ·rw[(hl 10).trans (gh Oa),(hl 12).trans (gh Oa)];intro e;obtain⟨p,q,r⟩:=h.a7 e;exact⟨p,q,r.kept d (λi=>h.ne e g (gG i))⟩
 ·rw[(hl 11).trans (gh Oa),(hl 13).trans (gl rfl),gl rfl];exact λ_=>⟨k,l,s⟩
 ·exact PM
 ·rw[(hl 10).trans (gh Oa)];rw[(hl 12).trans (gh Oa)];exact h.o12
 grind
end
theorem B7{ops:Array Oper}{Q:Exit->Act->World->Prop}{s0 n bR P x y:Nat}{T:Nat->Value}{cs:np}{W:World}{a:Act}
 (M:ops.size=14) (q0:uB ops 0 (.fieldAddr 172 (.tmp 3) 0) (some s0)) (q1:uB ops 1 (.fieldAddr 60 (.tmp s0) 0) (some (s0+1))) (q2:uB ops 2 (.load 3 (.tmp (s0+1))) (some (s0+2))) (q3:uB ops 3 (.move (.tmp 1)) (some (s0+3)))
 (q4:uB ops 4 (.call {callee:= .value (.func 182),args:= #[.tmp (s0+2),.tmp (s0+3)],argTypes:= #[3,3]}) (some (s0+4)))
 (q5:uB ops 5 (.fieldAddr 172 (.tmp 3) 0) (some (s0+5))) (q6:uB ops 6 (.fieldAddr 60 (.tmp (s0+5)) 0) (some (s0+6))) (q7:uB ops 7 (.load 3 (.tmp (s0+6))) (some (s0+7))) (q8:uB ops 8 (.move (.tmp 2)) (some (s0+8)))
 (q9:uB ops 9 (.call {callee:= .value (.func 182),args:= #[.tmp (s0+7),.tmp (s0+8)],argTypes:= #[3,3]}) (some (s0+9)))
 (ag:uB ops 10 (.alloc 168) (some 7)) (ah:uB ops 11 (.alloc 168) (some 8)) (ai:uB ops 12 (.store 168 (.tmp 7) (.tmp (s0+4))) none) (aj:uB ops 13 (.store 168 (.tmp 8) (.tmp (s0+9))) none)
 (aa:([(1,0),(2,1),(4,2),(4,3),(6,5),(7,6),(9,7),(9,8),(12,10),(12,4),(12,11),(13,11),(13,9),(13,12),(13,10)]:List (Nat×Nat)).all (λN=>Region.waitsFor .any ops N.1 N.2)=true)
 (Y:ahv ops=true) (f:8<s0) (e:s0+10<=n) (H:2<=P) (I:P<=64) (hx:x<128) (hy:y<128)
 (ae:a.tmps.size=n) (ab:a.defers=[]) (X:∀j,j≠7->j≠8->(j<s0\/s0+10<=j)->a.tmps.getD j undef=T j) (t1:T 1= .int .i64 x) (t2:T 2= .int .i64 y) (t3:T 3= .pointer (some ⟨bR,0,none⟩))
 (J:hU W bR 172 cs) (Z:cs[0]? =some (.int .i64 P))
 (V:∀q k b c,q.tmps.size=n->q.defers=[]->(∀j,j≠7->j≠8->(j<s0\/s0+10<=j)->q.tmps.getD j undef=T j)->q.tmps.getD 7 undef= .pointer (some ⟨b,0,none⟩)->q.tmps.getD 8 undef= .pointer (some ⟨c,0,none⟩)->W.heap.size<=b->W.heap.size<=c->b≠c->
   hU k b 168 (pv (jo P x 7))->hU k c 168 (pv (jo P y 7))->hU k bR 172 cs->gm W k->Q .normal q k):
 wpAny prog .any ops Q ops.size (Array.replicate ops.size false) a W:=by
 have d:=gF.1 aa;have al:∀j,(Array.replicate ops.size false).getD j false=false:=λj=>nX _ _;refine Es (λaf a w=>∃b c,uu s0 n bR P x y b c (jo P x 7) (jo P y 7) T cs W af a w) ?_ ?_ _ _ _ _ On ?_ ?_
 ·rintro A z w ⟨b,c,h⟩ i E;have ad:A.getD i true=false:=(qD.1 E).1;have ak:i<14:=by
   obtain⟨_,o,h2,_⟩:=qD.1 E
   grind
  have L:A.getD i false=false:=getD_both ad;have s:∀B,Region.waitsFor .any ops i B=true->A.getD B false=true:=λB d=>F2 E d;have g:∀j,j<10->Region.waitsFor .any ops i j=true->z.tmps.getD (s0+j) undef=aec bR P x y (jo P x 7) (jo P y 7) j:=λj hj hw=>h.rd j hj (s j hw);have y1:z.tmps.getD 1 undef= .int .i64 x:=(h.oth 1 Oc Oc (.inl Oa)).trans t1;have y2:z.tmps.getD 2 undef= .int .i64 y:=(h.oth 2 Oc Oc (.inl Oa)).trans t2;have O:z.tmps.getD 3 undef= .pointer (some ⟨bR,0,none⟩):=(h.oth 3 Oc Oc (.inl Oa)).trans t3;have k0:=h.rm.cell 0;rw[Z]at k0;have l:=f0 w.heap.size w;have K:=J.lt;have ac:i=0\/i=1\/i=2\/i=3\/i=4\/i=5\/i=6\/i=7\/i=8\/i=9\/i=10\/i=11\/i=12\/i=13:=Oa;rcases ac with rfl|rfl|rfl|rfl|rfl|rfl|rfl|rfl|rfl|rfl|rfl|rfl|rfl|rfl
  ·refine oS q0 (λo ho=> ?_) ⟨b,c,h.read f e (i:=0) Oa l⟩;unfold execOp;simp only[ho,Act.eval,O];exact M4
  ·have r0:z.tmps.getD s0 undef= .pointer (some ⟨bR,0,none⟩):=g 0 Oa (d (1,0) On);refine oS q1 (λo ho=> ?_) ⟨b,c,h.read f e (i:=1) Oa l⟩;exact MU
  ·have r0:z.tmps.getD (s0+1) undef= .pointer (some ⟨bR,0,none⟩):=g 1 Oa (d (2,1) On);refine oS q2 (λo ho=> ?_) ⟨b,c,h.read f e (i:=2) Oa l⟩;exact MU
  ·refine oS q3 (λo ho=> ?_) ⟨b,c,h.read f e (i:=3) Oa l⟩;unfold execOp;simp only[ho,Act.eval,y1];exact M4
  ·have r2:z.tmps.getD (s0+2) undef= .int .i64 P:=g 2 Oa (d (4,2) On);have r3:z.tmps.getD (s0+3) undef= .int .i64 x:=g 3 Oa (d (4,3) On);refine zK q4 (λo ho v=> ?_);unfold Oper.wp execOp;simp only[ho];go_simp;refine(tU P x w H I hx).mono ?_;rintro p k ⟨rfl,D⟩;exact⟨b,c,h.read f e (i:=4) Oa D⟩
  ·refine oS q5 (λo ho=> ?_) ⟨b,c,h.read f e (i:=5) Oa l⟩;unfold execOp;simp only[ho,Act.eval,O];exact M4
  ·have r0:z.tmps.getD (s0+5) undef= .pointer (some ⟨bR,0,none⟩):=g 5 Oa (d (6,5) On);refine oS q6 (λo ho=> ?_) ⟨b,c,h.read f e (i:=6) Oa l⟩;exact MU
  ·have r0:z.tmps.getD (s0+6) undef= .pointer (some ⟨bR,0,none⟩):=g 6 Oa (d (7,6) On);refine oS q7 (λo ho=> ?_) ⟨b,c,h.read f e (i:=7) Oa l⟩;exact MU
  ·refine oS q8 (λo ho=> ?_) ⟨b,c,h.read f e (i:=8) Oa l⟩;unfold execOp;simp only[ho,Act.eval,y2];exact M4
  ·have r2:z.tmps.getD (s0+7) undef= .int .i64 P:=g 7 Oa (d (9,7) On);have r3:z.tmps.getD (s0+8) undef= .int .i64 y:=g 8 Oa (d (9,8) On);refine zK q9 (λo ho v=> ?_);unfold Oper.wp execOp;simp only[ho];go_simp;refine(tU P y w H I hy).mono ?_;rintro p k ⟨rfl,D⟩;exact⟨b,c,h.read f e (i:=9) Oa D⟩
  ·refine oS (w':=w.alloc (.cells (pv (List.replicate 7 0)).toArray 168)) (r:= .pointer (some ⟨w.heap.size,0,none⟩)) ag (λo ho=> ?_) ⟨w.heap.size,c,h.alloc7 f e L⟩;unfold execOp;simp only[ho];exact M4
  ·refine oS (w':=w.alloc (.cells (pv (List.replicate 7 0)).toArray 168)) (r:= .pointer (some ⟨w.heap.size,0,none⟩)) ah (λo ho=> ?_) ⟨b,w.heap.size,h.alloc8 f e L⟩;unfold execOp;simp only[ho];exact M4
  ·refine zK ai (λo ho v=> ?_);have F:z.tmps.getD (s0+4) undef= .agg (pv (jo P x 7)).toArray:=g 4 Oa (d (12,4) On);obtain⟨t,C,e3⟩:=h.a7 (s 10 (d (12,10) On));refine ahZ 168 _ _ ho b 0 (pv (jo P x 7)).toArray t F ?_ ?_ (vl _) ?_
   ·exact Dq
   ·simp[jS,kg];exact Oc
   ·rw[v];exact⟨b,c,h.store7 K f e (s 10 (d (12,10) On)) (kg _ _ _)⟩
  ·refine zK aj (λo ho v=> ?_);have F:z.tmps.getD (s0+9) undef= .agg (pv (jo P y 7)).toArray:=g 9 Oa (d (13,9) On);obtain⟨t,C,e3⟩:=h.a8 (s 11 (d (13,11) On));refine ahZ 168 _ _ ho c 0 (pv (jo P y 7)).toArray t F ?_ ?_ (vl _) ?_
   ·exact Dq
   ·simp[jS,kg];exact Oc
   ·rw[v];exact⟨b,c,h.store8 K f e (s 11 (d (13,11) On)) (kg _ _ _)⟩
 ·rintro A z w ⟨b,c,h⟩ U;have lM:=Ll Y h.ls M U;obtain⟨t,C,e3⟩:=h.a7 (lM 10 Oa);obtain⟨R,S,G⟩:=h.a8 (lM 11 Oa);rw[gl (lM 12 Oa)]at e3;rw[gl (lM 13 Oa)]at G;exact V z w b c h.ts h.df h.oth t R C S (h.ne (lM 10 Oa) (lM 11 Oa)) e3 G h.rm h.bel
 ·exact gt (List.length_filter_le _ _) On
 ·refine⟨0,0,by simp[M],ae,ab,X,λi _ p=> ?_,f0 _ _,J,λp=> ?_,λp=> ?_,λp=> ?_,λp=> ?_,λp=> ?_⟩
  all_goals grind
theorem GH{t:Array Value}{n:Nat}(h:t.size=n):t=((List.range n).map λj=>t.getD j undef).toArray:=by
 subst h;apply aeA
 ·exact On
 exact OK
theorem aag{n s0:Nat}{T:Nat->Value}{P:Act->World->Nat->Nat->Prop}(h:∀(f:Nat->Value) d b c,(∀j,j≠7->j≠8->(j<s0\/s0+10<=j)->f j=T j)->f 7= .pointer (some ⟨b,0,none⟩)->f 8= .pointer (some ⟨c,0,none⟩)->P ⟨((List.range n).map f).toArray,[]⟩ d b c):
 ∀(a:Act) d b c,a.tmps.size=n->a.defers=[]->(∀j,j≠7->j≠8->(j<s0\/s0+10<=j)->a.tmps.getD j undef=T j)->a.tmps.getD 7 undef= .pointer (some ⟨b,0,none⟩)->a.tmps.getD 8 undef= .pointer (some ⟨c,0,none⟩)->P a d b c:=by
 rintro⟨t,e⟩ d b c g i k l o
 grind [GH]
end
def JL(P:Nat)(a b:gA)(j:Nat):gA:=(List.range 7).map λi=>if i<j then(a.getD i 0+b.getD i 0)%P else a.getD i 0
theorem qx(P:Nat)(a b:gA)(j:Nat):(JL P a b j).length=7:=by simp[JL]
theorem vJ{P:Nat}{a b:gA}{j i:Nat}(h:i<7):(JL P a b j).getD i 0=if i<j then(a.getD i 0+b.getD i 0)%P else a.getD i 0:=by
 rw[gc,JL,gY,i7 h];rfl
theorem ZT{P:Nat}{a b:gA}(h:a.length=7):JL P a b 0=a:=by
 apply jd
 ·rw[qx,h]
 ·intro i c d;have:=vJ (P:=P) (a:=a) (b:=b) (j:=0) (i:=i) Oa
  grind
theorem ZS{P:Nat}{a b:gA}{j:Nat}(e:j<7):JL P a b (j+1)=(JL P a b j).set j ((a.getD j 0+b.getD j 0)%P):=by
 apply jd
 ·simp[qx]
 ·intro i c d;rw[qx]at c;simp only[JL,vz,sL,qs]
  grind
theorem ZR{P:Nat}{a b:gA}(c:1<=P)(d:∀j,a.getD j 0<P)(n:Nat):∀j,(JL P a b n).getD j 0<P:=by
 intro j;by_cases h:j<7
 ·rw[vJ h];split
  ·exact iD _ Oa
  grind
 grind [qx]
def mW(P K x y:Nat):Nat:=lJ P ((JL P (jo P x 7) (jo P y 7) 7).take K)
def shD(P t b l:Nat):Nat:=(b+(P-t)*l)%P
def shT(P K:Nat)(low a:gA)(j:Nat):gA:=(List.range 7).map λi=>if i<j then shD P (a.getD (K-1) 0) (if 0<i then a.getD (i-1) 0 else 0) (low.getD i 0)else 0
theorem uk(P K:Nat)(low a:gA)(j:Nat):(shT P K low a j).length=7:=by simp[shT]
theorem FQ{P K:Nat}{low a:gA}{j i:Nat}(h:i<7):(shT P K low a j).getD i 0=if i<j then shD P (a.getD (K-1) 0) (if 0<i then a.getD (i-1) 0 else 0) (low.getD i 0)else 0:=by
 rw[gc,shT,gY,i7 h];rfl
theorem adA(P K:Nat)(low a:gA):shT P K low a 0=List.replicate 7 0:=by simp[shT];rfl
theorem adz{P K:Nat}{low a:gA}{j:Nat}:shT P K low a (j+1)=(shT P K low a j).set j (shD P (a.getD (K-1) 0) (if 0<j then a.getD (j-1) 0 else 0) (low.getD j 0)):=by
 apply jd
 ·simp[uk]
 ·intro i b c;rw[uk]at b;simp only[shT,vz,sL,qs]
  grind
theorem aj4{P K:Nat}{low a:gA}(b:1<=P)(n:Nat):∀j,(shT P K low a n).getD j 0<P:=by
 intro j;by_cases h:j<7
 ·rw[FQ h];split
  ·exact iD _ Oa
  ·exact b
 grind [uk]
theorem List.set_twice{a:Type}(l:List a)(j:Nat)(x y:a):(l.set j x).set j y=l.set j y:=On
theorem adB(P K Q:Nat)(u:Value)(low a:gA)(w:World)(hu:Sl w u (nZ low))(hP:2<=P)(aK:P<=64)(hK:1<=K)(aJ:K<=6)(aq:low.length=K)(ap:∀j,low.getD j 0<P)(ha:a.length=7)(aj:∀j,a.getD j 0<P):
 Calls prog 237 #[Ec P K u Q,.agg (pv a).toArray] w λg w'=>g= .returned (.agg (pv (shT P K low a K)).toArray)/\gm w w':=by
 have ab:=gb (uk P K low a);have ad:=gb (λj=>adz (P:=P) (K:=K) (low:=low) (a:=a) (j:=j));have HZ:=gb (adA P K low a);have ac:=gb (λj (E:j<7)=>(FQ (P:=P) (K:=K) (low:=low) (a:=a) (j:=j) E).trans (gh Oa));have Z:=gb aj;have aw:=gb ap;obtain⟨T,M⟩:∃T,T=shT P K low a:=⟨_,rfl⟩;have HR:=gd (pv (shT P K low a K)=pv (T K)) (by rw[M]);rw[<-M]at ab ad HZ ac;obtain⟨l,i,N,rfl,hN,aP,O⟩:=hu.open;obtain rfl:N=K:=by rw[<-hN.out,kO];exact aq
 have aa:=gd (∀j,(nZ low)[j]?.getD 0=((low.getD j 0:Nat):Int)) (λj=>by rw[<-mJ,gc]);rw[HR.out];clear M HR aq ap aj;have n0:(N:Int)-1=((N-1:Nat):Int):=Oa;have aG:(pv a)[N-1]? =some (.int .i64 ((a.getD (N-1) 0:Nat):Int)):=m5 Oa;have ay:((N-1:Nat):Int)<7:=Oa;have ht:=Z.out (N-1);generalize a.getD (N-1) 0=t at*;have af:=(hU.new w 172 [.int .i64 (P:Int),.int .i64 (N:Int),.slice l N i,.int .i64 (Q:Int)]);have I:=(hU.new (w.alloc (.cells #[.int .i64 (P:Int),.int .i64 (N:Int),.slice l N i,.int .i64 (Q:Int)] 172)) 168 (pv a));have B:=hU.new ((w.alloc (.cells #[.int .i64 (P:Int),.int .i64 (N:Int),.slice l N i,.int .i64 (Q:Int)] 172)).alloc (.cells (pv a).toArray 168)) 168 (pv (List.replicate 7 0));have J:=hU.new (((w.alloc (.cells #[.int .i64 (P:Int),.int .i64 (N:Int),.slice l N i,.int .i64 (Q:Int)] 172)).alloc (.cells (pv a).toArray 168)).alloc (.cells (pv (List.replicate 7 0)).toArray 168)) 168 (pv (List.replicate 7 0));have b:=((((f0 w.heap.size w).alloc (fZ _) (.cells #[.int .i64 (P:Int),.int .i64 (N:Int),.slice l N i,.int .i64 (Q:Int)] 172)).alloc On (.cells (pv a).toArray 168)).alloc Oo (.cells (pv (List.replicate 7 0)).toArray 168)).alloc Oo (.cells (pv (List.replicate 7 0)).toArray 168);have au:=iV w (.cells #[.int .i64 (P:Int),.int .i64 (N:Int),.slice l N i,.int .i64 (Q:Int)] 172);have S:=iV (w.alloc (.cells #[.int .i64 (P:Int),.int .i64 (N:Int),.slice l N i,.int .i64 (Q:Int)] 172)) (.cells (pv a).toArray 168);have U:=iV ((w.alloc (.cells #[.int .i64 (P:Int),.int .i64 (N:Int),.slice l N i,.int .i64 (Q:Int)] 172)).alloc (.cells (pv a).toArray 168)) (.cells (pv (List.replicate 7 0)).toArray 168);rw[au]at S I;rw[S]at U B;rw[U]at J;have z:=vd (((af.alloc (.cells (pv a).toArray 168)).alloc (.cells (pv (List.replicate 7 0)).toArray 168)).alloc (.cells (pv (List.replicate 7 0)).toArray 168)) ((I.alloc (.cells (pv (List.replicate 7 0)).toArray 168)).alloc (.cells (pv (List.replicate 7 0)).toArray 168)) (B.alloc (.cells (pv (List.replicate 7 0)).toArray 168)) J b;clear af I B J b au S U;unfold Ec;go_enter func237,ntmps237;go_wp2;clear aG ay n0;go_loopw [7,17] (λ_ V D=>∃j:Nat,j<=N/\V= .int .i64 j/\hU D w.heap.size 172 [.int .i64 (P:Int),.int .i64 (N:Int),.slice l N i,.int .i64 (Q:Int)]/\hU D (w.heap.size+1) 168 (pv a)/\hU D (w.heap.size+1+1) 168 (pv (List.replicate 7 0))/\hU D (w.heap.size+1+1+1) 168 (pv (T j))/\gm w D) (λ_ V _=>N-(intOf V).toNat)
 case atStart=>exact⟨0,by omega,rfl,z.out.1,z.out.2.1,z.out.2.2.1,by rw[HZ.out];exact z.out.2.2.2.1,z.out.2.2.2.2⟩
 case round=>
  clear z;obtain⟨j,hj,rfl,e,k,h,d,b⟩:=hrel;have aD:=ab.out j;by_cases an:j<N
  ·have aF:=ac.out j Oa;have q:=d.cell j;rw[m5 Oa,aF]at q;have C:=d.frozen j;have r:=e.cell 0;have s:=e.cell 2;simp only[gW,ij]at r s;obtain⟨A,G,rfl,al,F⟩:=O Oa;have o:=(b.cell (p:=⟨A,G+j,none⟩) al).trans (F j an);rw[aa.out]at o;have aT:=aw.out j;have aO:(j:Int)<N:=Oa;have aN:(j:Int)<7:=Oa;have aS:(P:Int)-t=((P-t:Nat):Int):=Oa;have aR:(P-t)*low.getD j 0<=4096:=gE (show P-t<=64 by omega) (show low.getD j 0<=64 by omega);have n2:((P-t:Nat):Int)*((low.getD j 0:Nat):Int)=(((P-t)*low.getD j 0:Nat):Int):=(gI _ _).symm;have y:=ad.out j;by_cases aC:j=0
   ·subst aC;rw[gh Oa,show shD P t 0 (low.getD 0 0)=((P-t)*low.getD 0 0)%P by unfold shD;grind]at y;have c:=hU.stored (w:=wr.drew) d 0 (.int .i64 ((((P-t)*low.getD 0 0)%P:Nat):Int));rw[r9,<-y]at c;have v:=vd (hU.kept (w:=wr.drew) e c.2 (λg=>by grind)) (hU.kept (w:=wr.drew) k c.2 (λg=>by grind)) (hU.kept (w:=wr.drew) h c.2 (λg=>by grind)) c.1 ((b.drew).grown c.2 b.size (λav E=>by grind));have n4:(((P-t)*low.getD 0 0:Nat):Int).tmod (P:Int)=((((P-t)*low.getD 0 0)%P:Nat):Int):=(gO _ _).symm;have o:wr.drew.cell? ⟨A,G,none⟩=_:=o;have aB:wr.drew.cell? ⟨w.heap.size+1+1+1,0,none⟩=_:=q;have C:wr.drew.frozen? ⟨w.heap.size+1+1+1,0,none⟩=false:=C;have r:wr.drew.cell? ⟨w.heap.size,0,none⟩=_:=r;have s:wr.drew.cell? ⟨w.heap.size,2,none⟩=_:=s;clear k e h d b c y F O q;generalize low.getD 0 0=X at*;generalize P-t=Y at*;generalize Y*X=H at*;generalize H%P=aI at*;go_wp2;go_region;go_wp2;go_roundw
    case rel=>exact⟨1,by omega,by go_num,v.out⟩
    case measure=>exact gQ
   ·rw[gl Oa]at y;have ao:(pv a)[j-1]? =some (.int .i64 ((a.getD (j-1) 0:Nat):Int)):=m5 Oa;have aA:=(k.cell (j-1)).trans ao;have aL:=Z.out (j-1);have x:=hU.stored (w:=wr) d j (.int .i64 ((a.getD (j-1) 0:Nat):Int));rw[r9]at x;have n5:(j:Int)-1=((j-1:Nat):Int):=Oa;have aM:((j-1:Nat):Int)<7:=Oa;have ag:=hU.kept (w:=wr) e x.2 (λg=>by grind);have B:=hU.kept (w:=wr) k x.2 (λg=>by grind);have ai:=hU.kept (w:=wr) h x.2 (λg=>by grind);have ak:=b.grown x.2 b.size (λav E=>by grind);have ae:=vd ag B ai x.1 ak;clear e k h d b ag B ai x ak ao r s o;generalize az:a.getD (j-1) 0=f at*;clear az;go_wp2;generalize wr.setCell ⟨w.heap.size+1+1+1,j,none⟩ (.int .i64 (f:Int))=n at*;obtain⟨e,k,h,d,b⟩:=ae.out;clear ae q C aA;have aQ:((T j).set j f).length=7:=(by grind);have q:=d.cell j;rw[m5 Oa,show((T j).set j f).getD j 0=f by grind]at q;have C:=d.frozen j;have r:=e.cell 0;have s:=e.cell 2;simp only[gW,ij]at r s;have o:=(b.cell (p:=⟨A,G+j,none⟩) al).trans (F j an);rw[aa.out]at o;have c:=hU.stored (w:=n.drew) d j (.int .i64 (((f+(P-t)*low.getD j 0)%P:Nat):Int));rw[r9,List.set_twice]at c;unfold shD at y;rw[<-y]at c;have v:=vd (hU.kept (w:=n.drew) e c.2 (λg=>by grind)) (hU.kept (w:=n.drew) k c.2 (λg=>by grind)) (hU.kept (w:=n.drew) h c.2 (λg=>by grind)) c.1 ((b.drew).grown c.2 b.size (λav E=>by grind));have n3:(f:Int)+(((P-t)*low.getD j 0:Nat):Int)=((f+(P-t)*low.getD j 0:Nat):Int):=Oa;have n4:((f+(P-t)*low.getD j 0:Nat):Int).tmod (P:Int)=(((f+(P-t)*low.getD j 0)%P:Nat):Int):=(gO _ _).symm;have o:n.drew.cell? ⟨A,G+j,none⟩=_:=o;have aB:n.drew.cell? ⟨w.heap.size+1+1+1,j,none⟩=_:=q;have C:n.drew.frozen? ⟨w.heap.size+1+1+1,j,none⟩=false:=C;have r:n.drew.cell? ⟨w.heap.size,0,none⟩=_:=r;have s:n.drew.cell? ⟨w.heap.size,2,none⟩=_:=s;clear k e h d b c y F O q;generalize low.getD j 0=X at*;generalize P-t=Y at*;generalize Y*X=H at*;have aU:f+H<=5000:=Oa;generalize f+H=sm at*;generalize sm%P=aI at*;go_region;go_wp2;go_roundw
    case rel=>exact⟨j+1,by omega,by go_num,v.out⟩
    case measure=>exact gQ
  ·obtain rfl:j=N:=(by omega);have r2:=d.range;have t1:=h.there;rw[jS,x6]at t1;have ah:hU wr (w.heap.size+1+1) 168 ([]++pv (List.replicate 7 0)):=h;have ar:=hU.setCells (pv (T j)) [] (pv (List.replicate 7 0)) wr ah (by grind [jS]);have am:=iu (b:=w.heap.size+1+1) (pv (T j)) 0 wr;have v:=gR ar (b.grown am b.size (λA g=>by grind));have W:(prog.info? 168).map (·.size)=some (pv (T j)).length:=(by rw[jS,aD];kernel_rfl);have t2:wr.there (w.heap.size+1+1) 0 (pv (T j)).toArray.size:=by
    grind [jS]
   have i2:(prog.info? 168).map (·.size)=some (pv (T j)).toArray.size:=Oa;clear k e h d b ah ar am t1;obtain⟨R,L⟩:∃R,R=T j:=⟨_,rfl⟩;have ax:=gb L;rw[<-L]at r2 W t2 i2 v;clear L
   go_wp2_with (first
    |(refine ii rfl 168 _ rfl (w.heap.size+1+1+1) 0 rfl (pv R) _ r2 underlying168 rfl W ?_)
    |(refine iA rfl 168 _ _ rfl (w.heap.size+1+1) 0 (pv R).toArray rfl rfl t2 i2 (vl R) ?_))
   have aH:(wr.setCells (w.heap.size+1+1) 0 (pv R)).rangeAt (w.heap.size+1+1) 0 (pv R):=v.out.1.range;have aE:=gV (P:=prog) _ _ _ 168 _ _ aH underlying168 rfl W;refine⟨rfl,.agg (pv R).toArray,?_,by rw[ax.out],v.out.2⟩;show((results _ _).run _ _)=_;simp only[Act.put];simp[results,f237,asAddr,aE]
end Go.Proofs.YtnnaadmegeeinaaGreatDoor
