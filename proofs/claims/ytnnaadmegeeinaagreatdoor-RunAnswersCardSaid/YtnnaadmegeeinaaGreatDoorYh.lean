/-
  Part 8 of a proof: what it proves stands in the last text.
-/
import Derived.Test.YtnnaadmegeeinaaGreatDoorYg
import Derived.Shelf.Small.Bits
import Derived.Shelf.Strings.OnBuilder
set_option linter.all false
set_option maxHeartbeats 8000000
set_option maxRecDepth 100000
namespace Go.Proofs.YtnnaadmegeeinaaGreatDoor
open Tryz Go.Proofs.Tryz
open Go.RowKit
def lC:=@IntKind.wrap_u64
def ou:=@Int.emod_eq_emod_iff_emod_sub_eq_zero
def qr:=@List.drop_length
def vy:=@Int.emod_eq_zero_of_dvd
def wX:=@Nat.div_div_eq_div_mul
def x6:=@List.length_replicate
def Wd:=@Nat.mul_lt_mul_of_pos_right
def aez:=@wpList_lookup_own_ok_int
def akq:=@Nat.add_mul_div_left
def akC:=@Calls.quiet_of_same
def akH:=@Nat.div_eq_zero_iff
theorem Oi{p:Prop}(h:p:=by
 obtain⟨rfl,rfl,rfl⟩:=hrel;clear f1 f2 f3 f4 f5 ff f7 f8 f9 ej b1 b2 b3 b4 b5 b6 bA hB hA ct hy d9 bW bl d4;obtain⟨df,cG,bF,cM⟩:=bu.out;obtain⟨f10,f11,f12,f13,fD,f15,f16,bU,g2,ej,⟨q0a,fC⟩,⟨p0a,p0b⟩,⟨r0a,r0b⟩⟩:=bk.out;go_wp2;go_loopw [18,16] (λO b wq=>O= .int .u64 q0/\b= .int .u64 R0/\wq=wr) (λ_ _ _=>0)
 case atStart=>grind
 case round=>
  obtain⟨rfl,rfl,rfl⟩:=hrel;go_wp2;go_ret2
  exact⟨⟨_,rfl⟩,0,rfl⟩):p:=h
theorem UG{p:Prop}(h:p:=by
 go_wp2;go_ret
 exact⟨by rw[HR.out];rfl,ai,rfl⟩):p:=h
theorem Df{p:Prop}(h:p:=by rw[eF.out];omega):p:=h
section
open Go.Maps
def yH(k:Nat):Value:= .int .i64 (k:Int)
theorem abH(x y:Nat)(h:yH x=yH y):x=y:=by
 unfold yH at h
 grind
theorem T2{k:Nat}(a:k<=1000000):(Lit.int .i64 (k:Int)).wf=true:=by
 simp only[Lit.wf,IntKind.min,IntKind.max,IntKind.signed,IntKind.bits,ia,iK,if_true];exact Oa
theorem Ie{k:Nat}(a:k<=1000000):∃b,keyOf prog 3 (yH k)=some b:=⟨_,keyOf_int_mk underlying3 (T2 a)⟩
theorem yz{w:World}{b n:Nat}{S:gA}{ops:Array Oper}{rest:List Oper}{o:Oper}{a:Act}{Q:Exit->Act->World->Prop}
 (i:o.guard=none) (m x:Operand) (t:TypeId) (l:o.op=Op.lookup t m x true) (q:prog.underlying t=some (.map 3 3))
 (k:a.eval m= .map (some b)) (p:KM 3 yH w b n S) (y:Nat) (r:a.eval x=yH y) (j:y<=1000000)
 (h:∀(c:Int)(z:Bool),(z=true↔y∈S)->wpList prog ops Q rest (a.put o.dst (.tuple #[.int .i64 c,.bool z])) w):wpList prog ops Q (o::rest) a w:=by
 obtain⟨D,f,s,v,g⟩:=p;obtain⟨e,d⟩:=Ie j;exact aez w i m x t l 3 3 .i64 (int_keyed underlying3) q underlying3 (zeroValue3 w) b n D k f _ e r d (λc _ _=>h c _ (g y e d))
def Wq(d bs:gA)(b:Nat)(c S:gA):Bool:=match apI b c S with
 |some a=>Wp (d++[b]) bs a
 |none=>false
theorem ZW{d bs:gA}{b a:Nat}{c S:gA}(h:b-a∈S):Wq d bs b (a::c) S=false:=by
 grind [Wq,apI]
theorem Te{d bs:gA}{b a:Nat}{c S:gA}(h:¬b-a∈S):Wq d bs b (a::c) S=Wq d bs b c (ins (b-a) S):=by
 unfold ins;rw[gh h]
 grind [Wq,apI]
theorem Td(a bs:gA)(b:Nat)(S:gA):Wq a bs b [] S=Wp (a++[b]) bs S:=rfl
theorem GF(a bs:gA)(b:Nat)(S:gA):Wp a (b::bs) S=Wq a bs b a S:=rfl
theorem vX{l:gA}{i:Nat}(h:i<l.length):l.drop i=l.getD i 0::l.drop (i+1):=by
 grind [List.drop_eq_getElem_cons]
theorem Jq{l:gA}{i:Nat}(h:i<l.length):l.take i++[l.getD i 0]=l.take (i+1):=by
 grind [List.take_add_one]
theorem Wr(b y c N:Nat)(l:gA)(w:World)(U:b<w.heap.size)(aB:1<=N)(hN:N<=100)(aC:N<=c)(H:l.length=N)(W:∀i,i<N->w.cell? ⟨b,y+i,none⟩=some (.int .i64 ((l.getD i 0:Nat):Int)))(T:∀i j,i<j->j<N->l.getD i 0<l.getD j 0)(V:∀i,i<N->l.getD i 0<=1000):
 Calls prog 262 #[.slice (some ⟨b,y,none⟩) N c] w λP w'=>P= .returned (.bool (BR l))/\gm w w':=by
 have aF:= @run_makeMap prog;have al:=gb (KM.new 3 yH w);have M:=gb W;have ae:=gb T;have ah:=gb V;have HL:=gb H;have HZ:=gd (Wp (l.take 0) (l.drop 0) []=BR l) rfl;have ai:=gb (λi (n:i<N)=>vX (l:=l) (i:=i) Oa);have aq:=gb (λi (n:i<N)=>Jq (l:=l) (i:=i) Oa)
 have am:=gb (λi j (n:j<i) (h2:i<=N)=>(show(l.take i).drop j=l.getD j 0::(l.take i).drop (j+1)from by
  rw[vX (l:=l.take i) (i:=j) (by grind)]
  grind))
 have ao:=gb (λi (h2:i<=N)=>(show(l.take i).drop i=[]from by grind));have ak:=gd (∀S,Wp (l.take N) (l.drop N) S=true) (λS=>by rw[<-H,qr];rfl);have Q:Below w.heap.size w (w.alloc (.map #[] 0)):=(f0 _ _).alloc (fZ _) _;have ag:=gb Q;generalize BR l=R at*;clear W T V H Q;go_enter func262,ntmps262;go_wp2;go_loopw [13] (λI wr=>∃(i v:Nat)(S:gA),i<=N/\I= .int .i64 i/\v<=100*i/\KM 3 yH wr w.heap.size v S/\Hid (Wp (l.take i) (l.drop i) S=R)/\gm w wr) (λI _=>N-(intOf I).toNat)
 case atStart=>exact⟨0,0,[],ge _,rfl,ge _,al.out,gb HZ.out,ag.out⟩
 case round=>
  obtain⟨i,v,S,Z,rfl,hn,h,f,d⟩:=hrel;by_cases o:i<N
  ·have au:(i:Int)<N:=(by omega);have c1:=(d.cell (p:=⟨b,y+i,none⟩) U).trans (M.out i o);have hx:=ah.out i o
   have C:=gd (Wq (l.take i) (l.drop (i+1)) (l.getD i 0) ((l.take i).drop 0) S=R) (by
    have:=f.out
    rwa [ai.out i o,GF]at this)
   have a:=gR h d;have aD:(i:Int)<=c:=Oa;clear h d f;obtain⟨x,s⟩:∃x,l.getD i 0=x:=⟨_,rfl⟩;rw[s]at c1 hx C;have af:=gb (λj (n:j<i)=>(show l.getD j 0<x from by rw[<-s];exact ae.out j i n o));have ar:=gb (show l.take i++[x]=l.take (i+1)from by rw[<-s];exact aq.out i o);have an:=gb (λj (n:j<i)=>am.out i j n Z);have ap:=gb (ao.out i Z);clear s;generalize l.take i=r at*;obtain⟨q,D⟩:∃q,l.drop (i+1)=q:=⟨_,rfl⟩;rw[D]at C;have aj:=gb D;clear D;go_wp2;go_loopw [22] (λJ wq=>∃(j k:Nat)(g:gA),j<=i/\J= .int .i64 j/\k<=100*i+j/\KM 3 yH wq w.heap.size k g/\Hid (Wq r q x (r.drop j) g=R)/\gm w wq) (λJ _=>i-(intOf J).toNat)
   case atStart=>exact⟨0,v,S,ge _,rfl,by omega,a.out.1,gb C.out,a.out.2⟩
   case round=>
    clear a;obtain⟨j,k,g,hj,rfl,aG,h,f,d⟩:=hrel;by_cases aa:j<i
    ·have av:(j:Int)<i:=(by omega);have c2:=(d.cell (p:=⟨b,y+j,none⟩) U).trans (M.out j Oa);have aE:=af.out j aa;have E:=f.out;rw[an.out j aa]at E;generalize l.getD j 0=ad at*;obtain⟨e,X⟩:∃e,x-ad=e:=⟨_,rfl⟩;have ac:Value.int .i64 ((x:Int)-ad)=yH e:=by
      grind [yH]
     have A:=gb ac;have F:e<=1000000:=Oa;have a:=gR h d;have O:=gb E;have z:=gb X;have ax:k<maxLen:=Mm;have aw:=Ie F;have az:=T2 (k:=i) Oa;have ay:=d.size;clear h d f E ac X;by_cases G:e∈g
     ·obtain rfl:false=R:=by rw[<-O.out,ZW (by rw[z.out];exact G)]
      go_wp2_with (first
       |(refine yz rfl _ _ 261 rfl underlying261 rfl a.out.1 e A.out F ?_
         intro z0 K t;obtain rfl:K=true:=t.2 G
         clear t)
       |fail)
      go_ret;exact⟨rfl,a.out.2⟩
     ·have B:=gd (Wq r q x (r.drop (j+1)) (ins e g)=R) (by
       rw[<-O.out,Te (by rw[z.out];exact G),z.out])
      go_wp2_with (first
       |(refine yz rfl _ _ 261 rfl underlying261 rfl a.out.1 e A.out F ?_
         intro z0 K t;obtain rfl:K=false:=OK
         clear t)
       |(refine Et rfl _ _ _ 261 rfl 3 yH (int_keyed underlying3) abH underlying261 w.heap.size k g rfl a.out.1 ax e ((i:Nat):Int) A.out rfl aw az ?_
         intro w8 ab Y;have L:=gR ab (a.out.2.grown Y ay (λaA P=>by simp_all))
         clear ab Y)
       |fail)
      go_roundw
      case rel=>exact⟨j+1,k+1,_,by omega,by go_num,by omega,L.out.1,gb B.out,L.out.2⟩
      case measure=>exact gQ
    ·obtain rfl:j=i:=(by omega);have av:¬(j:Int)<j:=Oa;have a:=gR h d
     have B:=gd (Wp (l.take (j+1)) (l.drop (j+1)) g=R) (by
      have:=f.out;rw[ap.out,Td,ar.out,<-aj.out]at this
      exact this)
     clear h d f;go_wp2;go_roundw
     case rel=>exact⟨j+1,k,g,by omega,by go_num,by omega,a.out.1,gb B.out,a.out.2⟩
     case measure=>exact gQ
  ·obtain rfl:i=N:=(by omega);have au:¬(i:Int)<i:=Oa;obtain rfl:true=R:=(by rw[<-f.out,ak.out]);have HB:=gb d;clear h f d;exact MW
end
section
open Go.Shelf
def Xv:Ren:=⟨λx=>match x with|134=>329|129=>296|n=>n,λx=>match x with|53=>188|3=>3|4=>4|46=>126|5=>5|9=>9|n=>n,λn=>n⟩
theorem ajz:Lays.n134 prog Xv where
 mixed:=Ob
 f129:=jF func296
 f134:=jF func329
 t3:=underlying3
 a3:=isAgg3
 z3:=sizeOf3
 v3:=zeroValue3
 t4:=underlying4
 a4:=isAgg4
 z4:=sizeOf4
 v4:=zeroValue4
 t5:=underlying5
 a5:=isAgg5
 z5:=sizeOf5
 v5:=zeroValue5
 t9:=underlying9
 a9:=isAgg9
 z9:=sizeOf9
 v9:=zeroValue9
 t46:=underlying126
 a46:=isAgg126
 z46:=sizeOf126
 v46:=zeroValue126
 t53:=underlying188
 a53:=isAgg188
 z53:=sizeOf188
 v53:=zeroValue188
structure amc(A B y M S T U V Yh q1 r1 W q0:Nat):Prop where
 u:U=A*S+B/M
 v:V=B%M*T
 yh:Yh=y*T
 q1d:U/Yh=q1
 r1d:U=q1*Yh+r1
 r1b:r1<Yh
 w:W=r1*4294967296+V
 q0d:W/Yh=q0
 wq:q0*Yh<=W
 q1b:q1<4294967296
 q0b:q0<4294967296
 wb:W<18446744073709551616
 ub:U<18446744073709551616
 yb:Yh<4294967296
 vb:V<4294967296
 fin:(A*18446744073709551616+B)/y=q1*4294967296+q0
theorem ak4{A B y M S T:Nat}(p:B<18446744073709551616)(q:M*S=18446744073709551616)(H:S=T*4294967296)(v:y<M)(o:A<y)(g:M*T=4294967296):
 ∃U V a D F W z,amc A B y M S T U V a D F W z:=by
 have c:0<T:=by
  grind
 have f:0<M:=Oa;have b:0<y*T:=aku Oa c;have j:y*T<4294967296:=by rw[<-g];exact Wd v c
 have J:=jN B M;have t:=iD B f;have I:B/M<S:=by rw[jR f,ka,q];exact p
 have e:A*S+B/M<y*S:=by
  have:A*S+S<=y*S:=(by rw[<-Gg];exact iB _ o);exact Oa
 have w:y*S=y*T*4294967296:=by grind
 have k:B%M*T<4294967296:=by rw[<-g];exact Wd t c
 obtain⟨U,h⟩:∃U,U=A*S+B/M:=⟨_,rfl⟩;obtain⟨V,i⟩:∃V,V=B%M*T:=⟨_,rfl⟩;obtain⟨a,d⟩:∃a,a=y*T:=⟨_,rfl⟩;rw[<-h]at e;rw[<-i]at k;rw[w,<-d]at e;rw[<-d]at b j;have G:=jN U a;have x:=iD U b;have E:U/a<4294967296:=by rw[jR b,ka];exact e
 obtain⟨W,r⟩:∃W,W=U%a*4294967296+V:=⟨_,rfl⟩;have s:W<a*4294967296:=Oa;have C:W/a<4294967296:=by rw[jR b,ka];exact s
 refine⟨U,V,a,U/a,U%a,W,W/a,h,i,d,rfl,by grind,x,r,rfl,By W a,E,C,by omega,by omega,j,k,?_⟩;have l:(A*18446744073709551616+B)*T=U*4294967296+V:=by
  grind
 rw[<-Nat.mul_div_mul_right (A*18446744073709551616+B) y c,l,<-d];have n:U*4294967296+V=W+a*(U/a*4294967296):=by
  grind
 rw[n,akq _ _ b];omega
theorem zp(y:Nat)(w:World)(b:y<=30):Calls prog 329 #[.int .u64 y] w λe a=>e= .returned (.int .i64 (64-(Lib.bitLen y:Int)))/\w=a:=by
 refine(show Calls prog 329 #[.int .u64 y] w _ from Any.bits_LeadingZeros64 ajz y w Oa Oa).mono ?_
 grind
theorem alh:∀y,y<4->2<=y->Lib.bitLen y=2:=Oc
theorem ali:∀y,y<8->4<=y->Lib.bitLen y=3:=Oc
theorem alj:∀y,y<16->8<=y->Lib.bitLen y=4:=Oc
theorem alk:∀y,y<32->16<=y->Lib.bitLen y=5:=Oc
theorem agh(a b c N:Int):(((a%N+b)%N)-c%N)%N=(a+b-c)%N:=OK
theorem am2(U V a b W:Nat)(c:U=a+b)(d:W=b*4294967296+V)(e:W<18446744073709551616):((U:Int)*4294967296+V-a*4294967296)%18446744073709551616=(W:Int):=Oa
theorem ut(x:Int)(a:0<=x)(b:x<18446744073709551616):IntKind.u64.wrap x=x:=by rw[lC];omega
theorem Tc(Z:Nat)(h:Z<4294967296):bits .and .u64 ((Z:Int)*4294967296) 4294967295=0:=by
 have:=bits_and_u64_nat (Z*4294967296) 4294967295 Oa Oa;rw[show(Z*4294967296)&&&4294967295=(Z*4294967296)%4294967296 from Nat.and_two_pow_sub_one_eq_mod _ 32]at this
 grind
theorem TI{A B y M S T i:Nat}{Si Mi:Int}(w:Si=(S:Int))(Y:Mi=(M:Int))(hi:S=2^i)(s:B<18446744073709551616)(l:M*S=18446744073709551616)(n:S=T*4294967296)(x:y<M)(N:A<y)(P:M*T=4294967296):
 ∃U V a d f W c e b g h o:Nat,((y:Int)*Si/4294967296=a/\bits .and .u64 ((y:Int)*Si) 4294967295=0/\bits .or .u64 ((A:Int)*Si) ((B:Int)/Mi)=(U:Int)/\IntKind.u64.wrap ((B:Int)*Si)=(V:Int)*4294967296/\(V:Int)*4294967296/4294967296=V/\bits .and .u64 ((V:Int)*4294967296) 4294967295=0/\(U:Int).tdiv (a:Int)=(d:Int)/\(d:Int)*a=e/\(U:Int)-e=f/\¬(a:Int)=0/\d<4294967296/\c<4294967296/\W<18446744073709551616/\U<18446744073709551616/\a<4294967296/\V<4294967296/\f<a)/\Hid (decide ((4294967296:Int)<=d)=false/\IntKind.u64.wrap (4294967296*(f:Int))=4294967296*(f:Int)/\IntKind.u64.wrap (4294967296*(f:Int)+V)=(W:Int)/\decide ((W:Int)<0)=false)/\Hid (IntKind.u64.wrap (IntKind.u64.wrap (IntKind.u64.wrap ((U:Int)*4294967296)+(V:Int))-IntKind.u64.wrap ((d:Int)*((y:Int)*Si)))=(W:Int)/\(W:Int).tdiv (a:Int)=(c:Int)/\(c:Int)*a=b/\(W:Int)-b=g/\IntKind.u64.wrap (IntKind.u64.wrap ((d:Int)*4294967296)+(c:Int))=(o:Int)/\IntKind.u64.wrap (4294967296*(g:Int))=(h:Int)/\IntKind.u64.wrap (h:Int)=(h:Int)/\decide ((4294967296:Int)<=c)=false/\decide ((h:Int)<0)=false/\¬(a:Int)=0/\(0<=(c:Int)/\(c:Int)<4294967296)/\(0<=(b:Int)/\(b:Int)<18446744073709551616)/\0<=(g:Int)/\(g:Int)<18446744073709551616)/\(A*18446744073709551616+B)/y=o:=by
 obtain⟨U,V,a,d,f,W,c,D⟩:=ak4 s l n x N P;have k:=D.u;have I:=D.r1d;have R:=D.w;have H:=D.wq;have C:=D.q1b;have E:=D.q0b;have F:=D.wb;have j:=D.ub;have p:=D.yb;have q:=D.vb;have G:=D.r1b;obtain⟨e,v⟩:∃e,e=d*a:=⟨_,rfl⟩;obtain⟨b,t⟩:∃b,b=c*a:=⟨_,rfl⟩;rw[<-v]at I;rw[<-t]at H;have z:(y:Int)*Si=a*4294967296:=by
  rw[w,<-gI,n,<-BP,<-D.yh];omega
 have O:B/M<2^i:=by
  rw[<-hi,jR (pd (ge _) x),ka,l];exact s
 have J:bits .or .u64 ((A:Int)*Si) ((B:Int)/Mi)=(U:Int):=by
  have r:=Nat.two_pow_add_eq_or_of_lt O A;rw[<-hi,ka,<-k]at r;have:=bits_or_u64_nat (A*S) (B/M) (pd (Nat.le_add_right _ _) (k▸j)) (pd (Nat.le_add_left _ _) (k▸j))
  grind
 have K:IntKind.u64.wrap ((B:Int)*Si)=(V:Int)*4294967296:=by
  have r:B*S%18446744073709551616=V*4294967296:=(by rw[<-l,Nat.mul_mod_mul_right,D.v,BP,<-n]);rw[lC,w,<-gI];exact Oa
 have Q:(d:Int)*((y:Int)*Si)=e*4294967296:=by
  rw[z,v,gI,BJ]
 have Z:W<b+a:=by
  have:=jN W a;have X:=iD W (show 0<a by omega);rw[D.q0d,ka,<-t]at this;exact Oa
 have L:IntKind.u64.wrap (4294967296*((W-b:Nat):Int))=((4294967296*(W-b):Nat):Int):=by grind [ut]
 refine⟨U,V,a,d,f,W,c,e,b,W-b,4294967296*(W-b),d*4294967296+c,⟨by omega,by rw[z];exact Tc _ p,J,K,by omega,Tc _ q,by rw[<-iS,D.q1d],by omega,by omega,by omega,C,E,F,j,p,q,G⟩,gb ⟨gp Oa,ut _ Oa Oa,by grind [ut],gp Oa⟩,
  gb ⟨by rw[Q,lC,lC,lC,lC,agh];grind,by rw[<-iS,D.q0d],by omega,by omega,by rw[lC,lC];omega,L,ut _ Oa Oa,gp Oa,gp Oa,by omega,by omega,by omega,by omega⟩,D.fin⟩
theorem aft(A B y:Nat)(w:World)(hy:y<4)(d9:2<=y)(hA:A<y)(ct:0<A)(hB:B<18446744073709551616):
 Calls prog 294 #[.int .u64 A,.int .u64 B,.int .u64 y] w λe h=>(∃r,e= .returned (.tuple #[.int .u64 ((A*18446744073709551616+B)/y:Nat),r]))/\∃n,h=w.drewN n:=by
 have a:=zp y w Oa;rw[alh y hy d9]at a;have D:=TI (A:=A) (B:=B) (y:=y) (M:=4) (S:=4611686018427387904) (T:=1073741824) (i:=62) (Si:=4611686018427387904) (Mi:=4) rfl rfl Oc hB Oc Oc hy hA Oc;have d:=gb a;obtain⟨U,V,p,f,g,W,q0,k,j,R0,o,l,⟨f1,f2,f3,f4,f5,ff,f7,f8,f9,ej,b1,b2,b3,b4,b5,b6,bA⟩,bu,bk,c⟩:=D;rw[c];have bW:¬(y:Int)<=A:=Oa;have bl:((A:Int)==0)=false:=Oo;have d4:((y:Int)==0)=false:=Oo;clear a c;go_enter func294,ntmps294;go_wp2_with fail;refine d.out.mono ?_;rintro e q ⟨rfl,rfl⟩;go_wp2;go_loopw [15,16] (λO b wr=>O= .int .u64 f/\b= .int .u64 g/\wr=w) (λ_ _ _=>0)
 case atStart=>grind
 case round=>
  exact Oi
theorem afu(A B y:Nat)(w:World)(hy:y<8)(d9:4<=y)(hA:A<y)(ct:0<A)(hB:B<18446744073709551616):
 Calls prog 294 #[.int .u64 A,.int .u64 B,.int .u64 y] w λe h=>(∃r,e= .returned (.tuple #[.int .u64 ((A*18446744073709551616+B)/y:Nat),r]))/\∃n,h=w.drewN n:=by
 have a:=zp y w Oa;rw[ali y hy d9]at a;have D:=TI (A:=A) (B:=B) (y:=y) (M:=8) (S:=2305843009213693952) (T:=536870912) (i:=61) (Si:=2305843009213693952) (Mi:=8) rfl rfl Oc hB Oc Oc hy hA Oc;have d:=gb a;obtain⟨U,V,p,f,g,W,q0,k,j,R0,o,l,⟨f1,f2,f3,f4,f5,ff,f7,f8,f9,ej,b1,b2,b3,b4,b5,b6,bA⟩,bu,bk,c⟩:=D;rw[c];have bW:¬(y:Int)<=A:=Oa;have bl:((A:Int)==0)=false:=Oo;have d4:((y:Int)==0)=false:=Oo;clear a c;go_enter func294,ntmps294;go_wp2_with fail;refine d.out.mono ?_;rintro e q ⟨rfl,rfl⟩;go_wp2;go_loopw [15,16] (λO b wr=>O= .int .u64 f/\b= .int .u64 g/\wr=w) (λ_ _ _=>0)
 case atStart=>grind
 case round=>
  exact Oi
theorem afv(A B y:Nat)(w:World)(hy:y<16)(d9:8<=y)(hA:A<y)(ct:0<A)(hB:B<18446744073709551616):
 Calls prog 294 #[.int .u64 A,.int .u64 B,.int .u64 y] w λe h=>(∃r,e= .returned (.tuple #[.int .u64 ((A*18446744073709551616+B)/y:Nat),r]))/\∃n,h=w.drewN n:=by
 have a:=zp y w Oa;rw[alj y hy d9]at a;have D:=TI (A:=A) (B:=B) (y:=y) (M:=16) (S:=1152921504606846976) (T:=268435456) (i:=60) (Si:=1152921504606846976) (Mi:=16) rfl rfl Oc hB Oc Oc hy hA Oc;have d:=gb a;obtain⟨U,V,p,f,g,W,q0,k,j,R0,o,l,⟨f1,f2,f3,f4,f5,ff,f7,f8,f9,ej,b1,b2,b3,b4,b5,b6,bA⟩,bu,bk,c⟩:=D;rw[c];have bW:¬(y:Int)<=A:=Oa;have bl:((A:Int)==0)=false:=Oo;have d4:((y:Int)==0)=false:=Oo;clear a c;go_enter func294,ntmps294;go_wp2_with fail;refine d.out.mono ?_;rintro e q ⟨rfl,rfl⟩;go_wp2;go_loopw [15,16] (λO b wr=>O= .int .u64 f/\b= .int .u64 g/\wr=w) (λ_ _ _=>0)
 case atStart=>grind
 case round=>
  exact Oi
theorem afw(A B y:Nat)(w:World)(hy:y<32)(d9:16<=y)(q:y<=30)(hA:A<y)(ct:0<A)(hB:B<18446744073709551616):
 Calls prog 294 #[.int .u64 A,.int .u64 B,.int .u64 y] w λe h=>(∃r,e= .returned (.tuple #[.int .u64 ((A*18446744073709551616+B)/y:Nat),r]))/\∃n,h=w.drewN n:=by
 have a:=zp y w Oa;rw[alk y hy d9]at a;have D:=TI (A:=A) (B:=B) (y:=y) (M:=32) (S:=576460752303423488) (T:=134217728) (i:=59) (Si:=576460752303423488) (Mi:=32) rfl rfl Oc hB Oc Oc hy hA Oc;have d:=gb a;obtain⟨U,V,p,f,g,W,q0,k,j,R0,o,l,⟨f1,f2,f3,f4,f5,ff,f7,f8,f9,ej,b1,b2,b3,b4,b5,b6,bA⟩,bu,bk,c⟩:=D;rw[c];have bW:¬(y:Int)<=A:=Oa;have bl:((A:Int)==0)=false:=Oo;have d4:((y:Int)==0)=false:=Oo;clear a c;go_enter func294,ntmps294;go_wp2_with fail;refine d.out.mono ?_;rintro e s ⟨rfl,rfl⟩;go_wp2;go_loopw [15,16] (λO b wr=>O= .int .u64 f/\b= .int .u64 g/\wr=w) (λ_ _ _=>0)
 case atStart=>grind
 case round=>
  exact Oi
theorem WO(A B y:Nat)(w:World)(h:y<=30)(a:A<y)(b:B<18446744073709551616):
 Calls prog 294 #[.int .u64 A,.int .u64 B,.int .u64 y] w λe i=>(∃r,e= .returned (.tuple #[.int .u64 ((A*18446744073709551616+B)/y:Nat),r]))/\∃n,i=w.drewN n:=by
 by_cases c:A=0
 ·subst c;refine(WP B y w b Oa a).mono ?_
  grind
 by_cases d:y<4
 ·exact aft A B y w d Oa a Oa b
 by_cases f:y<8
 ·exact afu A B y w f Oa a Oa b
 by_cases g:y<16
 ·exact afv A B y w g Oa a Oa b
 ·exact afw A B y w Oa Oa h a Oa b
end
section
open Go.Shelf
theorem XD(x y:Nat)(w:World)(a:x<18446744073709551616)(b:y<18446744073709551616):
 Calls prog 293 #[.int .u64 x,.int .u64 y] w λe c=>e= .returned (.tuple #[.int .u64 (x*y/18446744073709551616:Nat),.int .u64 (x*y%18446744073709551616:Nat)])/\w=c:=by
 refine(show Calls prog 293 #[.int .u64 x,.int .u64 y] w _ from Any.bits_Mul64 agj x y a b w).mono ?_
 grind
def yj(x:Nat):Nat:=if x<=1152921504606846976 then x else 1152921504606846976
theorem afr(d:Nat):∀j,lg (d+j) j<=lg (d+(j+1)) (j+1):=by
 grind [lg]
theorem xq(d:Nat){a b:Nat}(h:a<=b):lg (d+a) a<=lg (d+b) b:=by
 induction b with
 |zero=>grind
 |succ b c=>
  by_cases e:a=b+1
  ·grind
  grind [afr]
theorem xj{x:Nat}(h:x<=1152921504606846976):yj x=x:=gl h
theorem afh{x:Nat}(h:1152921504606846976<=x):yj x=1152921504606846976:=by
 unfold yj
 grind
theorem ai0(p i:Nat)(hi:0<i)(h:i<=p/18446744073709551616)(q:Nat)(b:p=q*i):1152921504606846976<=q:=by
 have a:i*18446744073709551616<=p:=(qo Oa).1 h;rw[b,ka]at a;have:=Nat.le_of_mul_le_mul_right a hi;exact Oa
theorem Bs(n k:Nat)(w:World)(hn:n<=1000000031)(hk:k<=30):
 Calls prog 272 #[.int .i64 n,.int .i64 k] w λe w'=>e= .returned (.int .i64 (yj (lg n k):Nat))/\∃ai,w'=w.drewN ai:=by
 by_cases Y:n<k
 ·rw[om n k Y];go_enter func272,ntmps272;go_wp2;go_ret;exact⟨rfl,0,rfl⟩
 ·obtain⟨d,C⟩:∃d,n=d+k:=⟨n-k,by omega⟩;have al:(n:Int)-k=d:=Oa;have T:=gb (λ(F G:Nat)(w:World)=>XD F G w);have S:=gb (λ(F G ad:Nat)(w:World)=>WO F G ad w);obtain⟨B,y⟩:∃B:Nat->Nat,B=λj=>lg (d+j) j:=⟨_,rfl⟩;have O:=gd (∀j,B j*(d+j+1)=B (j+1)*(j+1)) (λj=>by grind [mB]);have U:=gd (∀t v,t<=v->B t<=B v) (λt v h=>by rw[y];exact xq d h);have H:=gd (B 0=1) (by grind [mC]);have K:lg n k=B k:=(by rw[y,C]);rw[K];have ag:d<=1000000031:=Oa;have ae:=gb C;clear K y C;obtain⟨R,L⟩:∃R,R=yj (B k):=⟨_,rfl⟩;have I:=gd (1152921504606846976<=B k->R=1152921504606846976) (λh=>by grind [afh]);have V:=gd (B k<=1152921504606846976->R=B k) (λh=>by grind [xj]);rw[<-L];clear L;go_enter func272,ntmps272;go_wp2;go_loopw [5,6] (λab D wr=>∃j ai:Nat,j<=k/\D= .int .i64 ((j:Int)+1)/\ab= .int .u64 (B j:Nat)/\B j<=1152921504606846976/\wr=w.drewN ai) (λ_ D _=>k+2-(intOf D).toNat)
  case atStart=>exact⟨0,0,ge _,rfl,by rw[H.out];rfl,by rw[H.out];omega,rfl⟩
  case round=>
   obtain⟨j,ai,hj,rfl,rfl,M,rfl⟩:=hrel;by_cases ak:j<k
   ·have c:=O.out j;have a:=T.out (B j) (d+j+1) (w.drewN ai) Oa Oa;rw[c]at a;rw[show((d+j+1:Nat):Int)=d+((j:Int)+1)by omega]at a;have o:B (j+1)*(j+1)<340282366920938463463374607431768211456:=by
     rw[<-c];have:B j*(d+j+1)<=1152921504606846976*1000000062:=gE M Oa;exact Oa
    obtain⟨p,b⟩:∃p,p=B (j+1)*(j+1):=⟨_,rfl⟩;rw[<-b]at a o;obtain⟨h,i⟩:∃h,h=p/18446744073709551616:=⟨_,rfl⟩;obtain⟨g,l⟩:∃g,g=p%18446744073709551616:=⟨_,rfl⟩;have X:g<18446744073709551616:=Oa;have ah:h<18446744073709551616:=Oa;rw[<-i,<-l]at a;have s:=gb a;have J:=gb (U.out (j+1) k Oa);by_cases aj:j+1<=h
    ·have HR:=gd (R=1152921504606846976) (I.out (gt (ai0 p (j+1) Oa Oa _ b) J.out));clear a c o b i l;go_wp2_with fail;refine s.out.mono ?_;rintro e q ⟨rfl,rfl⟩;exact UG
    ·have f:=S.out h g (j+1) (w.drewN ai) Oa Oa X;rw[show h*18446744073709551616+g=p by omega,b,al4 _ Oa]at f;rw[show((j+1:Nat):Int)=j+1 by omega]at f;have Z:B (j+1)<18446744073709551616:=by
      have W:p<(j+1)*18446744073709551616:=(jR Oa).1 Oa;rw[b,ka (j+1)]at W;exact OK
     have r:=gb f;by_cases A:1152921504606846976<B (j+1)
     ·have HR:=gd (R=1152921504606846976) (I.out (gt (ly A) J.out));have af:(1152921504606846976:Int)<(B (j+1):Int):=Oa;clear a c o b i l f A;generalize B (j+1)=x at*;go_wp2_with fail;refine s.out.mono ?_;rintro e q ⟨rfl,rfl⟩;go_wp2_with fail;refine r.out.mono ?_;rintro e q ⟨⟨ac,rfl⟩,E,rfl⟩;go_wp2;go_ret;exact⟨by rw[HR.out];rfl,ai+E,by simp⟩
     ·have N:B (j+1)<=1152921504606846976:=(by omega);have aa:¬(1152921504606846976:Int)<(B (j+1):Int):=Oa;clear a c o b i l f A;have P:=gb N;obtain⟨x,z⟩:∃x,x=B (j+1):=⟨_,rfl⟩;rw[<-z]at r N aa Z;have Q:=gb z;clear z;go_wp2_with fail;refine s.out.mono ?_;rintro e q ⟨rfl,rfl⟩;go_wp2_with fail;refine r.out.mono ?_;rintro e q ⟨⟨ac,rfl⟩,E,rfl⟩;go_wp2;go_roundw
      case rel=>exact⟨j+1,ai+E,by omega,by go_num,by rw[Q.out],P.out,rfl⟩
      case measure=>exact gQ
   ·obtain rfl:j=k:=(by omega);have HR:=gb (V.out M);exact UG
end
section
open Go.Shelf
def Ig:Ren:=⟨λx=>match x with|156=>101|165=>180|166=>8|169=>10|240=>13|241=>233|276=>24|277=>277|n=>n,λx=>match x with|31=>37|9=>9|3=>3|4=>4|0=>0|20=>20|72=>28|76=>33|70=>25|37=>26|75=>32|127=>43|164=>55|5=>5|80=>35|n=>n,λn=>n⟩
theorem If:Lays.n156 prog Ig where
 mixed:=Ob
 f156:=jF func101
 f165:=jF func180
 f166:=jF func8
 f169:=jF func10
 f240:=jF func13
 f241:=jF func233
 f276:=jF func24
 f277:=jF func277
 t0:=underlying0
 a0:=isAgg0
 z0:=sizeOf0
 v0:=zeroValue0
 t3:=underlying3
 a3:=isAgg3
 z3:=sizeOf3
 v3:=zeroValue3
 t4:=underlying4
 a4:=isAgg4
 z4:=sizeOf4
 v4:=zeroValue4
 t9:=underlying9
 a9:=isAgg9
 z9:=sizeOf9
 v9:=zeroValue9
 t20:=underlying20
 a20:=isAgg20
 z20:=sizeOf20
 v20:=zeroValue20
 t31:=underlying37
 a31:=isAgg37
 z31:=sizeOf37
 v31:=zeroValue37
 t37:=underlying26
 a37:=isAgg26
 z37:=sizeOf26
 v37:=zeroValue26
 t70:=underlying25
 a70:=isAgg25
 z70:=sizeOf25
 v70:=zeroValue25
 t72:=underlying28
 a72:=isAgg28
 z72:=sizeOf28
 v72:=zeroValue28
 t75:=underlying32
 a75:=isAgg32
 z75:=sizeOf32
 v75:=zeroValue32
 t76:=underlying33
 a76:=isAgg33
 z76:=sizeOf33
 v76:=zeroValue33
 t127:=underlying43
 a127:=isAgg43
 z127:=sizeOf43
 v127:=zeroValue43
 t164:=underlying55
 a164:=isAgg55
 z164:=sizeOf55
 v164:=zeroValue55
theorem JC:Builder.Extra prog Ig where
 sizeBuilder:=Ob
 liesBuilder:=Ob
 t5:=underlying5
 a5:=isAgg5
 z5:=sizeOf5
 v5:=zeroValue5
 infoByte:=Ob
 cellsByte:=Ob
 sizeByte:=Ob
 neB5:=Oc
def abN:Ren:=⟨λx=>match x with|171=>99|243=>179|246=>232|283=>273|284=>274|285=>275|286=>276|129=>296|317=>295|318=>297|319=>298|320=>299|337=>330|338=>331|n=>n,λx=>match x with|3=>3|9=>9|2=>2|4=>4|171=>245|0=>0|53=>188|37=>26|5=>5|173=>248|212=>270|51=>160|20=>20|213=>271|46=>126|232=>305|233=>306|n=>n,λx=>match x with|17=>6|18=>9|19=>10|n=>n⟩
theorem ale:Lays.n171 prog abN where
 mixed:=Ob
 f129:=jF func296
 f171:=jF func99
 f243:=jF func179
 f246:=jF func232
 f283:=jF func273
 f284:=jF func274
 f285:=jF func275
 f286:=jF func276
 f317:=jF func295
 f318:=jF func297
 f319:=jF func298
 f320:=jF func299
 f337:=jF func330
 f338:=jF func331
 t0:=underlying0
 a0:=isAgg0
 z0:=sizeOf0
 v0:=zeroValue0
 t2:=underlying2
 a2:=isAgg2
 z2:=sizeOf2
 v2:=zeroValue2
 t3:=underlying3
 a3:=isAgg3
 z3:=sizeOf3
 v3:=zeroValue3
 t4:=underlying4
 a4:=isAgg4
 z4:=sizeOf4
 v4:=zeroValue4
 t5:=underlying5
 a5:=isAgg5
 z5:=sizeOf5
 v5:=zeroValue5
 t9:=underlying9
 a9:=isAgg9
 z9:=sizeOf9
 v9:=zeroValue9
 t20:=underlying20
 a20:=isAgg20
 z20:=sizeOf20
 v20:=zeroValue20
 t37:=underlying26
 a37:=isAgg26
 z37:=sizeOf26
 v37:=zeroValue26
 t46:=underlying126
 a46:=isAgg126
 z46:=sizeOf126
 v46:=zeroValue126
 t51:=underlying160
 a51:=isAgg160
 z51:=sizeOf160
 v51:=zeroValue160
 t53:=underlying188
 a53:=isAgg188
 z53:=sizeOf188
 v53:=zeroValue188
 t171:=underlying245
 a171:=isAgg245
 z171:=sizeOf245
 v171:=zeroValue245
 t173:=underlying248
 a173:=isAgg248
 z173:=sizeOf248
 v173:=zeroValue248
 t212:=underlying270
 a212:=isAgg270
 z212:=sizeOf270
 v212:=zeroValue270
 t213:=underlying271
 a213:=isAgg271
 z213:=sizeOf271
 t232:=underlying305
 a232:=isAgg305
 z232:=sizeOf305
 v232:=zeroValue305
 t233:=underlying306
 a233:=isAgg306
 z233:=sizeOf306
 v233:=zeroValue306
 g17:=Ob
 g18:=Ob
 g19:=Ob
theorem Xe(a o c:Nat)(xs:List ByteArray)(b:ByteArray)(w:World)(g:∀(j:Nat) x,xs[j]? =some x->w.cell? ⟨a,o+j,none⟩=some (.string x))(d:a<w.heap.size)(i:xs.length<=1000)(f:xs.length<=c)(k:(Lib.join (xs.map (·.data.toList)) b.data.toList).length<=1000000):
 Calls prog 101 #[.slice (some ⟨a,o,none⟩) xs.length c,.string b] w λe h=>e= .returned (.string ⟨(Lib.join (xs.map (·.data.toList)) b.data.toList).toArray⟩)/\gm w h:=
 Any.strings_Join If JC a o c xs b w g d Oa f Oa
theorem Xd(i:Nat)(hi:i<100)(w:World):Calls prog 99 #[.int .i64 i] w λe a=>e= .returned (.string ⟨(Lib.decDigits i).toArray⟩)/\a=w:=Any.strconv_Itoa_small ale i hi w
end
def pv(l:gA):np:=l.map λx:Nat=>Value.int .i64 (x:Int)
theorem jS(l:gA):(pv l).length=l.length:=by simp[pv]
theorem m5{l:gA}{i:Nat}(h:i<l.length):(pv l)[i]? =some (.int .i64 ((l.getD i 0:Nat):Int)):=by
 simp[pv,gc,h]
theorem r9(l:gA)(i x:Nat):(pv l).set i (.int .i64 (x:Int))=pv (l.set i x):=by simp[pv,pG]
theorem vl(l:gA):(pv l).toArray.all (·.oneCell')=true:=all_oneCell_toArray λv a=>by
 simp only[pv,gK]at a;obtain⟨x,_,rfl⟩:=a;rfl
def dg(P n j:Nat):Nat:=n/P^j%P
def WN(P n k:Nat):gA:=(List.range 7).map λj=>if j<k then dg P n j else 0
def jo(P n m:Nat):gA:=(List.range m).map (dg P n)
theorem TG(P n k:Nat):(WN P n k).length=7:=by simp[WN]
theorem aaK(P n:Nat):WN P n 0=List.replicate 7 0:=by simp[WN];rfl
theorem aaJ(P n:Nat){k:Nat}(a:k<7):(WN P n k).set k (dg P n k)=WN P n (k+1):=by
 apply ib;intro j;rw[jx];simp only[TG];by_cases e:k=j
 ·subst e;rw[gl rfl,gl a];simp[WN,a]
 ·rw[gh e];by_cases b:j<7
  ·simp only[WN,gY,i7 b,jZ]
   grind
  grind [WN]
theorem afp{P n k:Nat}(h:n/P^k=0)(a:1<=P):WN P n k=jo P n 7:=by
 unfold WN jo;apply jn;intro j _;by_cases b:j<k
 ·grind
 ·rw[gh b];unfold dg;have d:0<P^k:=Nat.pow_pos a;have c:n/P^j=0:=by
   rw[akH]at h⊢;have:=gN a (show k<=j by omega);exact Oa
  rw[c,Nat.zero_mod]
theorem tU(P n:Nat)(w:World)(Z:2<=P)(aj:P<=64)(hn:n<128):
 Calls prog 182 #[.int .i64 P,.int .i64 n] w λA w'=>A= .returned (.agg (pv (jo P n 7)).toArray)/\gm w w':=by
 have z:=gb (TG P n);have V:=gb (λk l=>aaJ P n (k:=k) l);have Q:=gb (λk h=>afp (P:=P) (n:=n) (k:=k) h Oa);have X:=gb (aaK P n);have N:=gd (∀k,dg P n k=n/P^k%P) λk=>rfl;have O:=gd (∀k,n/P^(k+1)=n/P^k/P) (λk=>by rw[mS,wX]);have M:=gd (n/P^0=n) On
 have U:=gd (∀k,7<=k->n/P^k=0) (λk l=>by
  rw[akH];right
  exact gS hn (gt (gt Oc (oG Z 7)) (gN Oa l)))
 have S:=gd (∀k,n/P^k<=n) λk=>jg _ _;have C:hU ((w.alloc (.cells (pv (List.replicate 7 0)).toArray 168)).alloc (.cells (pv (List.replicate 7 0)).toArray 168)) w.heap.size 168 (pv (List.replicate 7 0)):=(hU.new w _ _).alloc _;have o:hU ((w.alloc (.cells (pv (List.replicate 7 0)).toArray 168)).alloc (.cells (pv (List.replicate 7 0)).toArray 168)) (w.alloc (.cells (pv (List.replicate 7 0)).toArray 168)).heap.size 168 (pv (List.replicate 7 0)):=hU.new _ _ _;rw[iV]at o;have i:=ju C o (((f0 w.heap.size w).alloc (fZ _) (.cells (pv (List.replicate 7 0)).toArray 168)).alloc On (.cells (pv (List.replicate 7 0)).toArray 168));clear C o;obtain⟨T,D⟩:∃T,T=WN P n:=⟨_,rfl⟩;obtain⟨q,H⟩:∃q:Nat->Nat,q=λk=>n/P^k:=⟨_,rfl⟩;have c:=gd (∀k,WN P n k=T k) (λk=>by rw[D]);have a:=gd (∀k,n/P^k=q k) (λk=>by rw[H]);clear D H;generalize jo P n 7=R at*;go_enter func182,ntmps182;go_wp2;go_loopw [1,6] (λm y wr=>∃k:Nat,k<=7/\y= .int .i64 k/\m= .int .i64 (q k:Nat)/\hU wr w.heap.size 168 (pv (List.replicate 7 0))/\hU wr (w.heap.size+1) 168 (pv (T k))/\gm w wr) (λ_ y _=>7-(intOf y).toNat)
 case atStart=>exact⟨0,by omega,rfl,by rw[<-a.out,M.out],i.out.1,by rw[<-c.out,X.out];exact i.out.2.1,i.out.2.2⟩
 case round=>
  clear i;obtain⟨k,l,rfl,rfl,f,b,e⟩:=hrel;by_cases G:0<q k
  ·have ab:k<7:=by
    rcases jh k 7 with h|h
    ·exact h
    ·have:=U.out k h;rw[a.out]at this;exact Oa
   have ae:=S.out k;rw[a.out]at ae;have r:=N.out k;rw[a.out]at r;have s:=O.out k;rw[a.out,a.out]at s;have t:=V.out k ab;rw[c.out,c.out,r]at t;have af:(T k).length=7:=(by rw[<-c.out];exact z.out k);have p:=b.cell k;rw[m5 Oa]at p;have E:=b.frozen k;have g:=hU.stored (w:=wr.drew) b k (.int .i64 ((q k%P:Nat):Int));rw[r9,t]at g;have m1:(q k:Int).tmod (P:Int)=((q k%P:Nat):Int):=(gO _ _).symm;have m2:(q k:Int).tdiv (P:Int)=((q (k+1):Nat):Int):=(by grind);have ac:q (k+1)<=q k:=(by rw[s];exact jg _ _);have al:(0:Int)<(q k:Int):=Oa;have d:=ju (hU.kept (w:=wr.drew) f g.2 On) g.1 ((e.drew).grown g.2 e.size (λk h=>by grind));have ak:wr.drew.cell? ⟨w.heap.size+1,k,none⟩=_:=p;have am:wr.drew.frozen? ⟨w.heap.size+1,k,none⟩=false:=E;clear f b e t g r s af G p E;obtain⟨L,v⟩:∃L,L=q (k+1):=⟨_,rfl⟩;rw[<-v]at m2 ac;have W:=gb v;clear v;generalize ag:q k=ai at*;clear ag;generalize ai%P=ao at*;generalize (T k).getD k 0=an at*;go_wp2;go_region;go_wp2;go_roundw
   case rel=>exact⟨k+1,by omega,by go_num,by rw[W.out],d.out.1,d.out.2.1,d.out.2.2⟩
   case measure=>exact gQ
  ·have x:q k=0:=(by omega);have j:=Q.out k (by rw[a.out];exact x);rw[c.out]at j;rw[j]at b;have aa:R.length=7:=(by rw[<-j,<-c.out];exact z.out k);rw[x];clear G x j;have r2:=b.range;have K:=f.there;rw[jS,x6]at K;have B:hU wr w.heap.size 168 ([]++pv (List.replicate 7 0)):=f;have I:=hU.setCells (pv R) [] (pv (List.replicate 7 0)) wr B (by grind [jS]);have F:=iu (b:=w.heap.size) (pv R) 0 wr;have d:=gR I (e.grown F e.size (λY A=>by grind));have J:(prog.info? 168).map (·.size)=some (pv R).length:=(by rw[jS,aa];kernel_rfl);have t2:wr.there w.heap.size 0 (pv R).toArray.size:=by
    grind [jS]
   have i2:(prog.info? 168).map (·.size)=some (pv R).toArray.size:=Oa;clear f B b e I F K
   go_wp2_with (first
    |(refine ii rfl 168 _ rfl (w.heap.size+1) 0 rfl (pv R) _ r2 underlying168 rfl J ?_)
    |(refine iA rfl 168 _ _ rfl w.heap.size 0 (pv R).toArray rfl rfl t2 i2 (vl R) ?_))
   have ah:(wr.setCells w.heap.size 0 (pv R)).rangeAt w.heap.size 0 (pv R):=d.out.1.range;have ad:=gV (P:=prog) _ _ _ 168 _ _ ah underlying168 rfl J;refine⟨rfl,.agg (pv R).toArray,?_,rfl,d.out.2⟩;show((results _ _).run _ _)=_;simp only[Act.put];simp[results,f182,asAddr,ad]
theorem aaG(P n k:Nat):jo P n (k+1)=jo P n k++[dg P n k]:=by simp[jo,jc]
theorem kg(P n k:Nat):(jo P n k).length=k:=by simp[jo]
theorem tN(P n m:Nat)(w:World)(T:1<=P)(U:P<=1000000)(Y:n<=1000000000000)(X:m<=1000):
 Calls prog 141 #[.int .i64 n,.int .i64 P,.int .i64 m] w λG r=>(∃p,G= .returned p/\OI w.heap.size r p ((jo P n m).map λx:Nat=>(x:Int)))/\gm w r:=by
 have D:=gd (∀k,(jo P n (k+1)).map (λx:Nat=>(x:Int))=(jo P n k).map (λx:Nat=>(x:Int))++[((dg P n k:Nat):Int)]) (λk=>by rw[aaG];simp);have B:=gd (∀k,((jo P n k).map λx:Nat=>(x:Int)).length=k) (λk=>by rw[gv,kg]);have t:=gd ((jo P n 0).map (λx:Nat=>(x:Int))=[]) rfl;have z:=gd (∀k,dg P n k=n/P^k%P) λk=>rfl;have A:=gd (∀k,n/P^(k+1)=n/P^k/P) (λk=>by rw[mS,wX]);have y:=gd (n/P^0=n) On;have C:=gd (∀k,n/P^k<=n) λk=>jg _ _;obtain⟨q,l⟩:∃q:Nat->Nat,q=λk=>n/P^k:=⟨_,rfl⟩;have b:=gd (∀k,n/P^k=q k) (λk=>by rw[l]);obtain⟨L,g⟩:∃L:Nat->gP,L=λk=>(jo P n k).map λx:Nat=>(x:Int):=⟨_,rfl⟩;have a:=gd (∀k,((jo P n k).map λx:Nat=>(x:Int))=L k) (λk=>by rw[g]);rw[a.out];clear l g;go_enter func141,ntmps141;go_wp2;go_loopw [0,7,8] (λx R i wr=>∃k:Nat,k<=m/\i= .int .i64 k/\x= .int .i64 (q k:Nat)/\OI w.heap.size wr R (L k)/\gm w wr) (λ_ _ i _=>m-(intOf i).toNat)
 case atStart=>exact⟨0,ge _,rfl,by rw[<-b.out,y.out],by rw[<-a.out,t.out];exact Ow.nil _ _ _,f0 _ _⟩
 case round=>
  obtain⟨k,V,rfl,rfl,ho,J⟩:=hrel;by_cases W:k<m
  ·have M:=C.out k;rw[b.out]at M;have c:=z.out k;rw[b.out]at c;have d:=A.out k;rw[b.out,b.out]at d;have e:=D.out k;rw[a.out,a.out,c]at e;have E:=gb e;have Z:(q k:Int).tmod (P:Int)=((q k%P:Nat):Int):=(gO _ _).symm;have Q:(q k:Int).tdiv (P:Int)=((q (k+1):Nat):Int):=(by grind);have K:q (k+1)<=q k:=(by rw[d];exact jg _ _);have N:(L k).length<=1000000000000:=(by rw[<-a.out,B.out];omega);have o:w.heap.size<=wr.heap.size:=J.size;have v:=gb J;clear c d e J;obtain⟨s,f⟩:∃s,s=q (k+1):=⟨_,rfl⟩;rw[<-f]at Q K;have F:=gb f;clear f;generalize O:q k=x at*;clear O;generalize x%P=aa at*;go_wp2_with (at_builtin;refine g8 wr _ _ 45 rfl rfl underlying45 info3 w.heap.size u7 (L k) rfl ho rfl N o ?_;intro S c3 w4 j h H I);have HX:=gR (j.cast E.out.symm) (ho.grown v.out h o);clear j h H I ho;go_roundw
   case rel=>exact⟨k+1,by omega,by go_num,by rw[F.out],HX.out.1,HX.out.2⟩
   case measure=>exact gQ
  ·obtain rfl:k=m:=(by omega);exact PI
theorem Xc(a:Int)(w:World):
 Calls prog 311 #[.int .i64 a] w λe b=>e= .returned (.bool false)/\b=w:=by
 go_enter func311,ntmps311;go_wp2;go_ret;exact⟨rfl,rfl⟩
theorem Io(a b:Int)(w:World):
 Calls prog 326 #[.int .i64 a,.int .i64 b] w λe d=>e= .returned (.bool (decide (a<b)))/\d=w:=by
 have c:=gb Xc;go_enter func326,ntmps326;go_wp2_with fail;refine(c.out _ _).mono ?_;rintro e f ⟨rfl,rfl⟩;go_wp2;go_ret;exact⟨rfl,rfl⟩
theorem Ni(w:World)(r:Option Nat):w.grownBy w r:=⟨rfl,rfl,rfl,fZ _,λ_ _ _=>rfl⟩
def rg(a b:Int):Bool:=decide (a<b)
def Yz(Y:gP)(j:Nat):gP:=(Y.set (j+1) (Y.getD j 0)).set j (Y.getD (j+1) 0)
theorem aby{Y:gP}{j:Nat}(h:Y.getD (j+1) 0<Y.getD j 0):xD rg 0 (j+1) Y=xD rg 0 j (Yz Y j):=by rw[xD,gl (show rg _ _=true from gy h)];rfl
theorem afW{Y:gP}{j:Nat}(h:¬Y.getD (j+1) 0<Y.getD j 0):xD rg 0 (j+1) Y=Y:=by rw[xD,gh (by grind [rg])]
theorem adW(Y:gP)(j:Nat):(Yz Y j).length=Y.length:=by simp[Yz]
theorem W8(B g N c:Nat)(l:gP)(w:World)(a:OI B w (.slice (some ⟨g,0,none⟩) N c) l)(q:l.length=N)(O:1<=N)(Z:N<=12):
 Calls prog 320 #[.slice (some ⟨g,0,none⟩) N c,.int .i64 0,.int .i64 N] w λM A=>M= .returned (.tuple #[])/\OI B A (.slice (some ⟨g,0,none⟩) N c) (mI rg 0 N l)/\w.grownBy A (some g):=by
 have E:=gb (abx rg (0:Int) l);have F:=gd (∀k,(mI rg 0 k l).length=N) (λk=>by rw[At,q]);have H:=gd (∀k,mI rg 0 (k+1) l=xD rg 0 k (mI rg 0 k l)) (λk=>rfl);have X:=gb q;have J:=gb a;generalize mI rg 0=h at*;clear a q;go_enter func320,ntmps320;go_wp2;go_loopw [6,7] (λx _ wr=>∃i:Nat,x= .int .i64 i/\1<=i/\i<=N/\OI B wr (.slice (some ⟨g,0,none⟩) N c) (h i l)/\w.grownBy wr (some g)) (λx _ _=>N-(intOf x).toNat)
 case atStart=>exact⟨1,rfl,fZ _,O,by rw[E.out];exact J.out,Ni _ _⟩
 case round=>
  obtain⟨i,rfl,ac,ad,a,d⟩:=hrel;by_cases aj:i<N
  ·have S:(i:Int)<N:=(by omega);have b:=gR a d;have I:=gb (H.out i);have G:=gb (F.out i);clear a d;go_wp2_with fail;go_loopw [7] (λx C=>∃(j:Nat)(Y:gP),x= .int .i64 j/\j<=i/\Hid (Y.length=N)/\Hid (xD rg 0 j Y=h (i+1) l)/\OI B C (.slice (some ⟨g,0,none⟩) N c) Y/\w.grownBy C (some g)) (λx _=>(intOf x).toNat)
   case atStart=>exact⟨i,h i l,rfl,fZ _,G,gb I.out.symm,b.out.1,b.out.2⟩
   case round=>
    clear b;obtain⟨j,Y,rfl,ag,eF,p,a,d⟩:=hrel;cases j with
    |zero=>
     have D:=gd (Y=h (i+1) l) p.out;have b:=gR a (qA d);clear a d;go_wp2;go_quiet (fail);go_wp2;go_roundw
     case rel=>exact⟨i+1,by go_num,by omega,by omega,by rw[<-D.out];exact b.out.1.drewN _,b.out.2 _⟩
     case measure=>exact gQ
    |succ j=>
     have ai:((j+1:Nat):Int)-1=j:=Oa;have af:=a.cell (j+1) Df;have ae:=a.cell j Df;by_cases e:Y.getD (j+1) 0<Y.getD j 0
     ·have o:=gb ((aby e).symm.trans p.out);have v:decide (Y.getD (j+1) 0<Y.getD j 0)=true:=gy e
      have b:=gb (λn=>show OI B (((wr.drewN n).setCell ⟨g,j+1,none⟩ (.int .i64 (Y.getD j 0))).setCell ⟨g,j,none⟩ (.int .i64 (Y.getD (j+1) 0))) (.slice (some ⟨g,0,none⟩) N c) (Yz Y j)/\w.grownBy (((wr.drewN n).setCell ⟨g,j+1,none⟩ (.int .i64 (Y.getD j 0))).setCell ⟨g,j,none⟩ (.int .i64 (Y.getD (j+1) 0))) (some g)from by
       have y:=(a.drewN n).stored (j+1) (Y.getD j 0);have z:=y.1.stored j (Y.getD (j+1) 0)
       exact⟨z.1,pp (pp (qA d n) y.2) z.2⟩)
      have ab:=a.frozen (j+1);have aa:=a.frozen j;have f:=gb (λs=>Io (Y.getD (j+1) 0) (Y.getD j 0) s);rw[v]at f;have K:=gd ((Yz Y j).length=N) (by rw[adW,eF.out]);clear a d e v;generalize Yz Y j=L at*;generalize Y.getD (j+1) 0=W at*;generalize Y.getD j 0=V at*;have Q:(j:Int)<N:=Oa;have R:((j+1:Nat):Int)<N:=Oa;have ah:j<j+1:=Oa;generalize P:j+1=r at*;have T:decide (0<r)=true:=Oo;have U:=iE (j:Int) Oa;go_wp2;go_quiet ((go_at_call 326;exact akC (f.out _)));go_wp2;go_region;go_wp2;go_roundw
      case rel=>exact⟨j,L,by go_num,by omega,K,o,(b.out _).1,(b.out _).2⟩
      case measure=>exact gQ
     ·have o:=gd (Y=h (i+1) l) ((afW e).symm.trans p.out);have b:=gR a (qA d);have t:decide (Y.getD (j+1) 0<Y.getD j 0)=false:=gp e;have f:=gb (λs=>Io (Y.getD (j+1) 0) (Y.getD j 0) s);rw[t]at f;clear a d e t;generalize Y.getD (j+1) 0=W at*;generalize Y.getD j 0=V at*;have Q:(j:Int)<N:=Oa;have R:((j+1:Nat):Int)<N:=Oa;generalize P:j+1=r at*;have T:decide (0<r)=true:=Oo;have U:=iE (j:Int) Oa;go_wp2;go_quiet ((go_at_call 326;exact akC (f.out _)));go_wp2;go_roundw
      case rel=>exact⟨i+1,by go_num,by omega,by omega,by rw[<-o.out];exact b.out.1.drewN _,b.out.2 _⟩
      case measure=>exact gQ
  ·obtain rfl:i=N:=(by omega);have S:¬(i:Int)<i:=Oa;have b:=gR a d;clear a d;go_wp2;go_end0;exact⟨rfl,b.out.1,b.out.2⟩
section
def gD(l:gP)(i:Nat):Int:=l.getD i 0
def yu(p t:Int)(nl ol:gP)(g i:Nat):gP:=(List.range nl.length).map λj=>if g<=j/\j<i then(gD nl j+(p-t)*gD ol (j-g))%p else gD nl j
theorem rV(p t:Int)(nl ol:gP)(g i:Nat):(yu p t nl ol g i).length=nl.length:=by simp[yu]
theorem uf{p t:Int}{nl ol:gP}{g i j:Nat}(h:j<nl.length):gD (yu p t nl ol g i) j=if g<=j/\j<i then(gD nl j+(p-t)*gD ol (j-g))%p else gD nl j:=by
 grind [gD,yu]
theorem Vo{p t:Int}{nl ol:gP}{g i j:Nat}(h:nl.length<=j):gD (yu p t nl ol g i) j=0:=by
 grind [gD,rV]
theorem ajb{nl:gP}{j:Nat}(h:nl.length<=j):gD nl j=0:=by
 grind [gD]
theorem acO(p t:Int)(nl ol:gP)(g:Nat):yu p t nl ol g g=nl:=by
 refine jd (rV _ _ _ _ _ _) λj b a=> ?_;have:=uf (p:=p) (t:=t) (ol:=ol) (g:=g) (i:=g) a;rw[gh Oa]at this
 grind [gD]
theorem acN{p t:Int}{nl ol:gP}{g i:Nat}(f:g<=i)(hi:i<nl.length):(yu p t nl ol g i).set i ((gD (yu p t nl ol g i) i+(p-t)*gD ol (i-g))%p)=yu p t nl ol g (i+1):=by
 refine jd (by grind [rV]) λj d a=> ?_;rw[rV]at a;rw[qs];have e:=uf (p:=p) (t:=t) (ol:=ol) (g:=g) (i:=i) a;have c:=uf (p:=p) (t:=t) (ol:=ol) (g:=g) (i:=i+1) a;have b:=uf (p:=p) (t:=t) (ol:=ol) (g:=g) (i:=i) hi;rw[gh Oa]at b;have h:(yu p t nl ol g i)[j]'(by grind)=gD (yu p t nl ol g i) j:=by
  grind [gD]
 have k:(yu p t nl ol g (i+1))[j]' Oa=gD (yu p t nl ol g (i+1)) j:=by
  grind [gD]
 grind
theorem NS{p t:Int}{nl ol:gP}{g i:Nat}(hp:0<p)(h:∀j,0<=gD nl j/\gD nl j<p)(j:Nat):0<=gD (yu p t nl ol g i) j/\gD (yu p t nl ol g i) j<p:=by
 by_cases a:j<nl.length
 ·rw[uf a];split
  ·exact Pk
  grind
 grind [Vo]
theorem Vp(p t:Int)(nl ol:gP)(g:Nat):gD (yu p t nl ol g nl.length)=Vn p t (gD nl) (gD ol) g nl.length:=by
 funext j;unfold Vn;by_cases a:j<nl.length
 ·rw[uf a]
 ·rw[Vo Oa,gh Oa,ajb Oa]
theorem ahR{f:Nat->Int}:∀n,(∀i,i<n->0<=f i/\f i<=36)->0<=sm f n/\sm f n<=36*(n:Int)
 |0,_=>by simp[sm]
 |n+1,h=>by
  have b:=ahR n (λi a=>h i Oa)
  grind [sm]
theorem ahH{l:gP}{p:Int}(a:0<p)(h:∀x∈l,0<=x/\x<p)(j:Nat):0<=gD l j/\gD l j<p:=rM a h j
def yJ(n:Nat):gP:=(List.replicate n 0).set 0 1
theorem II(n:Nat):(yJ n).length=n:=by simp[yJ]
theorem wC{n:Nat}(a:0<n)(i:Nat):gD (yJ n) i=if i=0 then 1 else 0:=by
 unfold gD yJ
 grind
def NB(p:Int)(C:Nat->Int)(L N:Nat):gP:=if L=0\/N<2*L then[]else Lv p C L
structure LK(p:Int)(S:Nat)(s:Nat->Int)(n:Nat)(nl ol:gP)(L g:Nat)(b:Nat):Prop where
 bm:BM p s n (gD nl) (gD ol) L g b
 l1:nl.length=S
 l2:ol.length=S
 i1:∀j,0<=gD nl j/\gD nl j<p
 i2:∀j,0<=gD ol j/\gD ol j<p
 b1:1<=b
 b2:(b:Int)<p
 g1:1<=g
 g2:g<=n+1
theorem LK.start{p:Int}{S:Nat}(s:Nat->Int)(c:1<p)(a:0<S):LK p S s 0 (yJ S) (yJ S) 0 1 1:=by
 have b:∀j,0<=gD (yJ S) j/\gD (yJ S) j<p:=λj=>by rw[wC a];omega
 exact⟨BM.start p s _ _ (by rw[wC a,gl rfl]) (λi h=>by rw[wC a,gh Oa]) (λi h=>by rw[wC a,gh Oa]) _,II S,II S,b,b,fZ _,by omega,fZ _,by omega⟩
section
variable {p:Int} {S:Nat} {s:Nat->Int} {n:Nat} {nl ol:gP} {L g b:Nat}
theorem LK.same(H:LK p S s n nl ol L g b)(a:p∣lq s (gD nl) L n):LK p S s (n+1) nl ol L (g+1) b:=
 ⟨H.bm.same a,H.l1,H.l2,H.i1,H.i2,H.b1,H.b2,by omega,by have:=H.g2;omega⟩
theorem agd{d iv:Nat}{D:Int}(h:p∣D-(d:Int))(g:p∣(b:Int)*iv-1){t:Int}(i:p∣(d:Int)*iv-t):p∣t*(b:Int)-D:=by
 have a:=iY (b:=(d:Int)) g;rw[Int.mul_sub,Int.mul_one]at a;have e:=k5 (c:=(b:Int)) i;rw[J3]at e;have f:(d:Int)*((b:Int)*iv)=d*iv*b:=by grind
 rw[f]at a;have j:=lA (lA a e) h
 grind
theorem LK.keep(H:LK p S s n nl ol L g b)(e:0<p)(d:n+1<S){t:Int}(f:p∣t*(b:Int)-lq s (gD nl) L n)(c:¬2*L<=n):LK p S s (n+1) (yu p t nl ol g S) ol L (g+1) b:=by
 have a:=H.bm.keep (size:=nl.length) (by rw[H.l1];exact d) f c;rw[<-Vp,H.l1]at a;exact⟨a,by rw[rV,H.l1],H.l2,λj=>NS e H.i1 j,H.i2,H.b1,H.b2,by omega,by have:=H.g2;omega⟩
theorem LK.grow(H:LK p S s n nl ol L g b)(o:0<p)(i:n+1<S){t:Int}{d:Nat}(j:1<=d)(k:(d:Int)<p)(e:p∣lq s (gD nl) L n-(d:Int))(q:p∣t*(b:Int)-lq s (gD nl) L n)(f:2*L<=n):LK p S s (n+1) (yu p t nl ol g S) nl (n+1-L) 1 d:=by
 have l:¬p∣lq s (gD nl) L n:=λh=>by
  have a:=lA h e;rw[show lq s (gD nl) L n-(lq s (gD nl) L n-(d:Int))=(d:Int)by omega]at a;have:=aeh Oa a;exact Oa
 have c:=H.bm.grow (size:=nl.length) (by rw[H.l1];exact i) q l e f;rw[<-Vp,H.l1]at c;exact⟨c,by rw[rV,H.l1],H.l1,λr=>NS o H.i1 r,H.i1,j,k,fZ _,by omega⟩
end
end
section
def yC(s:Nat->Int)(l i j:Nat):Int:=if j<l then s (l+i-1-j)else s (l+i)
def xC(x:Nat->Int):Nat->Int
 |0=>1
 |j+1=> -(x j)
theorem Hi(s C x:Nat->Int)(l i:Nat)(a:C 0=1)(h:∀j,j<l->C (j+1)= -(x j)):lq s C l (l+i)= -(o7 (yC s l i) x l):=by
 unfold lq o7;rw[show l+1=1+l by omega,Bf,a,yP,ahq]
 rw[qj (g:=λj=> -(yC s l i j*x j)) l (λj b=>by
  unfold yC
  grind),RD]
 have:yC s l i l=s (l+i):=by unfold yC;omega
 exact Oa
theorem zC{p:Int}{s x:Nat->Int}{l N:Nat}(h:Li p (N-l) l (yC s l) x):JD p s (xC x) l N:=by
 intro m a b;have:=h (m-l) Oa;have e:=Hi s (xC x) x l (m-l) rfl (λj _=>rfl);exact OK
theorem afQ{p:Int}{s C:Nat->Int}{l N:Nat}(a:C 0=1)(h:JD p s C l N):Li p (N-l) l (yC s l) (λj=> -(C (j+1))):=by
 intro i b;have e:=Hi s C (λj=> -(C (j+1))) l i a (λj _=>by omega);have:=h (l+i) Oa Oa;exact OK
theorem CU(q:Nat->Prop):∀n,q n->∃k,k<=n/\q k/\∀j,j<k->¬q j:=by
 intro n
 induction n using Nat.strongRecOn with
 |ind n a=>
  grind
theorem EI{P:Nat}{s C B C1 C2:Nat->Int}{N L g:Nat}{b:Int}(A:j8 (P:Int)=true)(H:BM P s N C B L g b)(h2:2*L<=N)(D:C1 0=1)(a2:C2 0=1)(x:JD P s C1 L N)(M:JD P s C2 L N):∀j,j<=L->(P:Int)∣C1 j-C2 j:=by
 intro j0 ae;refine gx λZ=> ?_;obtain⟨k,hk,z,ag⟩:=CU (λj=>¬(P:Int)∣C1 j-C2 j) j0 Z;have af:k≠0:=λh=>z OK;have ah:=kC A
 obtain⟨v,r⟩:∃v:Int,(P:Int)∣(C1 k-C2 k)*v-1:=by
  have ab:=m7 (C1 k-C2 k) (b:=(P:Int)) Oa;have ad:=mO (C1 k-C2 k) (b:=(P:Int)) Oa;have ac:(C1 k-C2 k)%(P:Int)≠0:=λh=>z (aeG h);obtain⟨v,_,_,r,_⟩:=Nr (p:=P) (a:=((C1 k-C2 k)%(P:Int)).toNat) A Oa Oa;refine⟨(v:Int),?_⟩;have o:(P:Int)∣((C1 k-C2 k)%(P:Int))*v-1:=by
   have e:=jN (((C1 k-C2 k)%(P:Int)).toNat*v) P;rw[r]at e;refine⟨((((C1 k-C2 k)%(P:Int)).toNat*v/P:Nat):Int),?_⟩
   grind
  have e:=k5 (c:=(v:Int)) (rH (P:Int) (C1 k-C2 k));rw[J3]at e;exact te (lA o e) Oa
 let E:Nat->Int:=λi=>if i=0 then 1 else v*(C1 (k+i)-C2 (k+i))
 have T:∀i,(P:Int)∣E i-v*(C1 (k+i)-C2 (k+i)):=λi=>by
  show(P:Int)∣(if i=0 then 1 else v*(C1 (k+i)-C2 (k+i)))-_;split
  ·rename_i h;subst h;rw[kp,Ga v];exact te ((yO).2 r) Oa
  grind
 have V:JD P s E (L-k) (N-k):=by
  intro m f q;have F:=x (m+k) Oa Oa;have G:=M (m+k) Oa Oa;have n:=lA F G;unfold lq at n;have o:sm (λi=>C1 i*s (m+k-i)) (L+1)-sm (λi=>C2 i*s (m+k-i)) (L+1)=sm (λi=>(C1 i-C2 i)*s (m+k-i)) (L+1):=by
   have:=xY (λi=>C1 i*s (m+k-i)) (λi=> -(C2 i*s (m+k-i))) (L+1);rw[RD]at this
   grind
  rw[o]at n
  have e:(P:Int)∣sm (λi=>(C1 i-C2 i)*s (m+k-i)) (L+1)-sm (λi=>if i<k then 0 else(C1 i-C2 i)*s (m+k-i)) (L+1):=qk _ λi y=>by
   show(P:Int)∣(C1 i-C2 i)*s (m+k-i)-if i<k then 0 else(C1 i-C2 i)*s (m+k-i);split
   ·rename_i h;rw[ahn];grind [Int.dvd_mul_of_dvd_left]
   grind
  have I:sm (λi=>if i<k then 0 else(C1 i-C2 i)*s (m+k-i)) (L+1)=sm (λi=>(C1 (k+i)-C2 (k+i))*s (m-i)) (L-k+1):=by
   rw[show L+1=k+(L-k+1)by omega,Bg (λi y=>gl y)];exact qj _ λi _=>by grind
  rw[I]at e;have t:=lA n e;rw[Int.sub_sub_self]at t;have J:=iY (b:=v) t;have w:(P:Int)∣sm (λi=>E i*s (m-i)) (L-k+1)-sm (λi=>v*((C1 (k+i)-C2 (k+i))*s (m-i))) (L-k+1):=qk _ λi _=>by
   have:=k5 (c:=s (m-i)) (T i)
   grind
  rw[vv]at w;have K:=nS w J
  rwa [Int.sub_add_cancel]at K
 have Y:¬JD P s E (L-k) N:=λh=>by
  have:=H.mini E (L-k) rfl h;exact Oa
 have U:∃d,L-k<=d/\d<N/\¬(P:Int)∣lq s E (L-k) d:=gx λhx=>Y λm f q=>gx λl=>hx ⟨m,f,q,l⟩;obtain⟨n1,X⟩:=U;obtain⟨d,_,⟨f,q,l⟩,O⟩:=CU (λd=>L-k<=d/\d<N/\¬(P:Int)∣lq s E (L-k) d) n1 X;have W:JD P s E (L-k) d:=λm Q R=>gx λS=>O m R ⟨Q,by omega,S⟩;have aa:N-k<=d:=gx λh=>l (V d f Oa);have:=acs W l (x.mono (show d+1<=N by omega)) D;exact Oa
section
variable {P:Nat} {s C B:Nat->Int} {N L g:Nat} {b:Int} {t:Int} {u:gP}
theorem Ii(H:BM P s N C B L g b){l:Nat}(c:l<L)(h:S4 P (N-l) l (yC s l) t u):t=0:=by
 have d:∀x,¬Li P (N-l) l (yC s l) x:=λx a=>by
  have:=H.mini (xC x) l rfl (zC a);exact Oa
 rcases h with h|⟨_,_,x,_,a,_⟩|⟨_,_,_,_,a⟩
 ·exact h.1
 ·grind
 grind
theorem abT(c:j8 (P:Int)=true)(H:BM P s N C B L g b)(h:S4 P (N-L) L (yC s L) t u):t≠0/\(if L=0\/t=2 then[]else u)=NB P C L N:=by
 have F:=afQ H.c0 H.gen;have G:=kC c;have z:=H.ln;rcases h with⟨_,_,h⟩|⟨rfl,rfl,x,y,d,r,j,E,o⟩|⟨rfl,A,q,p,d⟩
 ·grind
 ·refine⟨by omega,?_⟩;rw[gl (.inr rfl)];unfold NB;split
  ·rfl
  ·rename_i D;have a:=EI c H Oa (C1:=xC x) (C2:=xC y) rfl rfl (zC d) (zC r) (j+1) Oa;exact absurd (te ((yO).2 a) (show-(-(x j)- -(y j))=x j-y j by omega)) o
 ·refine⟨by omega,?_⟩;unfold NB;by_cases v:L=0
  ·grind
  ·rw[gh Oa,gh Oa];refine jd (by rw[q,y9]) λj a f=> ?_;rw[y9]at f;have e:u[j]=u.getD j 0:=(by grind);have i:(Lv P C L)[j]' Oa=(Lv P C L).getD j 0:=(by grind);rw[i,e,ae4 f];have k:=EI c H Oa (C1:=xC (λj=>u.getD j 0)) (C2:=C) rfl H.c0 (zC d) H.gen (j+1) Oa;have l:=p _ (iH a);rw[e]at l;have n:(P:Int)∣(P-C (j+1))-u.getD j 0:=te (nS (Int.dvd_refl (P:Int)) k) (show(P:Int)+(-(u.getD j 0)-C (j+1))=_ by omega);have w:((P:Int)-C (j+1))%P=u.getD j 0%P:=ou.2 (vy n)
   grind
end
end
end Go.Proofs.YtnnaadmegeeinaaGreatDoor
