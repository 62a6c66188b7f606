/-
  Part 3 of a proof: what it proves stands in the last text.
-/
import Derived.Test.YtnnaadmegeeinaaGreatDoorYb
set_option linter.all false
set_option maxHeartbeats 8000000
set_option maxRecDepth 100000
namespace Go.Proofs.YtnnaadmegeeinaaGreatDoor
open Tryz Go.Proofs.Tryz
open Go.RowKit
def gz:=@List.length_append
def gG:=@Option.some.inj
def ib:=@List.ext_getElem?
def iq:=@List.getD_cons_zero
def iH:=@List.getElem_mem
def iO:=@List.getElem?_eq_none
def iQ:=@Option.getD_some
def iZ:=@Int.toNat_natCast
def i8:=@List.length_take
def jf:=@List.map_append
def jx:=@List.getElem?_set
def jA:=@congrArg
def jY:=@List.length_set
def kG:=@List.drop_eq_getElem_cons
def kM:=@List.pairwise_cons
def kX:=@Nat.pow_lt_pow_right
def kZ:=@Bool.eq_false_iff
def k7:=@List.length_range
def lm:=@List.findSome?_cons
def lI:=@List.findSome?_eq_some_iff
def l0:=@List.mem_iff_getElem
def mb:=@Nat.mul_succ
def ny:=@Nat.lt_trichotomy
def ox:=@Nat.mod_eq_of_lt
def qs:=@List.getElem_set
def qt:=@List.range'_succ
def qu:=@Nat.div_eq_of_lt
def sK:=@List.findSome?_eq_none_iff
def sL:=@List.getElem_range
def sN:=@List.mem_cons_self
def ux:=@List.count_append
def vz:=@List.getElem_map
def wW:=@List.range_succ_eq_map
def x5:=@List.countP_le_length
def yT:=@List.pairwise_append
def Bx:=@List.mergeSort_perm
def Gd:=@List.mem_range'_1
def JG:=@List.exists_cons_of_length_pos
def R9:=@List.dropLast_concat_getLast
def Y2:=@List.take_zero
def Zp:=@List.mem_drop_iff_getElem
def Zq:=@List.pairwise_iff_getElem
def aej:=@List.Perm.eq_of_pairwise
def aic:=@List.length_mergeSort
def aid:=@List.take_append_drop
def akF:=@List.flatMap_append
theorem OG{p:Prop}(h:p:=by
 go_wp2;go_ret
 exact⟨by rw[HR.out];rfl,rfl⟩):p:=h
theorem OO{p:Prop}(h:p:=by
 go_wp2
 exact HZ.out):p:=h
theorem Mg{p:Prop}(h:p:=by
 have HE:=gb (bt.out he);clear he bt;go_wp2;go_round
 case rel=>exact⟨k+1,by omega,by go_num,HE⟩
 case measure=>exact gQ):p:=h
theorem MJ{p:Prop}(h:p:=by rw[hN.out];omega):p:=h
theorem Sc{p:Prop}(h:p:=by
 go_wp2;go_ret
 exact⟨by rw[HE.out];rfl,rfl⟩):p:=h
theorem Sd{p:Prop}(h:p:=by
 obtain⟨x,hx,h4⟩:=iG.1 h3
 exact Qk):p:=h
theorem Ss{p:Prop}(h:p:=by
 have:=List.pairwise_mergeSort (le:=λx y:Int=>decide (x<=y)) (λO b aa h1 h2=>by
  grind) (λO b=>by
  grind) l
 exact this.imp λh=>jy h):p:=h
theorem UB{p:Prop}(h:p:=by
 rw[jc,o8,jf]
 grind):p:=h
theorem Di{p:Prop}(h:p:=by
 unfold jj at hx;obtain⟨y,hy,rfl⟩:=gK.1 hx
 grind [ja]):p:=h
theorem Kh{p:Prop}(h:p:=by rw[FB];omega):p:=h
theorem Pi{p:Prop}(h:p:=by
 by_cases e:j=H
 ·grind
 ·exact HH.out j Oa):p:=h
theorem PD{p:Prop}(h:p:=by
 by_cases e:j=k
 ·grind
 ·exact hH.out j Oa):p:=h
theorem Qk{p:Prop}(h:p:=by
 obtain⟨H,hi,rfl⟩:=je hx
 grind):p:=h
theorem Qr{p:Prop}(h:p:=by
 subst he;have HE:=gb (ex.out rfl);have hq:(y==y)=true:=On
 exact Sc):p:=h
theorem gR{p q:Prop}(P:p)(Q:q):Hid (p/\q):=⟨P,Q⟩
theorem info4:(prog.info? 4).map (λi=>(i.zero,i.size,i.bytes))=some (some (.bool false),1,1):=Ob
theorem XR(n:Int)(w:World)(_:ja n):
 Calls prog 224 #[.int .i64 n] w λe A=>e= .returned (.bool (m0 n.toNat))/\w=A:=by
 by_cases x:n<2\/100000<n
 ·rw[ac8 Oa];by_cases a:n<2
  ·go_enter func224,ntmps224;exact Mb
  ·have f:100000<n:=(by omega);go_enter func224,ntmps224;exact Mb
 ·obtain⟨n,rfl⟩:∃m:Nat,n=(m:Int):=⟨n.toNat,by omega⟩;rw[iZ];have a:2<=n:=Oa;have f:n<=100000:=Oa;obtain⟨c,h⟩:∃c,c=m0 n:=⟨_,rfl⟩;rw[<-h];have b:=gb h;clear x h;go_enter func224,ntmps224;go_wp2;go_loop [3] (λj=>∃d:Nat,2<=d/\d<=100000/\j= .int .i64 d/\Hid (∀e,2<=e->e<d->n%e≠0)) (λj=>100001-(intOf j).toNat)
  case atStart=>exact⟨2,by omega,by omega,rfl,gb (λe a f=>by omega)⟩
  case round=>
   obtain⟨d,z,k,rfl,g⟩:=hrel;have i:((d*d:Nat):Int)=d*d:=On;have l:d*d<=100000*100000:=gE k k;have o:2*d<=d*d:=iB _ z;by_cases p:d*d<=n
   ·have s:(d:Int)*d<=n:=(by omega);have t:0<=(d:Int)*d:=Oa;have v:0<=(n:Int)%d:=m7 _ Oa;by_cases q:n%d=0
    ·have y:(((n:Int)%d)==0)=true:=(by simp;omega);obtain rfl:c=false:=(by rw[b.out];grind [ac9]);clear i q b;exact Of
    ·have y:(((n:Int)%d)==0)=false:=by simp;omega
     have r:=gd (∀e,2<=e->e<d+1->n%e≠0) (λe a f=>by
      by_cases B:e=d
      ·grind
      ·exact g.out e a Oa)
     have C:d+1<=100000:=Oa;clear i q g l o p;go_wp2;go_round
     case rel=>exact⟨d+1,by omega,by omega,by go_num,r⟩
     case measure=>exact gQ
   ·have s:¬(d:Int)*d<=n:=(by omega);have t:0<=(d:Int)*d:=Oa;have v:(d:Int)*d<=10000000000:=Oa;obtain rfl:c=true:=(by rw[b.out];exact XS a f Oa g.out);clear i g b l o p;exact Of
section
def sd(M:Nat->Nat->Int)(n i:Nat):gP:=(List.range (n+1)).map (M i)
theorem adn(M:Nat->Nat->Int)(n i:Nat):(sd M n i).length=n+1:=by simp[sd]
theorem adm{M:Nat->Nat->Int}{n i j:Nat}(h:j<=n):(sd M n i).getD j 0=M i j:=by
 grind [sd]
def upM(M:Nat->Nat->Int)(a b:Nat)(z:Int)(x y:Nat):Int:=if x=a/\y=b then z else M x y
theorem ado(M:Nat->Nat->Int)(n i j:Nat)(z:Int):(sd M n i).set j z=sd (upM M i j z) n i:=by
 refine jd (by simp[sd]) λk a b=> ?_
 grind [sd,upM]
theorem N6{M:Nat->Nat->Int}{n i a b:Nat}{z:Int}(h:i≠a):sd (upM M a b z) n i=sd M n i:=by
 unfold sd;refine jn λk _=> ?_;unfold upM;exact Oa
theorem N5{M M':Nat->Nat->Int}{n i:Nat}(h:∀j,j<=n->M i j=M' i j):sd M n i=sd M' n i:=jn λk a=>h k (by grind)
def sG(n:Nat)(g a:Nat->Nat)(i:Nat):Value:= .slice (some ⟨g i,0,none⟩) (n+1) (a i)
def uH(R n:Nat)(g a:Nat->Nat):np:=(List.range R).map (sG n g a)
theorem qg(R n:Nat)(g a:Nat->Nat):(uH R n g a).length=R:=by simp[uH]
theorem IK{R n:Nat}{g a:Nat->Nat}{i:Nat}(h:i<R):(uH R n g a)[i]? =some (.slice (some ⟨g i,0,none⟩) (n+1) (a i)):=by
 rw[uH,gY,i7 h];rfl
structure mG(B U:Nat)(w:World)(v:Value)(R n:Nat)(g cp:Nat->Nat)(M:Nat->Nat->Int):Prop where
 inj:∀i,i<R->∀j,j<R->g i=g j->i=j
 gu:∀i,i<R->g i<U
 vu:∀k,v.ownBlock=some k->k<U
 out:Ow 45 B w v (uH R n g cp)
 row:∀i,i<R->OI B w (.slice (some ⟨g i,0,none⟩) (n+1) (cp i)) (sd M n i)
def mz(B U:Nat)(w:World)(v:Value)(R n:Nat)(M:Nat->Nat->Int):Prop:=∃g a,mG B U w v R n g a M
section
variable {B U:Nat} {w w':World} {v:Value} {R n:Nat} {g cp:Nat->Nat} {M M':Nat->Nat->Int}
theorem mG.len(h:mG B U w v R n g cp M):∃a c,v= .slice a R c:=by
 have:=h.out.len
 rwa [qg]at this
theorem mG.form(h:mG B U w v R n g cp M)(a:0<R):∃go c,v= .slice (some ⟨go,0,none⟩) R c:=by
 obtain⟨go,c,e,_⟩:=h.out.form (by rw[qg];exact a);rw[qg]at e
 grind
theorem mG.oc{go c m:Nat}(h:mG B U w (.slice (some ⟨go,0,none⟩) m c) R n g cp M){i:Nat}(hi:i<R):w.cell? ⟨go,i,none⟩=some (.slice (some ⟨g i,0,none⟩) (n+1) (cp i)):=by
 rw[h.out.cell i (by rw[qg];exact hi),IK hi]
theorem mG.ic(h:mG B U w v R n g cp M){i j:Nat}(hi:i<R)(a:j<=n):w.cell? ⟨g i,j,none⟩=some (.int .i64 (M i j)):=by
 rw[(h.row i hi).cell j (by rw[adn];omega),adm a]
theorem mG.fz(h:mG B U w v R n g cp M){i:Nat}(hi:i<R)(j:Nat):w.frozen? ⟨g i,j,none⟩=false:=(h.row i hi).frozen j
theorem mG.ofz{go c m:Nat}(h:mG B U w (.slice (some ⟨go,0,none⟩) m c) R n g cp M)(j:Nat):w.frozen? ⟨go,j,none⟩=false:=h.out.frozen j
theorem mG.congr(h:mG B U w v R n g cp M)(b:∀i,i<R->∀j,j<=n->M i j=M' i j):mG B U w v R n g cp M':=
 ⟨h.inj,h.gu,h.vu,h.out,λi a=>by rw[<-N5 (b i a)];exact h.row i a⟩
theorem mz.congr(h:mz B U w v R n M)(a:∀i,i<R->∀j,j<=n->M i j=M' i j):mz B U w v R n M':=by
 obtain⟨g,cp,h⟩:=h;exact⟨g,cp,h.congr a⟩
theorem mG.kept{c:Option Nat}(h:mG B U w v R n g cp M)(a:w.grownBy w' c)(f:∀k,c=some k->U<=k):mG B U w' v R n g cp M:=by
 refine⟨h.inj,h.gu,h.vu,h.out.kept a ?_,λi b=>(h.row i b).kept a (.inr λe=> ?_)⟩
 ·cases d:v.ownBlock with
  |none=>grind
  |some k=>
   right;intro e;have:=h.vu k d
   grind
 ·have:=h.gu i b;have:=f (g i) e.symm;exact Oa
theorem mz.kept{a:Option Nat}(h:mz B U w v R n M)(b:w.grownBy w' a)(c:∀k,a=some k->U<=k):mz B U w' v R n M:=by
 obtain⟨g,cp,h⟩:=h;exact⟨g,cp,h.kept b c⟩
theorem mG.drew(h:mG B U w v R n g cp M):mG B U w.drew v R n g cp M:=⟨h.inj,h.gu,h.vu,h.out.drew,λi a=>(h.row i a).drew⟩
theorem mz.drew(h:mz B U w v R n M):mz B U w.drew v R n M:=by
 obtain⟨g,cp,h⟩:=h;exact⟨g,cp,h.drew⟩
theorem mG.gB(h:mG B U w v R n g cp M){i:Nat}(hi:i<R):B<=g i/\g i<w.heap.size:=(h.row i hi).lt (g i) rfl
theorem mG.put(h:mG B U w v R n g cp M){i:Nat}(hi:i<R)(j:Nat)(z:Int):mG B U (w.setCell ⟨g i,j,none⟩ (.int .i64 z)) v R n g cp (upM M i j z)/\w.grownBy (w.setCell ⟨g i,j,none⟩ (.int .i64 z)) (some (g i)):=by
 obtain⟨d,b⟩:=(h.row i hi).stored j z;refine⟨⟨h.inj,h.gu,h.vu,h.out.kept b ?_,λk c=> ?_⟩,b⟩
 ·rcases kA h.out (h.row i hi)with e|e
  ·simp[Value.ownBlock]at e
  ·exact .inr λa=>e (by rw[a];rfl)
 ·by_cases e:k=i
  ·subst e;rw[<-ado];exact d
  ·rw[N6 e];exact(h.row k c).kept b (.inr λa=>e (h.inj k c i hi (gG a)))
theorem XP{a b:Nat}(j:a<R)(l:b<R):((uH R n g cp).set a (sG n g cp b)).set b (sG n g cp a)=uH R n (λi=>g (El a b i)) (λi=>cp (El a b i)):=by
 refine jd (by simp[uH]) λk e f=> ?_;rw[qs,qs];simp only[uH,vz,sL,El];by_cases d:b=k
 ·rw[gl d];by_cases c:k=a
  ·grind [sG]
  ·simp only[sG,gh c,gl d.symm]
 ·rw[gh d];by_cases c:a=k
  ·simp[sG,c]
  ·simp only[sG,gh c,gh (show¬k=a from λh=>c h.symm),gh (show¬k=b from λh=>d h.symm)]
theorem mG.swapped{go c m a b:Nat}{k:World}(h:mG B U w (.slice (some ⟨go,0,none⟩) m c) R n g cp M)(f:a<R)(j:b<R)(r:Ow 45 B k (.slice (some ⟨go,0,none⟩) m c) (uH R n (λi=>g (El a b i)) (λi=>cp (El a b i))))(p:w.grownBy k (some go)):mG B U k (.slice (some ⟨go,0,none⟩) m c) R n (λi=>g (El a b i)) (λi=>cp (El a b i)) (swM M a b):=by
 refine⟨λi d s q e=> ?_,λi d=>h.gu _ (si f j d),h.vu,r,λi d=> ?_⟩
 ·have:=h.inj _ (si f j d) _ (si f j q) e;rw[<-FW a b i,this,FW]
 ·have l:=h.row _ (si f j d)
  have o:=l.kept p (by
   rcases kA h.out l with e|e
   ·grind
   ·exact .inr e)
  exact o
theorem mG.swap{go c m a b:Nat}(h:mG B U w (.slice (some ⟨go,0,none⟩) m c) R n g cp M)(i:a<R)(j:b<R):
 mz B U ((w.setCell ⟨go,a,none⟩ (sG n g cp b)).setCell ⟨go,b,none⟩ (sG n g cp a)) (.slice (some ⟨go,0,none⟩) m c) R n (swM M a b)/\w.grownBy ((w.setCell ⟨go,a,none⟩ (sG n g cp b)).setCell ⟨go,b,none⟩ (sG n g cp a)) (some go):=by
 obtain⟨k,d⟩:=h.out.stored a (sG n g cp b);obtain⟨e,f⟩:=k.stored b (sG n g cp a);rw[XP i j]at e;exact⟨⟨_,_,h.swapped i j e (d.trans f)⟩,d.trans f⟩
theorem adw{p:Int}{a u:Nat}{z:Int}:∀x y,upM (Be p M a z u) a u ((M a u*z)%p) x y=Be p M a z (u+1) x y:=by
 intro x y;unfold upM Be
 grind
theorem aaQ{p:Int}{a i u:Nat}{f:Int}:∀x y,upM (WS p M a f i u) i u ((M i u-f*M a u)%p) x y=WS p M a f i (u+1) x y:=by
 intro x y;unfold upM WS
 grind
theorem Hk{p:Int}{a c i:Nat}(f:∀y,y<=n->0<=M i y/\M i y<p)(h:i=a\/M i c=0):∀x,∀y,y<=n->uC p M a c i x y=uC p M a c (i+1) x y:=by
 intro x y g;unfold uC;by_cases d:x<i/\x≠a
 ·exact Oa
 ·rw[gh d];by_cases e:x<i+1/\x≠a
  ·rw[gl e];obtain rfl:x=i:=Oa;have b:M x c=0:=Oa;have:=f y g;rw[b,mP,ahn,F9 this.1 this.2]
  exact Oa
theorem afB{p:Int}{a c i:Nat}(h:i≠a):∀x,∀y,y<=n->WS p (uC p M a c i) a (M i c) i (n+1) x y=uC p M a c (i+1) x y:=by
 intro x y b;unfold WS uC
 grind
theorem aaR{p:Int}{a c:Nat}:∀x y,uC p M a c 0 x y=M x y:=λx y=>gh Oa
end
end
def apI(b:Nat):gA->gA->Option gA
 |[],S=>some S
 |a::ps,S=>if decide (b-a∈S)then none else apI b ps ((b-a)::S)
def Wp:gA->gA->gA->Bool
 |_,[],_=>true
 |a,b::bs,S=>match apI b a S with
  |some c=>Wp (a++[b]) bs c
  |none=>false
def BR(l:gA):Bool:=Wp [] l []
def rbC(e k:Nat)(x:Nat):gA:=if k=1 then(if x+1<=e then[e]else[])else List.range' (x+1) (e+1-k-x)
def tF(e:Nat):Nat->gA->Option gA
 |0,l=>if l.getLastD 0=e then some l else none
 |k+1,l=>(rbC e (k+1) (l.getLastD 0)).findSome? λm=>if BR (l++[m])then tF e k (l++[m])else none
def Cj(n:Nat):Nat:=if n=1 then 0 else if n=2 then 1 else if n=3 then 3 else if n=4 then 6 else if n=5 then 11 else if n=6 then 17 else 25
theorem Ed:∀n,n<8->1<=n->(tF (Cj n) (n-1) [0]).isSome=true:=OH
def yr(e:Nat):Nat->gA->Option gA
 |0,l=>if l.getLastD 0=e then some l else none
 |k+1,l=>(List.range' (l.getLastD 0+1) (e-l.getLastD 0)).findSome? λm=>if BR (l++[m])then yr e k (l++[m])else none
theorem AK{e:Nat}:∀(k:Nat)(l:gA),e<l.getLastD 0+k->yr e k l=none
 |0,l,h=>by rw[yr,gh Oa]
 |k+1,l,h=>by
  rw[yr,sK];intro m a;have:=Gd.1 a;split
  ·exact AK k _ (by grind)
  ·rfl
theorem Hp{c:Type}{f:Nat->Option c}:∀{a p q:Nat},p<=q->(∀m,a+p<=m->m<a+q->f m=none)->(List.range' a q).findSome? f=(List.range' a p).findSome? f
 |a,0,q,_,h=>by
  grind
 |a,p+1,0,b,_=>absurd b Oa
 |a,p+1,q+1,b,h=>by
  rw[qt,qt,lm,lm,Hp (a:=a+1) (p:=p) (q:=q) Oa (λm d e=>h m Oa Oa)]
theorem Vc{e:Nat}:∀(k:Nat)(l:gA),yr e k l=tF e k l
 |0,l=>rfl
 |k+1,l=>by
  rw[yr,tF];have b:(λm=>if BR (l++[m])then yr e k (l++[m])else none)=λm=>if BR (l++[m])then tF e k (l++[m])else none:=by
   funext m;rw[Vc k]
  have f:∀m,e<m+k->(if BR (l++[m])=true then tF e k (l++[m])else none)=none:=λm a=>by
   rw[<-Vc k,AK k _ (by grind)]
   grind
  rw[b];generalize l.getLastD 0=x;unfold rbC;by_cases c:k=0
  ·subst c;rw[gl rfl];by_cases d:x+1<=e
   ·rw[gl d,show e-x=(e-x-1)+1 by omega,List.range'_concat,List.findSome?_append,show x+1+1*(e-x-1)=e by omega];rw[sK.2 (λm a=> ?_)]
    ·rfl
    ·have:=Gd.1 a;rw[tF,List.getLastD_concat,gh (show¬m=e by omega)]
     grind
   grind
  ·rw[gh Oa]
   grind [Hp]
def jj(l:gA):gP:=l.map λx:Nat=>(x:Int)
theorem jw(l:gA):(jj l).length=l.length:=by simp[jj]
theorem mL(l:gA)(i:Nat):(jj l).getD i 0=((l.getD i 0:Nat):Int):=by
 grind [jj]
theorem tA(l:gA)(x:Nat):jj (l++[x])=jj l++[(x:Int)]:=by simp[jj]
theorem FC{l:gA}(h:∀x∈l,x<1000000000):∀x∈jj l,ja x:=λx hx=>Di
theorem Ir{l:gP}{x:Int}(h:∀i,i<l.length->l[i]?.getD 0≠x):decide (x∈l)=false:=by
 grind [List.mem_iff_getElem]
theorem Is{l:gP}{x:Int}{i:Nat}(hi:i<l.length)(h:l[i]?.getD 0=x):decide (x∈l)=true:=by
 grind
theorem Iq(v:Value)(l:gP)(x:Int)(w:World)(f:Sl w v l):
 Calls prog 226 #[v,.int .i64 x] w λe q=>e= .returned (.bool (decide (x∈l)))/\w=q:=by
 have b:=gb (λh=>Ir (l:=l) (x:=x) h);have c:=gb (λi o h=>Is (l:=l) (x:=x) (i:=i) o h);obtain⟨r,t,N,rfl,n,C,a⟩:=f.open;rw[n.out]at b c;clear f;generalize decide (x∈l)=D at*;go_enter func226,ntmps226;go_wp2;go_loop [5] (λi=>∃k:Nat,k<=N/\i= .int .i64 k/\Hid (∀j,j<k->l[j]?.getD 0≠x)) (λi=>N-(intOf i).toNat)
 case atStart=>exact⟨0,ge _,rfl,gb (λj p=>by omega)⟩
 case round=>
  obtain⟨k,B,rfl,hH⟩:=hrel;by_cases g:k<N
  ·obtain⟨s,E,rfl,z,d⟩:=a Oa;have A:=d k g;have bt:=gd (l[k]?.getD 0≠x->∀j,j<k+1->l[j]?.getD 0≠x) (λh j p=>PD);have ex:=gb (c.out k g);clear d a hH;generalize l[k]?.getD 0=y at*;by_cases he:y=x
   ·exact Qr
   ·have hq:(y==x)=false:=(by grind);exact Mg
  ·obtain rfl:k=N:=(by omega);have HE:=gb (b.out hH.out);clear a hH;exact Sc
def kc(l:gA):Bool:=(List.range (l.length-1)).all λi=>decide (l.getD i 0<l.getD (i+1) 0)
def kH(v:Nat)(l:gA):Int:=if v<1\/60<v\/(l.any λn=>decide (v<=n))=true then 1 else if kc l=false then 2 else 0
theorem oL{v:Nat}{l:gA}(h:kH v l=0):1<=v/\v<=60/\(∀x∈l,x<v)/\kc l=true:=by
 unfold kH at h
 grind
theorem tT{l:gA}(h:kc l=true){i:Nat}(hi:i+1<l.length):l.getD i 0<l.getD (i+1) 0:=by
 unfold kc at h
 grind
theorem xo{l:gA}(h:kc l=true):∀i,i<l.length->i<=l.getD i 0
 |0,_=>ge _
 |i+1,a=>by
  have:=xo h i Oa
  grind [tT]
theorem td{v:Nat}{l:gA}(h:kH v l=0):l.length<=v:=by
 obtain⟨c,d,e,b⟩:=oL h;rcases jz l.length with a|a
 ·exact Oa
 ·have f:=xo b (l.length-1) Oa
  grind [List.getElem_mem]
def Y9(v a b:Nat):Nat:=(a+v-b)%v
def JO(v:Nat)(l:gA):Nat->gA
 |0=>[]
 |i+1=>JO v l i++l.map λb=>Y9 v (l.getD i 0) b
theorem ET(v:Nat)(l:gA):∀i,(JO v l i).length=i*l.length
 |0=>by simp[JO]
 |i+1=>by rw[JO,gz,ET v l i,gv,qS,qU]
def yB(v:Nat)(l:gA)(i j:Nat):gA:=JO v l i++(l.take j).map λb=>Y9 v (l.getD i 0) b
theorem vU(v:Nat)(l:gA)(i:Nat):yB v l i 0=JO v l i:=by simp[yB]
theorem TB(v:Nat)(l:gA)(i:Nat):yB v l i l.length=JO v l (i+1):=by simp[yB,JO]
theorem Hg(v:Nat)(l:gA)(i:Nat){j:Nat}(h:j<l.length):yB v l i (j+1)=yB v l i j++[Y9 v (l.getD i 0) (l.getD j 0)]:=by
 grind [yB,List.take_add_one]
theorem TC(v:Nat)(l:gA)(i:Nat){j:Nat}(h:j<=l.length):(yB v l i j).length=i*l.length+j:=by
 grind [yB,ET]
def uG(D:gA):np:=(List.range 60).map λn=> .int .i64 ((D.count n:Nat):Int)
theorem A0(D:gA):(uG D).length=60:=by simp[uG]
theorem tC(D:gA){n:Nat}(h:n<60):(uG D)[n]? =some (.int .i64 ((D.count n:Nat):Int)):=by
 grind [uG]
theorem XM(D:gA){d:Nat}(h:d<60):uG (D++[d])=(uG D).set d (.int .i64 ((D.count d:Nat)+1:Int)):=by
 refine ib λn=> ?_;rw[jx];by_cases a:n<60
 ·by_cases e:d=n
  ·subst e;rw[gl rfl,gl (by grind [A0]),tC _ h,ux];exact On
  ·rw[gh e,tC _ a,tC _ a,ux];simp[e]
 ·rw[iO (by rw[A0];omega)];rw[gh Oa,iO (by rw[A0];omega)]
def ES(v:Nat)(l:gA)(n:Nat):Nat:=(JO v l l.length).count n
def TD(v:Nat)(l:gA):Bool:=(List.range (v-1)).all λi=>ES v l (i+1)==ES v l 1
def qp(v:Nat)(l:gA):Int:=if kH v l≠0 then kH v l else if TD v l=false then 4 else 0
def sC(v:Nat)(l:gA):Int:=if qp v l=0/\v≠1 then(ES v l 1:Nat)else 0
def chM(v:Nat)(l:gA)(t m:Nat):gP:=l.map λn=>(((n*t+m)%v:Nat):Int)
def vS(v:Nat)(l:gA)(t m:Nat):gP:=(chM v l t m).mergeSort λx y=>decide (x<=y)
def mtB(v:Nat)(l:gA)(t:Nat):Bool:=decide (Nat.gcd t v<=1)&&(List.range v).any λs=>vS v l t 0==vS v l 1 s
def qN(v:Nat)(l:gA)(k:Nat):gP:=((List.range k).filter λi=>mtB v l (i+1)).map λi=>((i+1:Nat):Int)
def Fu(v:Nat)(l:gA):gP:=if kH v l=0 then qN v l (v-1)else[]
theorem CY(v:Nat)(l:gA)(k:Nat):qN v l (k+1)=if mtB v l (k+1)then qN v l k++[((k+1:Nat):Int)]else qN v l k:=by
 unfold qN;exact UB
theorem AS(v:Nat)(l:gA)(k:Nat):(qN v l k).length<=k:=by
 grind [qN]
section
def vE{a:Type}(S:List a)(k:Nat)(x:a):List a:=S.take k++x::S.drop k
section
variable {α:Type} {S:List α} {k:Nat} {x d:α}
theorem rO(x:α)(h:k<=S.length):(vE S k x).length=S.length+1:=by
 grind [vE]
theorem TZ(S:List α)(x:α):vE S S.length x=S++[x]:=by
 unfold vE
 grind
theorem p5(x:α)(h:k<=S.length)(j:Nat):(vE S k x)[j]? =if j<k then S[j]? else if j=k then some x else S[j-1]? :=by
 have a:(S.take k).length=k:=by grind
 unfold vE
 grind
theorem ajm(h:k<=S.length):(vE S k x).getD k d=x:=by
 rw[gc,p5 x h,gh (Nat.lt_irrefl _),gl rfl];rfl
theorem ajn(h:k<=S.length){j:Nat}(a:j<k):(vE S k x).getD j d=S.getD j d:=by
 rw[gc,p5 x h,gl a,<-gc]
theorem H7(h:k+1<=S.length):((vE S (k+1) x).set k x).set (k+1) (S.getD k d)=vE S k x:=by
 refine ib λj=> ?_;have a:=rO x h;rw[jx,jx,jY,p5 x h,p5 x (show k<=S.length by omega),a]
 grind
theorem H6(S:List α)(k:Nat)(x:α):(vE S k x).Perm (x::S):=by
 unfold vE;refine List.perm_middle.trans (List.Perm.cons _ ?_);exact OK
theorem Ar{R:α->α->Prop}(v:∀a b c,R a b->R b c->R a c)(g:S.Pairwise R)(t:k<=S.length)(q:∀j,k<=j->j<S.length->R x (S.getD j d))(r:0<k->R (S.getD (k-1) d) x):(vE S k x).Pairwise R:=by
 have e:=g;rw[<-aid k S,yT]at e;obtain⟨o,p,w⟩:=e;have l:∀b∈S.drop k,R x b:=λb f=>by
  obtain⟨n,i,rfl⟩:=je f;exact OK
 unfold vE;rw[yT,kM];refine⟨o,⟨l,p⟩,λa h b f=> ?_⟩;have s:R a x:=by
  obtain⟨n,i,rfl⟩:=je h
  grind [List.pairwise_iff_getElem]
 grind
end
def nG(l:gP):gP:=l.mergeSort λx y=>decide (x<=y)
theorem aj6{o l:gP}(a:o.Perm l)(c:o.Pairwise (·<= ·)):o=nG l:=by
 refine aej (le:=(·<= ·)) (λO b _ _ h1 h2=>Int.le_antisymm h1 h2) c ?_ (a.trans (Bx l _).symm);exact Ss
theorem RK(l:gP):(nG l).Pairwise (·<= ·):=Ss
theorem zD(l:gP):(nG l).length=l.length:=aic l
theorem ag3:nG []=[]:=by simp[nG]
theorem adM{l:gP}{i k:Nat}(hi:i<l.length)(n:k<=i)(a:∀j,k<=j->j<i->l.getD i 0<(nG (l.take i)).getD j 0)(b:0<k->¬l.getD i 0<(nG (l.take i)).getD (k-1) 0):vE (nG (l.take i)) k (l.getD i 0)=nG (l.take (i+1)):=by
 have o:(nG (l.take i)).length=i:=by rw[zD,i8];omega
 refine aj6 ?_ (Ar (d:=0) (λe f g a b=>Int.le_trans a b) (RK _) Oa (λj c h=> ?_) λc=> ?_)
 ·refine(H6 _ _ _).trans ?_;rw[jH,gn hi,gc,gn hi];refine((Bx _ _).cons _).trans ?_
  grind
 ·grind
 exact Oa
end
def B6(v:Nat)(D:gA):gP:=(List.range v).map λn=>((D.count n:Nat):Int)
theorem vT(v:Nat)(D:gA):(B6 v D).length=v:=by simp[B6]
theorem xl(D:gA){v n:Nat}(h:n<v):(B6 v D)[n]? =some ((D.count n:Nat):Int):=by
 grind [B6]
theorem aaC(D:gA){v n:Nat}(h:n<v):(B6 v D).getD n 0=((D.count n:Nat):Int):=by
 grind [xl]
theorem aaD(v:Nat):(B6 v []).map (Value.int .i64)=List.replicate v (.int .i64 0):=by
 unfold B6;rw[jL];refine List.eq_replicate_iff.2 ⟨by simp,λb a=> ?_⟩
 grind
theorem WM(D:gA){v d:Nat}(h:d<v):(B6 v D).set d (((D.count d:Nat):Int)+1)=B6 v (D++[d]):=by
 refine ib λn=> ?_;rw[jx,vT];by_cases a:n<v
 ·rw[xl _ a,xl _ a,ux]
  grind
 ·rw[gh Oa,iO (by rw[vT];omega),iO (by rw[vT];omega)]
theorem aiZ{v:Nat}{l:gA}{s:Nat}(b:1<=s)(c:s<v)(h:ES v l s≠ES v l 1):TD v l=false:=by
 refine kZ.2 λa=>h ?_;unfold TD at a;have:=gF.1 a (s-1) (gC.2 Oa)
 grind
theorem afo{v:Nat}{l:gA}(h:∀s,2<=s->s<v->ES v l s=ES v l 1):TD v l=true:=by
 unfold TD
 grind
theorem aaL{v:Nat}{l:gA}{i:Nat}(hi:i<l.length)(h:v<=l.getD i 0):kH v l=1:=by
 refine gl (.inr (.inr ?_))
 grind [List.getElem_mem]
theorem afs{v:Nat}{l:gA}(a:1<=v)(b:v<=60)(h:∀H,H<l.length->¬v<=l.getD H 0):kH v l=if kc l=false then 2 else 0:=by
 refine gh ?_;rintro(h3|h3|h3)
 ·exact Oa
 ·exact Oa
 ·exact Sd
theorem CH{l:gA}{i:Nat}(hi:i+1<l.length)(h:¬l.getD i 0<l.getD (i+1) 0):kc l=false:=by
 refine kZ.2 λa=>h (tT a hi)
theorem Ac{l:gA}(h:∀i,i+1<l.length->l.getD i 0<l.getD (i+1) 0):kc l=true:=by
 grind [kc]
theorem yx(v:Value)(l:gP)(w:World)(hl:Sl w v l)(hm:l.length<=1000000):
 Calls prog 227 #[v] w λn r=>(∃u,n= .returned u/\OI w.heap.size r u (nG l))/\gm w r:=by
 obtain⟨ak,aq,N,rfl,hN,ar,ac⟩:=hl.open;have B:=gb (λi k (o:i<l.length)=>adM (l:=l) (i:=i) (k:=k) o);have A:=gd (∀i,i<=l.length->(nG (l.take i)).length=i) (λi o=>by rw[zD,i8];omega);have S:=gd (nG (l.take 0)=[]) (by rw[Y2];exact ag3);have U:=gd (nG (l.take N)=nG l) (by rw[ie MJ]);rw[hN.out]at B A hm
 have R:=gd (0<N->∃h q,ak=some ⟨h,q,none⟩/\∀r,gm w r->∀i,i<N->r.cell? ⟨h,q+i,none⟩=some (.int .i64 (l.getD i 0))) (λK=>by
  obtain⟨h,q,n,c,hc⟩:=ac K
  exact⟨h,q,n,λr hw i o=>by rw[hw.cell (p:=⟨h,q+i,none⟩) c,hc i o,gc]⟩)
 clear hl ac hN;obtain⟨e,Z⟩:∃e:Nat->gP,∀i,nG (l.take i)=e i:=⟨λi=>nG (l.take i),λi=>rfl⟩;simp only[Z]at B A S U;generalize nG l=SL at*;clear Z;go_enter func227,ntmps227;go_wp2;go_loopw [3,4,5] (λov P _ wr=>∃i:Nat,P= .int .i64 i/\i<=N/\OI w.heap.size wr ov (e i)/\gm w wr) (λ_ P _ _=>N-(intOf P).toNat)
 case atStart=>exact⟨0,rfl,ge _,by rw[S.out];exact OI.nil _ _,f0 _ _⟩
 case round=>
  obtain⟨i,rfl,o,b,c⟩:=hrel;by_cases C:i<N
  ·have ao:(i:Int)<N:=(by omega);obtain⟨h,q,rfl,ad⟩:=R.out Oa;have hx:=ad wr c i C;have g:=gb (A.out i o);have T:=gb (λk=>B.out i k C);clear R ad B A;generalize l.getD i 0=x at*;obtain⟨oa,oc,rfl⟩:=b.len;have ap:(e i).length<=1000000000000:=(by rw[g.out];omega);have ai:=c.size;have HB:=gb c;rw[g.out]at b⊢;go_wp2_with (at_builtin;refine g8 wr _ _ 45 rfl rfl underlying45 info3 w.heap.size _ _ rfl b rfl ap ai ?_;intro a c7 w4 z ae an au);have ab:=b.grown HB.out ae ai;rw[g.out]at z⊢;rw[<-TZ,g.out]at z;have J:=gR z ab;have al:=z.lt a rfl;clear z ab ae an c b;obtain⟨W,am⟩:∃W,W=w4:=⟨_,rfl⟩;subst am;go_wp2;go_loopw [5] (λQ wr=>∃k:Nat,Q= .int .i64 k/\k<=i/\OI w.heap.size wr (.slice (some ⟨a,0,none⟩) (i+1) c7) (vE (e i) k x)/\gm w wr/\Hid (∀j,k<=j->j<i->x<(e i).getD j 0)) (λQ _=>(intOf Q).toNat)
   case atStart=>exact⟨i,rfl,fZ _,J.out.1,J.out.2,gb (λj L Y=>by omega)⟩
   case round=>
    clear J;obtain⟨k,rfl,D,b,c,s⟩:=hrel;by_cases h0:k=0
    ·subst h0;have H:=gb ((T.out 0 (ge _) s.out (λK=>by omega)));have d:=gR (b.cast H.out) c;clear b c;go_wp2;go_region;go_wp2;go_roundw
     case rel=>exact⟨i+1,by go_num,C,d.out.1.drewN 1,gM d.out.2 1⟩
     case measure=>exact gQ
    ·obtain⟨m,rfl⟩:∃m,k=m+1:=⟨k-1,by omega⟩;have E:m+1<=(e i).length:=(by rw[g.out];exact D);have av:(vE (e i) (m+1) x).length=i+1:=(by rw[rO x E,g.out]);have c1:=b.cell m Oa;have c2:=b.cell (m+1) Oa;rw[ajn E (vB _)]at c1;rw[ajm E]at c2;have f1:=b.frozen m;have X:=b.frozen (m+1);obtain⟨y,F⟩:∃y,(e i).getD m 0=y:=⟨_,rfl⟩;rw[F]at c1;have V:=gb F;have af:(0:Int)<((m+1:Nat):Int):=Oa;have ah:((m+1:Nat):Int)-1=m:=Oa;have ag:0<m+1:=Oa;have d:=gR b c;clear b c;by_cases aw:x<y
     ·have aj:=gb (show∀j,m<=j->j<i->x<(e i).getD j 0 from λj L Y=>by
       by_cases n:j=m
       ·exact OK
       ·exact s.out j Oa Y)
      have I:=gb (λ(G:World)(L:OI w.heap.size G (.slice (some ⟨a,0,none⟩) (i+1) c7) (vE (e i) (m+1) x))=>(show OI w.heap.size ((G.setCell ⟨a,m,none⟩ (.int .i64 x)).setCell ⟨a,m+1,none⟩ (.int .i64 y)) (.slice (some ⟨a,0,none⟩) (i+1) c7) (vE (e i) m x)/\G.grownBy ((G.setCell ⟨a,m,none⟩ (.int .i64 x)).setCell ⟨a,m+1,none⟩ (.int .i64 y)) (some a)from by
       obtain⟨s1,s2⟩:=L.stored m x;obtain⟨s3,s4⟩:=s1.stored (m+1) y;rw[<-V.out,H7 E,V.out]at s3
       exact⟨s3,s2.trans s4⟩))
      clear F s;obtain⟨f,M⟩:∃f,m+1=f:=⟨_,rfl⟩;rw[M]at af ah ag c2 X I d D⊢;have d1:wr.drew.cell? ⟨a,m,none⟩=_:=c1;have d2:wr.drew.cell? ⟨a,f,none⟩=_:=c2;go_wp2;go_region;have e1:wr.drew.drew.cell? ⟨a,m,none⟩=_:=c1;have e2:wr.drew.drew.cell? ⟨a,f,none⟩=_:=c2;have f3:wr.drew.drew.frozen? ⟨a,m,none⟩=_:=f1;have O:=I.out wr.drew.drew d.out.1.drew.drew;have aa:=d.out.2.drew.drew.grown O.2 d.out.2.size (λk n=>by cases n;exact al.1);have t:=gR O.1 aa;clear O aa I;go_wp2;go_region;go_wp2;go_roundw
      case rel=>exact⟨m,by go_num,by omega,t.out.1,t.out.2,aj⟩
      case measure=>exact gQ
     ·have H:=gb ((T.out (m+1) D s.out (λK=>by simp_all)));have t:=gR (d.out.1.cast H.out) d.out.2;clear F s;obtain⟨f,M⟩:∃f,m+1=f:=⟨_,rfl⟩;rw[M]at af ah ag c2 X D⊢;have d1:wr.drew.cell? ⟨a,m,none⟩=_:=c1;have d2:wr.drew.cell? ⟨a,f,none⟩=_:=c2;go_wp2;go_region;go_wp2;go_roundw
      case rel=>exact⟨i+1,by go_num,C,t.out.1.drewN 1,gM t.out.2 1⟩
      case measure=>exact gQ
  ·obtain rfl:i=N:=(by omega);have ao:¬(i:Int)<i:=Oa;have d:=gR (b.cast U.out) c;clear b c;go_wp2;go_ret;exact⟨⟨_,rfl,d.out.1⟩,d.out.2⟩
end Go.Proofs.YtnnaadmegeeinaaGreatDoor
namespace Go.Proofs.YtnnaadmegeeinaaGreatDoor
open Tryz Go.Proofs.Tryz
open Go.RowKit
namespace Lex
open Tryz Go.Proofs.Tryz
theorem ahead_same{l m:gP}{k:Nat}(a:k<l.length)(b:k<m.length)(h:l[k]?.getD 0=m[k]?.getD 0):ahead (l.drop k) (m.drop k)=ahead (l.drop (k+1)) (m.drop (k+1)):=by
 grind [List.drop_eq_getElem_cons,ahead]
theorem ahead_diff{l m:gP}{k:Nat}(a:k<l.length)(b:k<m.length)(h:l[k]?.getD 0≠m[k]?.getD 0):ahead (l.drop k) (m.drop k)=decide (l[k]?.getD 0<m[k]?.getD 0):=by
 grind [List.drop_eq_getElem_cons,ahead]
theorem ahead_end{l m:gP}{k:Nat}(a:k<=l.length)(b:k<=m.length)(h:k=l.length\/k=m.length):ahead (l.drop k) (m.drop k)=decide (l.length<m.length):=by
 grind [List.drop_eq_getElem_cons,ahead]
end Lex
theorem Wn(v u:Value)(l m:gP)(w:World)(o:Sl w v l)(q:Sl w u m):
 Calls prog 228 #[v,u] w λs A=>s= .returned (.bool (Lex.ahead l m))/\∃n,A=w.drewN n:=by
 obtain⟨B,F,N,rfl,c,J,p⟩:=o.open;obtain⟨C,G,M,rfl,b,K,r⟩:=q.open;clear o q;go_enter func228,ntmps228;go_wp2;go_loopw [5] (λi wr=>∃k:Nat,k<=N/\k<=M/\i= .int .i64 k/\(∃n,wr=w.drewN n)/\Hid (Lex.ahead l m=Lex.ahead (l.drop k) (m.drop k))) (λi _=>N-(intOf i).toNat)
 case atStart=>exact⟨0,ge _,ge _,rfl,⟨0,rfl⟩,gb rfl⟩
 case round=>
  obtain⟨k,x,y,rfl,⟨n,rfl⟩,f⟩:=hrel;by_cases z:k<N/\k<M
  ·obtain⟨e,g⟩:=z;obtain⟨D,L,rfl,H,h⟩:=p Oa;obtain⟨E,O,rfl,I,j⟩:=r Oa;have c1:=h k e;have c2:=j k g;clear h j p r;by_cases d:l[k]?.getD 0=m[k]?.getD 0
   ·have a:=gb (f.out.trans (Lex.ahead_same (by rw[c.out];exact e) (by rw[b.out];exact g) d));have t:(l[k]?.getD 0 !=m[k]?.getD 0)=false:=(by simp[d]);clear d;go_wp2;go_quiet (fail);exact Rp
   ·have a:=gb (f.out.trans (Lex.ahead_diff (by rw[c.out];exact e) (by rw[b.out];exact g) d));have t:(l[k]?.getD 0 !=m[k]?.getD 0)=true:=(by grind);clear d;go_wp2;go_quiet (fail);go_wp2;go_quiet (fail);go_wp2;go_ret;refine⟨by rw[a.out];rfl,?_⟩;exact Ko
  ·have a:=gb (f.out.trans (Lex.ahead_end (by rw[c.out];exact x) (by rw[b.out];exact y) (by rw[c.out,b.out];omega)));rw[c.out,b.out]at a;clear f;by_cases e:k<N
   all_goals
    go_wp2;go_ret;refine⟨by rw[a.out];simp,?_⟩
    grind
end Go.Proofs.YtnnaadmegeeinaaGreatDoor
namespace Go.Proofs.YtnnaadmegeeinaaGreatDoor
open Tryz Go.Proofs.Tryz
open Go.RowKit
def B4(P:Nat):kl->Int
 |[]=>0
 |b::r=>if(b.any λn=>decide (P<=n))=true then 1 else if kc b=false then 2 else B4 P r
def rC(P:Nat)(bs:kl):Int:=if P<1\/40<P then 1 else if 200<bs.length then 3 else B4 P bs
theorem CI{a:Type}(d:a):∀{l:List a}{i:Nat},i<l.length->l.drop i=l.getD i d::l.drop (i+1)
 |[],_,h=>absurd h On
 |b::l,0,_=>On
 |b::l,i+1,h=>OK
theorem aaz{P:Nat}{bs:kl}{i:Nat}(h:i<bs.length):B4 P (bs.drop i)=if((bs.getD i []).any λn=>decide (P<=n))=true then 1 else if kc (bs.getD i [])=false then 2 else B4 P (bs.drop (i+1)):=by
 rw[CI [] h];rfl
theorem Hd{P:Nat}:∀{bs:kl},B4 P bs=0->∀b∈bs,(∀x∈b,x<P)/\kc b=true
 |[],_,b,a=>absurd a On
 |c::r,h,b,a=>by
  unfold B4 at h;split at h
  ·exact Sb
  ·rename_i d;split at h
   ·exact Sb
   ·rename_i e;rcases m9.1 a with rfl|a
    ·grind
    ·exact Hd h b a
theorem vY{P:Nat}{bs:kl}(h:rC P bs=0):1<=P/\P<=40/\bs.length<=200/\∀b∈bs,(∀x∈b,x<P)/\kc b=true:=by
 unfold rC at h;split at h
 ·exact Sb
 ·split at h
  ·exact Sb
  ·exact⟨by omega,by omega,by omega,Hd h⟩
theorem Tx(P:Nat):∀a:kl,0<=B4 P a/\B4 P a<=6
 |[]=>by grind [B4]
 |b::r=>by
  unfold B4;have:=Tx P r;exact Oa
theorem TJ(P:Nat)(bs:kl):0<=rC P bs/\rC P bs<=6:=by
 unfold rC;have:=Tx P bs;exact Oa
def sD(s:Nat)(l:gA):Nat:=l.foldl (λs p=>s|||2^p) s
theorem acA{s P:Nat}{l:gA}(a:s<2^P)(h:∀x∈l,x<P):sD s l<2^P:=by
 induction l generalizing s with
 |nil=>exact a
 |cons b l d=>
  refine d (uA a ?_) (λx c=>h x (kW _ c));exact kX Oc (h b sN)
theorem acB{s:Nat}{l:gA}{i:Nat}(h:i<l.length):sD s (l.take (i+1))=sD s (l.take i)|||2^l.getD i 0:=by
 grind [sD,List.take_add_one]
def oz(P:Nat):Nat->Nat->Nat->gA
 |0,_,s=>[s]
 |t+1,a,s=>(List.range (P-t-a)).flatMap λd=>oz P t (a+d+1) (s|||2^(a+d))
theorem Tp{f:Nat->gA}{d:Nat}:∀{D:Nat},d<=D->(List.range d).flatMap f<+:(List.range D).flatMap f
 |0,h=>by
  grind
 |D+1,h=>by
  by_cases e:d=D+1
  ·grind
  ·refine(Tp (D:=D) Oa).trans ?_
   grind [List.range_succ]
theorem GZ{f:Nat->gA}{d D:Nat}{q:gA}(h:d<D)(a:q<+:f d):(List.range d).flatMap f++q<+:(List.range D).flatMap f:=by
 refine List.IsPrefix.trans ?_ (Tp (show d+1<=D from h));rw[jc,akF];exact OK
theorem ae9{f:Nat->gA}{d D:Nat}(h:d<D):((List.range d).flatMap f).length+(f d).length<=((List.range D).flatMap f).length:=by
 have:=(GZ (f:=f) h (List.prefix_refl (f d))).length_le
 grind
theorem aam(f:Nat->gA)(d:Nat):(List.range (d+1)).flatMap f=(List.range d).flatMap f++f d:=by
 rw[jc,akF];exact On
def lr(all:gA)(s:Nat):Nat:=all.countP λb=>b&&&s==s
def C5(all:gA)(L:gA):Prop:=∀x∈L,∀y∈L,lr all x=lr all y
def nR(all:gA)(L:gA):Int:=match L.getLast? with|none=> -1|some s=>lr all s
theorem abQ(all:gA):nR all []= -1:=rfl
theorem CR(all L:gA)(x:Nat):nR all (L++[x])=lr all x:=by simp[nR]
theorem Ax{all L:gA}(h:0<=nR all L):∃s∈L,nR all L=lr all s:=by
 unfold nR at h⊢
 grind
theorem Ay{all L:gA}(h:¬0<=nR all L):L=[]:=by
 unfold nR at h;cases e:L.getLast? with
 |none=>simpa using e
 |some s=>
  grind
theorem agz(all:gA):C5 all []:=λx a=>by simp at a
theorem XN{all:gA}(x:Nat):C5 all [x]:=λa c b d=>by
 grind
theorem acS{all L:gA}{x:Nat}(h:C5 all L)(g:¬(0<=nR all L/\(lr all x:Int)≠nR all L)):C5 all (L++[x]):=by
 by_cases c:0<=nR all L
 ·obtain⟨s,d,f⟩:=Ax c;have k:lr all x=lr all s:=Oa;have i:∀b∈L++[x],lr all b=lr all s:=λb a=>by
   rcases li.1 a with a|a
   ·exact h b a s d
   grind
  exact λb a e j=>by grind
 grind [Ay,XN]
theorem agy{all L:gA}{x:Nat}(a:0<=nR all L)(c:(lr all x:Int)≠nR all L):¬C5 all (L++[x]):=λh=>by
 obtain⟨s,b,e⟩:=Ax a;have:=h x On s (by simp[b]);exact Oa
theorem agA{all L M:gA}(h:C5 all M)(a:L<+:M):C5 all L:=λx b y c=>h x (a.subset b) y (a.subset c)
theorem xI(all:gA)(s:Nat):lr all s<=all.length:=x5
theorem NK{all:gA}{s j:Nat}(h:j<all.length):lr (all.take (j+1)) s=lr (all.take j) s+if(all.getD j 0&&&s==s)=true then 1 else 0:=by
 grind [lr,List.take_add_one]
def o5(bs:kl):gA:=bs.map (sD 0)
def Iy(bs:kl):Nat:=(bs.getD 0 []).length
noncomputable def uD(P:Nat)(bs:kl)(t:Nat):Int:=by
 classical exact if rC P bs≠0 then rC P bs else if 4<t\/P<t then 1 else if bs.length=0 then 4 else if(bs.any λb=>decide (b.length≠Iy bs))=true then 4 else if C5 (o5 bs) (oz P t 0 0)then 0 else 4
noncomputable def qb(P:Nat)(bs:kl)(t:Nat):Int:=by
 classical exact if uD P bs t=0 then Iy bs else 0
noncomputable def pu(P:Nat)(bs:kl)(t:Nat):Int:=by
 classical exact if uD P bs t=0 then nR (o5 bs) (oz P t 0 0)else 0
structure mV(t P:Nat)(u:gA):Prop where
 len:u.length=t
 asc:∀i,i+1<t->u.getD i 0<u.getD (i+1) 0
 lt:∀i,i<t->u.getD i 0<P
theorem mV.gap{t P:Nat}{u:gA}(h:mV t P u){i:Nat}:∀d,i+d<t->u.getD i 0+d<=u.getD (i+d) 0
 |0,_=>fZ _
 |d+1,c=>by
  have a:=h.gap (i:=i) d Oa;have b:=h.asc (i+d) Oa
  grind
theorem mV.top{t P:Nat}{u:gA}(h:mV t P u){i:Nat}(hi:i<t):u.getD i 0+t<=P+i:=by
 have a:=h.gap (i:=i) (t-1-i) Oa;have b:=h.lt (i+(t-1-i)) Oa;exact Oa
theorem mV.low{t P:Nat}{u:gA}(h:mV t P u){i:Nat}(hi:i<t):i<=u.getD i 0:=by
 have a:=h.gap (i:=0) i Oa
 grind
def NF(t:Nat)(u s:gA):Prop:=∃p,p<t/\(∀j,j<p->u.getD j 0=s.getD j 0)/\u.getD p 0<s.getD p 0
theorem acp{t:Nat}{u s:gA}(h:NF t u s):¬NF t s u:=by
 rintro⟨q,f,a,b⟩;obtain⟨p,e,c,d⟩:=h
 grind
theorem L3{t:Nat}{u s:gA}(b:u.length=t)(a:s.length=t)(h:∀j,j<t->u.getD j 0=s.getD j 0):u=s:=by
 grind [List.ext_getElem]
theorem NH{t:Nat}{u s:gA}(c:u.length=t)(b:s.length=t):u=s\/NF t u s\/NF t s u:=by
 have f:∀k,k<=t->(∀j,j<k->u.getD j 0=s.getD j 0)\/NF t u s\/NF t s u:=by
  intro k
  induction k with
  |zero=>grind
  |succ k d=>
   intro g;rcases d Oa with h|h
   ·rcases ny (u.getD k 0) (s.getD k 0)with e|e|e
    ·exact .inr (.inl ⟨k,by omega,h,e⟩)
    ·grind
    ·exact .inr (.inr ⟨k,by omega,λj a=>(h j a).symm,e⟩)
   grind
 rcases f t (fZ _)with h|h
 ·exact .inl (L3 c b h)
 grind
def C4(t i:Nat)(s:gA):gA:=(List.range t).map λj=>if j<i then s.getD j 0 else s.getD i 0+1+(j-i)
theorem oR{t i:Nat}{s:gA}{j:Nat}(a:j<t):(C4 t i s).getD j 0=if j<i then s.getD j 0 else s.getD i 0+1+(j-i):=by
 grind [C4]
theorem agq{t P:Nat}{s:gA}(h:∀i,i<t->¬s.getD i 0+t<P+i){u:gA}(b:mV t P u):¬NF t s u:=by
 rintro⟨p,a,_,c⟩;have d:=b.top a
 grind
theorem ajG{t P i:Nat}{s:gA}(b:mV t P s)(hi:i<t)(h:s.getD i 0+t<P+i):mV t P (C4 t i s):=by
 refine⟨by simp[C4],λj a=> ?_,λj a=> ?_⟩
 ·rw[oR Oa,oR a];by_cases c:j+1<i
  ·rw[gl Oa,gl c];exact b.asc j Oa
  ·by_cases d:j+1=i
   ·rw[gl Oa,gh Oa];have:=b.asc j Oa
    grind
   grind
 ·rw[oR a];split
  ·exact b.lt j a
  ·exact Oa
theorem alq{t i:Nat}{s:gA}(hi:i<t):NF t s (C4 t i s):=⟨i,hi,λj a=>by rw[oR Oa,gl a],by rw[oR hi,gh Oa];omega⟩
theorem agp{t P i:Nat}{s:gA}(hi:i<t)(f:∀j,i<j->j<t->¬s.getD j 0+t<P+j){u:gA}(b:mV t P u)(l:NF t s u):u=C4 t i s\/NF t (C4 t i s) u:=by
 obtain⟨p,a,r,g⟩:=l;have v:=b.top a;have x:p<=i:=Nat.le_of_not_lt λk=>f p k a Oa;by_cases e:p=i
 ·subst e;by_cases o:u.getD p 0=s.getD p 0+1
  ·rcases NH b.len (show(C4 t p s).length=t by simp[C4])with h|h|h
   ·grind
   ·exfalso;obtain⟨q,n,w,c⟩:=h;rw[oR n]at c;split at c
    ·grind
    ·have:=b.gap (i:=p) (q-p) Oa
     grind
   grind
  ·exact .inr ⟨p,a,λj d=>by rw[oR Oa,gl d];grind,by rw[oR a,gh Oa];omega⟩
 ·exact .inr ⟨p,a,λj d=>by rw[oR Oa,gl Oa];grind,by rw[oR a,gl Oa];exact g⟩
theorem W5{t P:Nat}(h:t<=P):mV t P (List.range t):=by
 have e:∀i,i<t->(List.range t).getD i 0=i:=λi a=>by grind
 exact⟨k7,λi a=>by grind,λi a=>by grind⟩
theorem WX{t P:Nat}{u:gA}(b:mV t P u):¬NF t u (List.range t):=by
 rintro⟨p,a,_,c⟩;have d:=b.low a
 grind
def NG(t:Nat)(s:gA):Nat->Nat
 |0=>0
 |k+1=>NG t s k*64+s.getD k 0
theorem aco{t:Nat}{u s:gA}(c:∀i,i<t->u.getD i 0<64){p:Nat}(a:∀j,j<p->u.getD j 0=s.getD j 0)(b:u.getD p 0<s.getD p 0):∀k,p<k->k<=t->NG t u k<NG t s k
 |k+1,d,f=>by
  unfold NG;by_cases e:k=p
  ·subst e;have:∀m,m<=k->NG t u m=NG t s m:=λm=>by
    induction m with
    |zero=>intro _;rfl
    |succ m g=>grind [NG]
   grind
  ·have:=aco c a b k Oa Oa
   grind
theorem acn{t:Nat}{s:gA}(a:∀i,i<t->s.getD i 0<64):∀k,k<=t->NG t s k<64^k
 |0,_=>by simp[NG]
 |k+1,c=>by
  have b:=acn a k Oa
  grind [NG]
theorem Fr(i:Nat):∀(l:gA)(s:Nat),(sD s l).testBit i=(s.testBit i||decide (i∈l))
 |[],s=>by simp[sD]
 |p::l,s=>by
  have h:=Fr i l (s|||2^p);have e:sD s (p::l)=sD (s|||2^p) l:=rfl
  grind
theorem jX{b u:gA}:(sD 0 b&&&sD 0 u=sD 0 u)↔∀p∈u,p∈b:=by
 constructor
 ·intro h p c;have a:=jA (·.testBit p) h;simp only[Nat.testBit_and,Fr,Nat.zero_testBit,kS]at a
  grind
 ·intro h;refine Nat.eq_of_testBit_eq λi=> ?_;simp only[Nat.testBit_and,Fr,Nat.zero_testBit,kS]
  grind
def oA(bs:kl)(u:gA):Nat:=bs.countP λb=>u.all λp=>decide (p∈b)
theorem xA(bs:kl)(u:gA):lr (o5 bs) (sD 0 u)=oA bs u:=by
 unfold lr o5 oA;rw[List.countP_map];congr 1;funext b;simp only[Function.comp];rw[lh,kz,jX,gF];exact On
theorem CD{P:Nat}:∀(t a s x:Nat),x∈oz P t a s↔∃c:gA,mV t P c/\(∀p∈c,a<=p)/\x=sD s c
 |0,a,s,x=>by
  unfold oz;rw[jM];constructor
  ·rintro rfl;exact⟨[],⟨rfl,λi h=>by omega,λi h=>by omega⟩,by simp,rfl⟩
  ·rintro⟨c,b,_,rfl⟩;obtain rfl:=iX b.len;rfl
 |t+1,a,s,x=>by
  unfold oz;simp only[List.mem_flatMap,gC,CD t];constructor
  ·rintro⟨f,n,c,b,e,rfl⟩;refine⟨(a+f)::c,⟨by simp[b.len],λi d=> ?_,λi d=> ?_⟩,λp o=> ?_,rfl⟩
   ·cases i with
    |zero=>
     have k:0<c.length:=by rw[b.len];omega
     grind [List.getElem_mem]
    |succ i=>exact b.asc i Oa
   ·cases i with
    |zero=>simp;omega
    |succ i=>exact b.lt i Oa
   grind
  ·rintro⟨c,b,e,rfl⟩;obtain⟨p,r,rfl⟩:=JG (show 0<c.length by rw[b.len];omega);have q:=e p On;have j:=b.top (i:=0) Oa;simp only[iq]at j;refine⟨p-a,by omega,r,⟨by have:=b.len;grind,λi d=>by have:=b.asc (i+1) Oa;grind,λi d=>by have:=b.lt (i+1) Oa;grind⟩,λv g=> ?_,?_⟩
   ·obtain⟨i,d,rfl⟩:=je g;have l:=b.gap (i:=0) (i+1) (by have:=b.len;grind)
    grind
   ·rw[show a+(p-a)=p by omega];rfl
theorem Vq{P t:Nat}{bs:kl}:C5 (o5 bs) (oz P t 0 0)↔∀a v,mV t P a->mV t P v->oA bs a=oA bs v:=by
 constructor
 ·intro h a v b c;have:=h (sD 0 a) ((CD t 0 0 _).2 ⟨a,b,λp _=>ge p,rfl⟩) (sD 0 v) ((CD t 0 0 _).2 ⟨v,c,λp _=>ge p,rfl⟩)
  grind [xA]
 ·intro h x d y e;obtain⟨a,b,_,rfl⟩:=(CD t 0 0 _).1 d;obtain⟨v,c,_,rfl⟩:=(CD t 0 0 _).1 e
  grind [xA]
theorem ajr{P t:Nat}{bs:kl}{u:gA}(c:mV t P u)(h:C5 (o5 bs) (oz P t 0 0)):nR (o5 bs) (oz P t 0 0)=(oA bs u:Nat):=by
 have a:sD 0 u∈oz P t 0 0:=(CD t 0 0 _).2 ⟨u,c,λp _=>ge p,rfl⟩;obtain⟨L,s,e⟩:∃L s,oz P t 0 0=L++[s]:=⟨_,_,(R9 (List.ne_nil_of_mem a)).symm⟩;rw[e,CR];have b:=h _ a s (by grind);rw[<-b,xA]
theorem aik{l m:gP}{i:Nat}(hi:i<m.length)(h:decide (m[i]?.getD 0∈l)=false):(m.all λp=>decide (p∈l))=false:=by
 grind
theorem aeT{l m:gP}(h:∀i,i<m.length->decide (m[i]?.getD 0∈l)=true):(m.all λp=>decide (p∈l))=true:=by
 rw[gF];intro p a;obtain⟨i,b,rfl⟩:=je a
 grind
theorem adc(v u:Value)(l m:gP)(w:World)(b:Sl w v l)(t:Sl w u m):
 Calls prog 161 #[v,u] w λe C=>e= .returned (.bool (m.all λp=>decide (p∈l)))/\w=C:=by
 have f:=gb (λx=>Iq v l x w b);have g:=gb (λH r h=>aik (l:=l) (m:=m) (i:=H) r h);have k:=gb (λh=>aeT (l:=l) (m:=m) h);obtain⟨F,I,N,rfl,z,K,o⟩:=t.open;obtain⟨P,Q,rfl⟩:=b.len;rw[z.out]at g k;clear t b;generalize (m.all λp=>decide (p∈l))=R at*;generalize l.length=M at*;go_enter func161,ntmps161;go_wp2;go_loopw [5,6] (λc _ wr=>∃H:Nat,c= .int .i64 H/\H<=N/\Hid (∀j,j<H->decide (m[j]?.getD 0∈l)=true)/\w=wr) (λc _ _=>N-(intOf c).toNat)
 case atStart=>exact⟨0,rfl,ge _,gb (λj B=>by omega),rfl⟩
 case round=>
  obtain⟨H,rfl,r,HH,rfl⟩:=hrel;by_cases s:H<N
  ·have A:(H:Int)<N:=(by omega);obtain⟨G,O,rfl,J,q⟩:=o Oa;have L:=q H s;have a:=gb (f.out (m[H]?.getD 0));have i:=gb (g.out H s);have d:=gb (λ(h:decide (m[H]?.getD 0∈l)=true)=>(show∀j,j<H+1->decide (m[j]?.getD 0∈l)=true from λj B=>Pi));clear HH q o f;obtain⟨D,n⟩:∃D,decide (m[H]?.getD 0∈l)=D:=⟨_,rfl⟩;rw[n]at a i d;clear n;generalize m[H]?.getD 0=x at*;cases D with
   |true=>
    have y:=gb (d.out rfl);go_wp2_with fail;refine a.out.mono ?_;rintro e E ⟨rfl,rfl⟩;go_wp2;go_roundw
    case rel=>exact⟨H+1,by go_num,by omega,y,by grind⟩
    case measure=>exact gQ
   |false=>
    have HR:=gb (i.out rfl);go_wp2_with fail;refine a.out.mono ?_;rintro e E ⟨rfl,rfl⟩;exact OG
  ·obtain rfl:H=N:=(by omega);have A:¬(H:Int)<H:=Oa;have HR:=gb (k.out HH.out);exact OG
def Gn(t i:Nat)(s:gA)(k:Nat):gA:=(List.range t).map λj=>if j<i then s.getD j 0 else if j<k then s.getD i 0+1+(j-i)else s.getD j 0
theorem FB(t i:Nat)(s:gA)(k:Nat):(Gn t i s k).length=t:=by simp[Gn]
theorem wB{t i:Nat}{s:gA}{k j:Nat}(a:j<t):(Gn t i s k)[j]? =some (if j<i then s.getD j 0 else if j<k then s.getD i 0+1+(j-i)else s.getD j 0):=by
 grind [Gn]
theorem ags{t i:Nat}{s:gA}{k j:Nat}(b:j<t)(c:i<=j)(a:j<k):(Gn t i s k).getD j 0=s.getD i 0+1+(j-i):=by
 rw[gc,wB b,gh Oa,gl a];rfl
theorem XK{t i:Nat}{s:gA}(b:s.length=t)(hi:i<t):s.set i (s.getD i 0+1)=Gn t i s (i+1):=by
 refine ib λj=> ?_;rw[jx];by_cases a:j<t
 ·rw[wB a]
  grind
 ·rw[gh Oa,iO Oa,iO Kh]
theorem acP{t i k:Nat}{s:gA}(hi:i<k)(b:k<t):(Gn t i s k).set k (s.getD i 0+1+(k-i))=Gn t i s (k+1):=by
 refine ib λj=> ?_;rw[jx,FB];by_cases a:j<t
 ·rw[wB a,wB a]
  grind
 ·rw[gh Oa,iO Kh,iO Kh]
theorem agr(t i:Nat)(s:gA):Gn t i s t=C4 t i s:=by
 unfold Gn C4;exact OK
theorem zt(l:gA)(k x:Nat):(jj l).set k (x:Int)=jj (l.set k x):=by unfold jj;rw[pG]
theorem IE(P t B:Nat)(v:Value)(s:gA)(w:World)(b:OI B w v (jj s))(hB:B<=w.heap.size)(S:s.length=t)(hP:P<=64)(aC:t<=P)(ah:∀i,i<t->s.getD i 0<64):
 Calls prog 162 #[v,.int .i64 P] w λe a=>((∃i,i<t/\s.getD i 0+t<P+i/\(∀j,i<j->j<t->¬s.getD j 0+t<P+j)/\e= .returned (.bool true)/\OI B a v (jj (C4 t i s)))\/((∀i,i<t->¬s.getD i 0+t<P+i)/\e= .returned (.bool false)/\OI B a v (jj s)))/\Below B w a:=by
 obtain⟨r,n,rfl⟩:=b.len
 have V:=gd (0<t->∃g,r=some ⟨g,0,none⟩/\B<=g) (λG=>by
  obtain⟨g,c2,e,c,d⟩:=b.form (by grind [jw])
  grind)
 have ai:(jj s).length=t:=by rw[jw,S]
 rw[ai]at b⊢;have L:=gd (∀g i,OI B w (.slice (some ⟨g,0,none⟩) t n) (jj s)->i<t->w.cell? ⟨g,i,none⟩=some (.int .i64 (s.getD i 0:Nat))) (λg i G o=>by rw[G.cell i Oa,mL]);have C:=gd (∀i,i<t->(jj s).set i (((s.getD i 0:Nat):Int)+1)=jj (Gn t i s (i+1))) (λi o=>by rw[<-XK S o,<-zt];rfl);have F:=gd (∀i k,i<k->k<t->(jj (Gn t i s k)).set k (((s.getD i 0+1+(k-i):Nat):Int))=jj (Gn t i s (k+1))) (λi k o hk=>by rw[<-acP o hk,<-zt]);have M:=gd (∀i k,(jj (Gn t i s k)).length=t) (λi k=>by rw[jw,FB]);have E:=gd (∀i k j,j<t->i<=j->j<k->(jj (Gn t i s k)).getD j 0=(s.getD i 0+1+(j-i):Nat)) (λi k j c d h3=>by grind [mL,ags]);have D:=gd (∀i,jj (Gn t i s t)=jj (C4 t i s)) (λi=>by rw[agr]);have A:=gb b;have Z:=gb ah;clear b S ai ah;obtain⟨q,ad⟩:∃q:Nat->gP,∀i,jj (C4 t i s)=q i:=⟨λi=>jj (C4 t i s),λi=>rfl⟩;simp only[ad]at D⊢;clear ad;obtain⟨N,ae⟩:∃N:Nat->Nat->gP,∀i k,jj (Gn t i s k)=N i k:=⟨λi k=>jj (Gn t i s k),λi k=>rfl⟩;simp only[ae]at C F M E D;clear ae;obtain⟨f,hf⟩:∃f:Nat->Nat,∀i,s.getD i 0=f i:=⟨λi=>s.getD i 0,λi=>rfl⟩;simp only[hf]at L C F E Z⊢;clear hf;generalize jj s=SL at*;obtain⟨K,H⟩:∃K:Ending->World->Prop,∀e a,K e a↔(((∃i,i<t/\f i+t<P+i/\(∀j,i<j->j<t->¬f j+t<P+j)/\e= .returned (.bool true)/\OI B a (.slice r t n) (q i))\/((∀i,i<t->¬f i+t<P+i)/\e= .returned (.bool false)/\OI B a (.slice r t n) SL))/\Below B w a):=⟨_,λe a=>Iff.rfl⟩;have W:=gb (λa i (c:i<t) (d:f i+t<P+i) (h3:∀j,i<j->j<t->¬f j+t<P+j) (O:OI B a (.slice r t n) (q i)) (Q:Below B w a)=>(H (.returned (.bool true)) a).2 ⟨.inl ⟨i,c,d,h3,rfl,O⟩,Q⟩);have X:=gb (λa (c:∀i,i<t->¬f i+t<P+i) (O:OI B a (.slice r t n) SL) (Q:Below B w a)=>(H (.returned (.bool false)) a).2 ⟨.inr ⟨c,rfl,O⟩,Q⟩);refine Calls.mono (R:=K) ?_ (λe a G=>(H e a).1 G);clear H;go_enter func162,ntmps162;go_wp2;go_loopw [6,7] (λT _ wr=>∃m:Nat,T= .int .i64 ((m:Int)-1)/\m<=t/\Hid (∀j,m<=j->j<t->¬f j+t<P+j)/\w=wr) (λT _ _=>(intOf T+1).toNat)
 case atStart=>exact⟨t,by go_num,fZ _,gb (λj c d=>by omega),rfl⟩
 case round=>
  obtain⟨m,rfl,J,p,rfl⟩:=hrel;by_cases ar:m=0
  ·subst ar;have HZ:=gb (X.out w (λi o=>p.out i (ge _) o) A.out (f0 _ _));exact OO
  ·obtain⟨i,rfl⟩:∃i,m=i+1:=⟨m-1,by omega⟩;have e1:((i+1:Nat):Int)-1=i:=Oa;rw[e1];obtain⟨g,rfl,hg⟩:=V.out Oa;have hc:=L.out g i A.out J;have af:=A.out.frozen i;have hx:=Z.out i J;have aa:=gb (C.out i J);have Y:=gb (λa=>W.out a i J);have ax:(i:Int)<t:=Oa;by_cases I:f i+t<P+i
   ·have aj:=gb (λa=>Y.out a I (λj c d=>p.out j Oa d));have am:=gb (λk=>F.out i k);have ab:=gb (λk=>M.out i k);have al:=gb (λk=>E.out i k);have ak:=gb (D.out i);obtain⟨h,z⟩:=A.out.stored i (((f i:Nat):Int)+1);rw[aa.out]at h;have l:=gR h ((f0 B w).grown z hB (λk e=>by grind));clear h z W X Y p L C F M E D aa V e1;generalize N i=ac at*;generalize q i=NI at*;have au:=gb I;have ap:((f i:Nat):Int)<P-t+i:=Oa;generalize f i=x at*;clear I;go_wp2;go_loopw [7] (λU wq=>∃k:Nat,U= .int .i64 k/\i+1<=k/\k<=t/\OI B wq (.slice (some ⟨g,0,none⟩) t n) (ac k)/\Below B w wq) (λU _=>t-(intOf U).toNat)
    case atStart=>exact⟨i+1,by go_num,fZ _,by omega,l.out.1,l.out.2⟩
    case round=>
     clear l hc af;obtain⟨k,rfl,ay,aA,b,y⟩:=hrel;by_cases ag:k<t
     ·have aq:(k:Int)<t:=(by omega);have an:=b.cell (k-1) (by rw[ab.out];omega);rw[al.out k (k-1) Oa Oa Oa]at an;have af:=b.frozen k;have ao:=b.cell k (by rw[ab.out];exact ag);obtain⟨h,z⟩:=b.stored k (((x+1+(k-i):Nat):Int));rw[am.out k Oa ag]at h;have l:=gR h (y.grown z (by have:=y.size;omega) (λaD e=>by cases e;exact hg));have hv:((x+1+(k-1-i):Nat):Int)+1=((x+1+(k-i):Nat):Int):=Oa;have aw:x+1+(k-i)<=200:=Oa;have aB:(k:Int)-1=((k-1:Nat):Int):=Oa;have az:k-1<t:=Oa;clear b y h z;generalize x+1+(k-1-i)=aE at*;generalize x+1+(k-i)=aF at*;obtain⟨u,hu⟩:∃u,(ac k).getD k 0=u:=⟨_,rfl⟩;rw[hu]at ao;clear hu;generalize k-1=k1 at*;go_wp2;go_roundw
      case rel=>exact⟨k+1,by go_num,by omega,by omega,l.out.1,l.out.2⟩
      case measure=>exact gQ
     ·obtain rfl:k=t:=(by omega);have aq:¬(k:Int)<k:=Oa;have HZ:=gb (aj.out wr (b.cast ak.out) y);clear b y;exact OO
   ·have ap:¬((f i:Nat):Int)<P-t+i:=by omega
    have av:=gb (show∀j,i<=j->j<t->¬f j+t<P+j from λj c d=>by
     by_cases e:j=i
     ·grind
     ·exact p.out j Oa d)
    clear p I;generalize f i=x at*;exact Rp
def Zd(n:Nat)(l:gA)(a c R:Nat):Bool:=(List.range R).all λr=>decide (l.getD (a+n*r) 0≠c)
def Zc(n:Nat)(l:gA)(a c:Nat):Bool:= !decide (c∈l.drop (l.length-a))&&Zd n l a c ((l.length-a)/n)
def xa(n:Nat):Nat->gA->Option gA
 |0,l=>some l
 |k+1,l=>(List.range' 0 n).findSome? λc=>if Zc n l (n-(k+1)) c then xa n k (l++[c])else none
def exS(n k:Nat)(l C:gA):Option gA:=C.findSome? λc=>if Zc n l (n-(k+1)) c then xa n k (l++[c])else none
theorem aaX(n k:Nat)(l:gA):xa n (k+1) l=exS n k l (List.range' 0 n):=rfl
theorem afI(n k:Nat)(l:gA):exS n k l []=none:=rfl
theorem ai9{n k c:Nat}{l C:gA}(h:Zc n l (n-(k+1)) c=false\/xa n k (l++[c])=none):exS n k l (c::C)=exS n k l C:=by
 grind [exS]
theorem afJ{n k c:Nat}{l C r:gA}(h:Zc n l (n-(k+1)) c=true)(a:xa n k (l++[c])=some r):exS n k l (c::C)=some r:=by
 unfold exS
 grind
theorem I3{n c:Nat}(h:c<n):List.range' c (n-c)=c::List.range' (c+1) (n-(c+1)):=by
 rw[show n-c=(n-(c+1))+1 by omega,qt]
theorem agM(n:Nat):List.range' n (n-n)=[]:=by grind
theorem E5{n:Nat}:∀k (l m:gA),xa n k l=some m->m.length=l.length+k
 |0,l,m,h=>by cases h;rfl
 |k+1,l,m,h=>by
  rw[xa,lI]at h;obtain⟨_,c,_,_,a,_⟩:=h;split at a
  ·have:=E5 k _ m a
   grind
  ·cases a
theorem L6{n:Nat}:∀k (l m:gA),(∀x∈l,x<n)->xa n k l=some m->∀x∈m,x<n
 |0,l,m,b,h=>by cases h;exact b
 |k+1,l,m,b,h=>by
  rw[xa,lI]at h;obtain⟨g,c,i,e,a,_⟩:=h;have d:c<n:=by
   grind
  split at a
  ·refine L6 k _ m (λx f=> ?_) a
   grind
  ·cases a
def BD(n:Nat):Nat->gA->Option gA
 |0,l=>some l
 |r+1,l=>match xa n n l with
  |some m=>BD n r m
  |none=>none
theorem TP{n:Nat}:∀r (l m:gA),BD n r l=some m->m.length=l.length+n*r
 |0,l,m,h=>by cases h;rfl
 |r+1,l,m,h=>by
  rw[BD]at h;split at h
  ·rename_i a b;have c:=E5 n l a b;have d:=TP r a m h
   grind
  ·exact Sb
theorem aaV{n:Nat}:∀r (l m:gA),(∀x∈l,x<n)->BD n r l=some m->∀x∈m,x<n
 |0,l,m,a,h=>by cases h;exact a
 |r+1,l,m,a,h=>by
  rw[BD]at h;split at h
  ·rename_i b c;exact aaV r b m (L6 n l b a c) h
  ·exact Sb
def oP(n:Nat)(l:gA):Bool:=(List.range l.length).any λi=>(List.range i).any λj=>decide (l.getD i 0=l.getD j 0)&&(decide (i/n=j/n)||decide (i%n=j%n))
def Cp(n:Nat)(l:gA)(i k:Nat):Bool:=(List.range i).any λj=>decide (j/n*8+l.getD j 0=k)
def Co(n:Nat)(l:gA)(i k:Nat):Bool:=(List.range i).any λj=>decide (j%n*8+l.getD j 0=k)
theorem YV(n:Nat)(l:gA)(i k:Nat):Cp n l (i+1) k=(Cp n l i k||decide (i/n*8+l.getD i 0=k)):=by
 grind [Cp]
theorem YU(n:Nat)(l:gA)(i k:Nat):Co n l (i+1) k=(Co n l i k||decide (i%n*8+l.getD i 0=k)):=by
 grind [Co]
theorem akd{n:Nat}{l:gA}(c:n<=8)(b:∀i,i<l.length->l.getD i 0<n){i:Nat}(hi:i<l.length)(h:Cp n l i (i/n*8+l.getD i 0)=true):oP n l=true:=by
 unfold Cp at h;rw[iG]at h;obtain⟨j,a,e⟩:=h;have a:=gC.1 a
 grind [oP]
theorem akc{n:Nat}{l:gA}(f:n<=8)(b:∀i,i<l.length->l.getD i 0<n){i:Nat}(hi:i<l.length)(h:Co n l i (i%n*8+l.getD i 0)=true):oP n l=true:=by
 unfold Co at h;rw[iG]at h;obtain⟨j,a,e⟩:=h;have a:=gC.1 a;have c:=b i hi;have d:=b j Oa;unfold oP
 grind
theorem akg{n:Nat}{l:gA}(h:∀i,i<l.length->Cp n l i (i/n*8+l.getD i 0)=false/\Co n l i (i%n*8+l.getD i 0)=false):oP n l=false:=by
 cases a:oP n l with
 |false=>rfl
 |true=>
  unfold oP at a;rw[iG]at a;obtain⟨i,b,a⟩:=a;rw[iG]at a;obtain⟨j,g,e⟩:=a;have b:=gC.1 b;rw[ia,kD]at e;obtain⟨d,f⟩:=h i b;rcases e.2 with c|c
  ·grind [Cp]
  ·grind [Co]
def qM(f:Nat->Bool):np:=(List.range 64).map λk=> .bool (f k)
theorem zR(f:Nat->Bool):(qM f).length=64:=by simp[qM]
theorem vN(f:Nat->Bool){k:Nat}(h:k<64):(qM f)[k]? =some (.bool (f k)):=by
 grind [qM]
theorem GQ{f g:Nat->Bool}{k:Nat}(b:k<64)(h:∀j,g j=(f j||decide (k=j))):(qM f).set k (.bool true)=qM g:=by
 refine ib λj=> ?_;rw[jx];by_cases a:j<64
 ·by_cases e:k=j
  ·subst e;rw[gl rfl,gl (by grind [zR]),vN _ b,h];exact On
  ·rw[gh e,vN _ a,vN _ a,h];simp[e]
 ·rw[iO (l:=qM g) (by rw[zR];omega),gh Oa,iO (by rw[zR];omega)]
def xu(n:Nat):gA->kl->Int
 |a,[]=>if oP n a then 6 else 0
 |a,r::rs=>if r.length≠n then 2 else if r.any (λc=>decide (n<=c))then 1 else xu n (a++r) rs
def po(n:Nat)(rs:kl):Int:=if n<1\/8<n then 1 else if n<rs.length then 3 else xu n [] rs
def nh(n:Nat)(rs:kl):Int:=if po n rs≠0 then po n rs else if(BD n (n-rs.length) rs.flatten).isNone then 4 else 0
def tg(n:Nat)(rs:kl):gA:=((BD n (n-rs.length) rs.flatten).getD [])
structure J4(n R c:Nat)(l:gA):Prop where
 len:l.length=n*R+c
 cn:c<=n
 lt:∀k,k<l.length->l.getD k 0<n
 row:∀r i j,i<j->j<n->n*r+j<l.length->l.getD (n*r+i) 0≠l.getD (n*r+j) 0
 col:∀j a b,a<b->j<n->n*b+j<l.length->l.getD (n*a+j) 0≠l.getD (n*b+j) 0
theorem tj{l:gA}{x k:Nat}:(l++[x]).getD k 0=if k=l.length then x else l.getD k 0:=by
 grind
def dcF(n:Nat)(l:gA)(x:Nat):Bool:=(List.range l.length).all λk=>decide (l.getD k 0≠x)||(decide (k/n≠l.length/n)&&decide (k%n≠l.length%n))
theorem E3{n R c x:Nat}{l:gA}(j:0<n)(p:l.length=n*R+c)(o:c<n):Zc n l c x=true↔(∀i,i<c->l.getD (n*R+i) 0≠x)/\∀r,r<R->l.getD (n*r+c) 0≠x:=by
 have b:l.length-c=n*R:=Oa;have d:n*R/n=R:=Nat.mul_div_cancel_left _ j;unfold Zc Zd;rw[b,d];simp only[ia,pE,kw,gF,gC,iK];constructor
 ·rintro⟨a,f⟩;refine⟨λi g e=>a ?_,λr k=>by grind⟩;rw[<-e,gc,gn Oa,iQ];exact Zp.2 ⟨i,by omega,rfl⟩
 ·rintro⟨a,f⟩;refine⟨λh=> ?_,λr k=>by grind⟩;obtain⟨i,g,e⟩:=Zp.1 h;refine a i Oa ?_
  grind
theorem dm{n r c:Nat}(a:c<n):(n*r+c)/n=r/\(n*r+c)%n=c:=by
 rw[Nat.mul_add_div Oa,Nat.mul_add_mod,qu a,ox a];exact Oa
theorem aiX{n R c x:Nat}{l:gA}(d:l.length=n*R+c)(b:c<n):dcF n l x=Zc n l c x:=by
 have i:0<n:=Oa;rw[lh,E3 i d b];unfold dcF;obtain⟨a,e⟩:=dm (r:=R) b;simp only[gF,gC,kD,ia,iK,d,a,e];constructor
 ·intro p;refine⟨λw t=> ?_,λr j=> ?_⟩
  ·grind [dm]
  ·have:n*r+n<=n*R:=by rw[<-mb];exact iI _ j
   grind [dm]
 ·rintro⟨q,g⟩ k v;have h:=jN k n;by_cases o:k/n=R
  ·grind
  ·by_cases f:k%n=c
   ·left;rw[<-h,f];refine g _ ?_;have s:k/n<=R:=by
     rw[<-a];exact Nat.div_le_div_right Oa
    exact Oa
   exact Oa
theorem J4.snoc{n R c x:Nat}{l:gA}(h:J4 n R c l)(d:c<n)(t:x<n)(q:Zc n l c x=true):J4 n R (c+1) (l++[x]):=by
 obtain⟨y,z⟩:=(E3 Oa h.len d).1 q;have A:(l++[x]).length=n*R+c+1:=by rw[gz,h.len];rfl
 refine⟨by omega,by omega,λw i=> ?_,λr v j s a i=> ?_,λj f b g a i=> ?_⟩
 ·rw[tj];split
  ·exact t
  ·exact h.lt w (by grind)
 ·rw[tj,tj,gh (by grind)];split
  ·rename_i e;have e:n*r+j=n*R+c:=(by grind);have k:r=R/\j=c:=by
    have o:=dm (r:=r) a;have p:=dm (r:=R) d
    grind
   grind
  ·exact h.row r v j s a (by grind)
 ·have B:n*f+n<=n*b:=(by rw[<-mb];exact iI _ g);rw[tj,tj,gh (by grind)];split
  ·rename_i e;have e:n*b+j=n*R+c:=(by grind);have k:b=R/\j=c:=by
    have o:=dm (r:=b) a;have p:=dm (r:=R) d
    grind
   grind
  ·exact h.col j f b g a (by grind)
theorem J4.full{n R:Nat}{l:gA}(h:J4 n R n l):J4 n (R+1) 0 l:=⟨by rw[h.len,mb];rfl,ge _,h.lt,h.row,h.col⟩
theorem E4{n R:Nat}:∀(k:Nat)(l m:gA),k<=n->J4 n R (n-k) l->xa n k l=some m->J4 n (R+1) 0 m
 |0,l,m,_,h,e=>by cases e;exact J4.full h
 |k+1,l,m,f,h,e=>by
  rw[xa,lI]at e;obtain⟨i,c,j,g,a,_⟩:=e;have b:c<n:=by
   grind
  split at a
  ·rename_i d;refine E4 k _ m Oa ?_ a;have:=h.snoc Oa b d
   grind
  ·cases a
theorem Hl{n:Nat}(e:Nat->Nat):∀(k:Nat)(l:gA),k<=n->(∀i,i<k->e (n-k+i)<n/\Zc n (l++(List.range i).map λt=>e (n-k+t)) (n-k+i) (e (n-k+i))=true)->xa n k l≠none
 |0,l,_,_=>by simp[xa]
 |k+1,l,o,h=>by
  intro c;rw[xa,sK]at c;obtain⟨g,d⟩:=h 0 Oa;have a:=c (e (n-(k+1))) (Gd.2 (by grind));rw[kp]at d;rw[gl (by grind)]at a;refine Hl e k _ Oa (λi j=> ?_) a;have b:=h (i+1) Oa;rw[show n-(k+1)+(i+1)=n-k+i by omega,wW,jG,jL]at b;rw[iN];refine⟨b.1,?_⟩;have f:(λt=>e (n-k+t))=((λt=>e (n-(k+1)+t))∘Nat.succ):=by
   funext t;show e _=e _;congr 1;exact Oa
  grind
theorem aaW{n R:Nat}{l:gA}(h:J4 n R 0 l)(O:R<n):xa n n l≠none:=by
 have G:0<n:=Oa;have F:l.length=n*R:=h.len;have s:∀r j,r<R->j<n->n*r+j<l.length:=λr j f b=>by
  have:n*r+n<=n*R:=(by rw[<-mb];exact iI _ f);exact Oa
 have H:∀r,r<R->∀k j,k<n->j<n->l.getD (n*r+k) 0=l.getD (n*r+j) 0->k=j:=λr f k j t b o=>by
  rcases ny k j with a|a|a
  ·exact absurd o (h.row r k j a b (s r j f b))
  ·exact a
  ·exact absurd o.symm (h.row r j k a t (s r k f t))
 have D:∀j,j<n->∀e i,e<R->i<R->l.getD (n*e+j) 0=l.getD (n*i+j) 0->e=i:=λj b e i p q o=>by
  rcases ny e i with a|a|a
  ·exact absurd o (h.col j e i a b (s i j q b))
  ·exact a
  ·exact absurd o.symm (h.col j i e a b (s e j p b))
 have x:∀r c,∃j,r<R->c<n->j<n/\l.getD (n*r+j) 0=c:=λr c=>by
  by_cases f:r<R/\c<n
  ·obtain⟨f,a⟩:=f;have o:=zc (n:=n) (g:=λj=>l.getD (n*r+j) 0) (R:=n) (λj b=>h.lt _ (s r j f b)) (λe i p q=>H r f e i p q);refine gx λP=> ?_
   have M:mj n (λc=>(List.range n).any λj=>decide (l.getD (n*r+j) 0=c))<mj n (λ_=>true):=aas (a:=c) (λ_ _ _=>rfl) a rfl (by
    grind)
   have N:∀m,mj m (λ_=>true)=m:=λm=>MR
   grind
  grind
 have c1:∀j,j<n->mj n (λc=> !(List.range R).any λr=>decide (l.getD (n*r+j) 0=c))=n-R:=λj b=>by
  have y:=EO n (λc=>(List.range R).any λr=>decide (l.getD (n*r+j) 0=c));have z:=zc (n:=n) (g:=λr=>l.getD (n*r+j) 0) (R:=R) (λr f=>h.lt _ (s r j f b)) (λe i p q=>D j b e i p q);exact Oa
 have c2:∀c,c<n->mj n (λj=> !(List.range R).any λr=>decide (l.getD (n*r+j) 0=c))=n-R:=λc a=>by
  have y:=EO n (λj=>(List.range R).any λr=>decide (l.getD (n*r+j) 0=c))
  have z:=zc (n:=n) (g:=λr=>Classical.choose (x r c)) (R:=R) (λr f=>(kh (x r c) f a).1) (λe i p q o=>by
   grind)
  have J:mj n (λj=>(List.range R).any λr=>decide (l.getD (n*r+j) 0=c))=mj n (λj=>(List.range R).any λr=>decide (Classical.choose (x r c)=j)):=by
   refine Nat.le_antisymm (mD λj b E=> ?_) (mD λj b E=> ?_)
   ·grind
   grind
  exact Oa
 obtain⟨w,B,K⟩:=lM (Nl (A:=λj c=> !(List.range R).any λr=>decide (l.getD (n*r+j) 0=c)) (d:=n-R) Oa c1 c2);refine Hl w n l (fZ _) λk t=> ?_;rw[jU,iL];obtain⟨C,L⟩:=B k t;refine⟨C,(E3 G (R:=R) (by grind) t).2 ⟨λv I=> ?_,λr f=> ?_⟩⟩
 ·have o:(l++(List.range k).map λv=>w (0+v)).getD (n*R+v) 0=w v:=by
   rw[gc,<-F,jE Oa,Nat.add_sub_cancel_left,gY,i7 I];exact On
  grind
 grind
def He(n:Nat):Nat->gA->Option gA
 |0,l=>some l
 |k+1,l=>(List.range' 0 n).findSome? λx=>if dcF n l x then He n k (l++[x])else none
theorem CN{a b f:Type}{g:a->Option b}{h:b->Option f}:∀{L:List a},(∀c∈L,∀m,g c=some m->h m≠none)->L.findSome? (λc=>(g c).bind h)=(L.findSome? g).bind h
 |[],_=>rfl
 |c::L,e=>by
  rw[lm,lm];cases i:g c with
  |none=>
   simp only[Option.bind_none];exact CN λc d=>e c (kW _ d)
  |some m=>
   grind
theorem Tz{n R k2:Nat}(H:∀m,J4 n (R+1) 0 m->He n k2 m≠none):∀(k:Nat)(l:gA),k<=n->J4 n R (n-k) l->He n (k2+k) l=(xa n k l).bind (He n k2)
 |0,l,_,_=>rfl
 |k+1,l,f,h=>by
  rw[<-BN,He,xa,<-CN]
  ·refine findSome?_congr' λc e=> ?_;have a:c<n:=(by grind);rw[aiX h.len Oa];split
   ·rename_i b;refine Tz H k _ Oa ?_;have:=h.snoc Oa a b
    grind
   ·rfl
  ·intro c e m d;have a:c<n:=(by grind);split at d
   ·rename_i b;refine H m (E4 k _ m Oa ?_ d);have:=h.snoc Oa a b
    grind
   ·cases d
where
 findSome?_congr' {α β:Type} {f g:α->Option β}:∀{L:List α},(∀c∈L,f c=g c)->L.findSome? f=L.findSome? g
  |[],_=>rfl
  |c::L,h=>by
   rw[lm,lm,h c sN];cases g c with
   |none=>exact findSome?_congr' λc hc=>h c (kW _ hc)
   |some x=>rfl
theorem ER{n:Nat}:∀(q R:Nat)(l:gA),R+q=n->J4 n R 0 l->He n (n*q) l=BD n q l/\BD n q l≠none
 |0,R,l,_,h=>⟨rfl,by simp[BD]⟩
 |q+1,R,l,c,h=>by
  have H:∀m,J4 n (R+1) 0 m->He n (n*q) m=BD n q m/\BD n q m≠none:=λm a=>ER q (R+1) m Oa a;have b:=Tz (k2:=n*q) (λm a=>by rw[(H m a).1];grind) n l (fZ _) (by grind);rw[mb,b,BD];cases e:xa n n l with
  |none=>grind [aaW]
  |some m=>
   have a:=E4 n l m (fZ _) (by rw[jU];exact h) e
   grind
theorem abR{n R:Nat}{l:gA}(h:l.length=n*R)(q:∀x∈l,x<n)(r:oP n l=false):J4 n R 0 l:=by
 have t:∀i j,j<i->i<l.length->l.getD i 0=l.getD j 0->¬(i/n=j/n\/i%n=j%n):=λi j f p e o=>by
  have:oP n l=true:=by
   unfold oP
   grind
  grind
 refine⟨h,ge _,λs a=> ?_,λv i j f g a e=> ?_,λj b c d g a e=> ?_⟩
 ·grind [List.getElem_mem]
 ·grind [dm]
 ·have k:n*b+n<=n*c:=by rw[<-mb];exact iI _ d
  grind [dm]
end Go.Proofs.YtnnaadmegeeinaaGreatDoor
