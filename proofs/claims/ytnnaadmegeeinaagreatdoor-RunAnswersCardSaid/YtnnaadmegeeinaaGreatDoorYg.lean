/-
  Part 7 of a proof: what it proves stands in the last text.
-/
import Derived.Test.YtnnaadmegeeinaaGreatDoorYf
import Derived.StillTail
import Derived.Maps.OwnSet
import Derived.Maps.OwnOps
set_option linter.all false
set_option maxHeartbeats 8000000
set_option maxRecDepth 100000
namespace Go.Proofs.YtnnaadmegeeinaaGreatDoor
open Tryz Go.Proofs.Tryz
open Go.RowKit
def gV:=@run_loadVar_mid
def gW:=@List.getElem?_cons_zero
def iV:=@World.size_alloc
def jT:=@List.size_toArray
def kT:=@List.getElem?_take_of_lt
def mQ:=@List.drop_of_length_le
def nu:=@List.pairwise_map
def nX:=@getD_replicate_false
def ow:=@List.length_drop
def qD:=@mem_ready
def qV:=@Region.waitsFor_spec
def rB:=@List.nodup_cons
def xc:=@List.mem_filter
def yN:=@Bool.or_eq_false_iff
def zn:=@getD_set_ne
def Cn:=@wp_region_any
def F8:=@Array.all_eq_true_iff_forall_mem
def VY:=@Array.getD_eq_getD_getElem?
def We:=@Ne.symm
def aeA:=@Array.ext
def akp:=@List.mem_append_left
theorem MP{p:Prop}(h:p:=by
 clear hs ef cJ cS bW d7;generalize ak j=x at*;go_wp2;go_round
 case rel=>exact⟨j+1,by omega,by go_num,by rw[<-fB.out],HL⟩
 case measure=>exact gQ):p:=h
theorem M3{p:Prop}(h:p:=by rw[kx];exact agm):p:=h
theorem U2{p:Prop}(h:p:=by
 rw[this];refine ao.mono ?_;rintro e V (⟨v,rfl,h⟩|⟨ch,rfl,h⟩)
 ·exact h
 ·exact h):p:=h
theorem Dk{p:Prop}(h:p:=by rw[nX]at hl;cases hl):p:=h
theorem Kc{p:Prop}(h:p:=by exact .inr (.inr ⟨H,h1,λj hj=>(h2 j hj).symm,by omega⟩)):p:=h
theorem Qb{p:Prop}(h:p:=by
 have dR:¬(64:Int)<(ak j:Int)*P:=Oa;have HL:=gd (ak (j+1)<=64) Oa
 exact MP):p:=h
theorem Q3{p:Prop}(h:p:=by
 go_enter func181,ntmps181;go_wp2_with fail;refine HP.out.mono ?_;rintro e Z ⟨rfl,rfl⟩
 exact KN):p:=h
theorem oB{p q r s:Prop}(P:p)(Q:q)(R:r)(S:s):Hid (p/\q/\r/\s):=⟨P,Q,R,S⟩
section
structure Mv(n:Nat)(f:Nat->Nat):Prop where
 pm:Pm n f
 st:∀i,n<=i->f i=i
theorem Bj{a b:Nat->Nat}:∀n,(∀i,i<n->a i<=b i)->kQ a n<=kQ b n
 |0,_=>fZ _
 |n+1,h=>Nat.add_le_add (Bj n (λi c=>h i Oa)) (h n Oa)
theorem Jn{a b:Nat->Nat}:∀n,(∀i,i<n->a i<=b i)->(∃i,i<n/\a i<b i)->kQ a n<kQ b n
 |0,_,⟨i,c,_⟩=>Oa
 |n+1,h,⟨i,c,f⟩=>by
  simp only[kQ];by_cases e:i=n
  ·subst e;have:=Bj i (λj d=>h j Oa);exact Oa
  ·have:=Jn n (λj d=>h j Oa) ⟨i,by omega,f⟩
   grind
theorem pK{f:Nat->Nat}{i x:Nat}:lj f i x=true↔∃j,j<i/\f j=x:=by
 simp only[lj,iG,gC,kz]
theorem yd{f g:Nat->Nat}{i:Nat}(h:∀j,j<i->f j=g j)(x:Nat):lj f i x=lj g i x:=by
 rw[lh,pK,pK]
 grind
theorem In{f g:Nat->Nat}{N i:Nat}(h:∀j,j<=i->f j=g j):mr f N i=mr g N i:=by
 unfold mr;refine lB N λx _=> ?_;rw[yd (λj a=>h j Oa),h i (fZ _)]
theorem yw{f g:Nat->Nat}{N:Nat}:∀i,(∀j,j<i->f j=g j)->lK f N i=lK g N i
 |0,_=>rfl
 |i+1,h=>by
  simp only[lK];rw[yw i (λj a=>h j Oa),In (λj a=>h j Oa)]
theorem Xl{f:Nat->Nat}{N i:Nat}(P:Pm N f)(hi:i<N):mr f N i<=N-1-i:=by
 rw[Xm P hi];have a:T6 f N i<=kQ (λj=>if i<j then 1 else 0) N:=Bj N λm _=>by
  grind
 grind [VM]
theorem xS{f:Nat->Nat}{N:Nat}(P:Pm N f):∀d j,j+d=N->lK f N N<lK f N j+lL (N-j)
 |0,j,h=>by
  obtain rfl:j=N:=Oa
  grind [zh]
 |d+1,j,h=>by
  have a:=xS P d (j+1) Oa;simp only[lK]at a;have b:=Xl P (show j<N by omega);rw[Hn (show j<N by omega)];have c:(mr f N j+1)*lL (N-1-j)<=(N-j)*lL (N-1-j):=iB _ Oa
  grind
theorem Vx(f:Nat->Nat)(N i:Nat):∀d,lK f N i<=lK f N (i+d)
 |0=>fZ _
 |d+1=>by
  have:=Vx f N i d
  grind [lK]
def sE(N:Nat)(f:Nat->Nat):Nat:=lK f N N
theorem Eb{N:Nat}{f:Nat->Nat}(P:Pm N f):sE N f<lL N:=by
 have:=xS P N 0 Oa
 grind [lK,sE]
def oU(N:Nat)(f g:Nat->Nat):Prop:=∃i,i<N/\(∀j,j<i->f j=g j)/\f i<g i
theorem Fi{N:Nat}{f g:Nat->Nat}(P:Pm N f)(Q:Pm N g)(h:oU N f g):sE N f<sE N g:=by
 obtain⟨i,d,a,q⟩:=h;have b:=xS P (N-(i+1)) (i+1) Oa;have c:=Vx g N (i+1) (N-(i+1));rw[show i+1+(N-(i+1))=N by omega]at c;simp only[lK]at b c;rw[yw i a]at b;have k:mr f N i<mr g N i:=by
  unfold mr;refine Jn N (λx _=> ?_) ⟨f i,P.lt i d,?_⟩
  ·rw[yd a]
   grind
  ·have p:lj g i (f i)=false:=by
    cases n:lj g i (f i)with
    |false=>rfl
    |true=>
     obtain⟨j,o,e⟩:=pK.1 n;rw[<-a j o]at e;have:=P.inj j i Oa d e;exact Oa
   grind
 have l:(mr f N i+1)*lL (N-1-i)<=mr g N i*lL (N-1-i):=iB _ k;rw[qS,qU]at l
 grind [sE]
theorem p4{f g:Nat->Nat}:∀N,(∀i,i<N->f i=g i)\/∃i,i<N/\(∀j,j<i->f j=g j)/\f i≠g i
 |0=> .inl λi h=>Oa
 |N+1=>by
  rcases p4 (f:=f) (g:=g) N with h|⟨i,a,b,c⟩
  ·grind
  grind
theorem T9{N:Nat}{f g:Nat->Nat}(P:Mv N f)(Q:Mv N g):f=g\/oU N f g\/oU N g f:=by
 rcases p4 (f:=f) (g:=g) N with h|⟨H,h1,h2,a⟩
 ·refine .inl (funext λH=> ?_);by_cases b:H<N
  ·grind
  ·rw[P.st H Oa,Q.st H Oa]
 ·rcases jh (f H) (g H)with h|h
  ·exact .inr (.inl ⟨H,h1,h2,h⟩)
  ·exact Kc
theorem aj0{N:Nat}{f g:Nat->Nat}(P:Mv N f)(Q:Mv N g):sE N f<sE N g↔oU N f g:=by
 refine⟨λh=> ?_,Fi P.pm Q.pm⟩;rcases T9 P Q with e|e|e
 ·grind
 ·exact e
 ·have:=Fi Q.pm P.pm e;omega
theorem FK{N:Nat}{f g:Nat->Nat}(P:Mv N f)(Q:Mv N g)(h:sE N f=sE N g):f=g:=by
 rcases T9 P Q with e|e|e
 ·exact e
 ·have:=Fi P.pm Q.pm e;omega
 ·have:=Fi Q.pm P.pm e;omega
def zH(n k j:Nat):Nat:=if j<n then(lS n k j).getD (iR n k j) 0 else j
section
variable {n k:Nat}
theorem RZ(b:k<lL n){j:Nat}(a:j<n):zH n k j∈lS n k j:=by
 unfold zH;rw[gl a]
 grind [Aq,rf]
theorem ww(a:k<lL n):∀j,j<=n->∀x,x∈lS n k j↔x<n/\∀i,i<j->zH n k i≠x
 |0,_,x=>by
  grind [lS]
 |j+1,h,x=>by
  have c:=ww a j Oa x;have b:=Aq a (show j<n by omega);rw[<-rf a j Oa]at b;simp only[lS];rw[wu (tW n k j) b,c];have e:zH n k j=(lS n k j).getD (iR n k j) 0:=gl Oa
  grind
theorem ahW(a:k<lL n):Mv n (zH n k):=by
 refine⟨⟨λi b=>Fg n k i _ (RZ a b),λi j b d c=> ?_⟩,λi b=>gh Oa⟩;rcases ny i j with h|h|h
 ·exact absurd c (((ww a j Oa _).1 (RZ a d)).2 i h)
 ·exact h
 ·exact absurd c.symm (((ww a i Oa _).1 (RZ a b)).2 j h)
theorem Tw{L:gA}(h:L.Pairwise (·< ·)):∀t,kQ (λx=>if x∈L then 1 else 0) t=z6 L t
 |0=>(G9 L).symm
 |t+1=>by
  rw[z7 L t h];simp only[kQ];rw[Tw h t]
theorem ahc(a:k<lL n){j:Nat}(b:j<n):mr (zH n k) n j=iR n k j:=by
 have d:=Aq a b;rw[<-rf a j Oa]at d;have c:=LF _ _ (tW n k j) d;rw[<-show zH n k j=(lS n k j).getD (iR n k j) 0 from gl b]at c;have e:=(ahW a).pm.lt j b;rw[<-c,<-Tw (tW n k j),<-Bi (λx=>if x∈lS n k j then 1 else 0) n (ly e)];unfold mr;refine lB n λx f=> ?_;have l:lj (zH n k) j x=false↔x∈lS n k j:=by
  rw[ww a j Oa];cases g:lj (zH n k) j x with
  |false=>
   refine⟨λ_=>⟨f,λo i h=> ?_⟩,λ_=>rfl⟩
   grind [pK]
  |true=>
   grind [pK]
 grind
theorem VX(a:k<lL n):∀j,j<=n->lK (zH n k) n j+kR n k j=k
 |0,_=>by simp[lK,kR]
 |j+1,h=>by
  have b:=VX a j Oa
  grind [lK,kR,ahc,Nat.div_add_mod,iR]
theorem adk(a:k<lL n):sE n (zH n k)=k:=by
 have c:=VX a n (fZ _);have b:=abI a n (fZ _);rw[jU]at b
 grind [lL,sE]
theorem ad9{f:Nat->Nat}(P:Mv n f):zH n (sE n f)=f:=FK (ahW (Eb P.pm)) P (adk (Eb P.pm))
theorem acX(a:k<lL n):∀j,j<=n->yK n k j=(List.range j).map (zH n k)
 |0,_=>rfl
 |j+1,h=>by
  simp only[yK];rw[acX a j Oa,jc,jf];simp only[jG,mR,zH]
  grind
end
theorem AY{c:Type}[DecidableEq c]:∀{A B:List c},A.Nodup->(∀x∈A,x∈B)->A.length<=B.length
 |[],_,_,_=>ge _
 |a::A,B,h,b=>by
  obtain⟨d,e⟩:=rB.1 h;have i:=b a On;have j:=AY (B:=B.erase a) e λx f=>(List.mem_erase_of_ne (λg=>d (by grind))).2 (b x (by simp[f]))
  grind
theorem agn{N:Nat}{l:List (Nat->Nat)}(j:l.Nodup)(d:∀f∈l,Mv N f):l.length<=lL N:=by
 have a:(l.map (sE N)).Nodup:=nu.2 ((List.pairwise_iff_forall_sublist.2 λ{g h} k=>by
  grind [FK]))
 have b:∀x∈l.map (sE N),x∈List.range (lL N):=λx e=>by
  obtain⟨f,c,rfl⟩:=gK.1 e;exact gC.2 (Eb (d f c).pm)
 have i:=AY a b
 grind
end
def jP(x:Nat->Nat):np:=(List.range 7).map λi=>Value.int .i64 ((x i:Nat):Int)
theorem kx(x:Nat->Nat):(jP x).length=7:=by simp[jP]
theorem pz{x:Nat->Nat}{i:Nat}(h:i<7):(jP x)[i]? =some (.int .i64 ((x i:Nat):Int)):=by simp[jP,h]
theorem rR(x:Nat->Nat):(jP x).toArray.all (·.oneCell')=true:=by simp[jP,Value.oneCell']
theorem Vj{x y:Nat->Nat}{i v:Nat}(h:i<7)(a:y i=v)(b:∀j,j≠i->y j=x j):(jP x).set i (.int .i64 ((v:Nat):Int))=jP y:=by
 refine ib λj=> ?_
 grind [kx,pz]
theorem ud{x y:Nat->Nat}(h:∀i,i<7->x i=y i):jP x=jP y:=jn λi a=>by grind
def Vk(x:Nat->Nat):Value:= .agg (jP x).toArray
theorem agk(x:Nat->Nat):(jP x).toArray.size=7:=jT.trans (kx x)
theorem agm:(prog.info? 179).map (·.size)=some 7:=Ob
theorem Hz(w:World):
 Calls prog 245 #[] w λe D=>e= .returned (Vk id)/\gm w D:=by
 go_enter func245,ntmps245;go_wp2_with fail;have l:Below w.heap.size w (w.alloc (.cells (jP λ_=>0).toArray 179)):=(f0 _ _).alloc (fZ _) _;have n:Below w.heap.size w ((w.alloc (.cells (jP λ_=>0).toArray 179)).alloc (.cells (jP λ_=>0).toArray 179)):=l.alloc On _;have j:hU ((w.alloc (.cells (jP λ_=>0).toArray 179)).alloc (.cells (jP λ_=>0).toArray 179)) w.heap.size 179 (jP λ_=>0):=(hU.new w _ _).alloc _;have f:hU ((w.alloc (.cells (jP λ_=>0).toArray 179)).alloc (.cells (jP λ_=>0).toArray 179)) (w.alloc (.cells (jP λ_=>0).toArray 179)).heap.size 179 (jP λ_=>0):=hU.new _ _ _;rw[iV]at f;go_loopw [2,3] (λ_ i wr=>∃k:Nat,k<=7/\i= .int .i64 k/\hU wr w.heap.size 179 (jP λ_=>0)/\hU wr (w.heap.size+1) 179 (jP λi=>if i<k then i else 0)/\gm w wr) (λ_ i _=>7-(intOf i).toNat)
 case atStart=>exact⟨0,by omega,rfl,j,by rw[ud (y:=λ_=>0) (λi _=>gh Oa)];exact f,n⟩
 case round=>
  clear l n j f;obtain⟨k,H,rfl,d,a,b⟩:=hrel;by_cases o:k<7
  ·have s:(k:Int)<7:=(by omega);have r:=a.cell k;rw[pz o]at r;have E:=a.frozen k;obtain⟨g,c⟩:=a.stored k (.int .i64 ((k:Nat):Int))
   rw[Vj (y:=λi=>if i<k+1 then i else 0) o (gl Oa) (λI G=>by
    grind)]at g
   have HX:=ju (d.kept c On) g (b.grown c b.size (λh e=>by grind));clear d a b g c;exact Ua
  ·have s:¬(k:Int)<7:=(by omega);rw[ud (x:=λi=>if i<k then i else 0) (y:=id) (λi F=>gl Oa)]at a;have A:=a.range;have B:=d.there;have p:=hU.setCells (jP id) [] (jP λ_=>0) wr d (by grind [kx]);have c:=iu (b:=w.heap.size) (jP id) 0 wr;have HX:=gR p (b.grown c b.size (λh e=>by grind));have q:(prog.info? 179).map (·.size)=some (jP id).length:=(by rw[kx];kernel_rfl);have C:wr.there w.heap.size 0 (jP id).toArray.size:=by
    grind [kx]
   have z:(prog.info? 179).map (·.size)=some (jP id).toArray.size:=Oa;clear d a b p c B
   go_wp2_with (first
    |(refine ii rfl 179 _ rfl (w.heap.size+1) 0 rfl (jP id) _ A underlying179 rfl q ?_)
    |(refine iA rfl 179 _ _ rfl w.heap.size 0 (jP id).toArray rfl rfl C z (rR _) ?_))
   have v:(wr.setCells w.heap.size 0 (jP id)).rangeAt w.heap.size 0 (jP id):=HX.out.1.range;have t:=gV (P:=prog) _ _ _ 179 _ _ v underlying179 rfl q;refine⟨rfl,.agg (jP id).toArray,?_,rfl,HX.out.2⟩;show((results _ _).run _ _)=_;simp[results,f245,asAddr,t]
theorem Ck{P:Program}{t e:TypeId}{n:Nat}(h:P.underlying t=some (.array n e))(d:∀w,(Go.sizeOf e).run P w= .ok 1 w)(a:∀w,(isAgg e).run P w= .ok false w){cs:np}{i:Nat}{v:Value}(hi:i<n)(c:cs[i]? =some v)(w:World):(Instr.index t (.agg cs.toArray) (.int .i64 (i:Int))).run P w= .ok v w:=by
 have b:0<=(i:Int)/\(i:Int)<n:=Oa;simp[Instr.index,pN h,asIntOf,b,go_sem,c,d,a,hi]
theorem abr(x y:Nat->Nat)(w:World)(G:∀i,i<7->x i<7)(U:∀i,i<7->y i<7):
 Calls prog 246 #[Vk x,Vk y] w λl M=>l= .returned (Vk λi=>y (x i))/\gm w M:=by
 unfold Vk;have n:hU (((w.alloc (.cells (jP x).toArray 179)).alloc (.cells (jP y).toArray 179)).alloc (.cells (jP λ_=>0).toArray 179)) w.heap.size 179 (jP x):=((hU.new w _ _).alloc _).alloc _;have o:hU (((w.alloc (.cells (jP x).toArray 179)).alloc (.cells (jP y).toArray 179)).alloc (.cells (jP λ_=>0).toArray 179)) (w.alloc (.cells (jP x).toArray 179)).heap.size 179 (jP y):=(hU.new _ _ _).alloc _;have p:hU (((w.alloc (.cells (jP x).toArray 179)).alloc (.cells (jP y).toArray 179)).alloc (.cells (jP λ_=>0).toArray 179)) ((w.alloc (.cells (jP x).toArray 179)).alloc (.cells (jP y).toArray 179)).heap.size 179 (jP λ_=>0):=hU.new _ _ _;have t:Below w.heap.size w (((w.alloc (.cells (jP x).toArray 179)).alloc (.cells (jP y).toArray 179)).alloc (.cells (jP λ_=>0).toArray 179)):=(((f0 _ _).alloc (fZ _) _).alloc On _).alloc Oo _;rw[iV]at o;rw[iV,iV]at p;have j:=n.range;have h:(prog.info? 179).map (·.size)=some (jP x).length:=M3;go_enter func246,ntmps246
 go_wp2_with (first
  |(refine ii rfl 179 _ rfl w.heap.size 0 rfl (jP x) _ j underlying179 rfl h ?_)
  |fail)
 clear j;go_loopw [5,6,8] (λ_ _ i wr=>∃k:Nat,k<=7/\i= .int .i64 k/\hU wr w.heap.size 179 (jP λi=>if i<k then y (x i)else x i)/\hU wr (w.heap.size+1) 179 (jP y)/\hU wr (w.heap.size+1+1) 179 (jP λ_=>0)/\gm w wr) (λ_ _ i _=>7-(intOf i).toNat)
 case atStart=>exact⟨0,by omega,rfl,by rw[ud (y:=x) (λi _=>gh Oa)];exact n,o,p,t⟩
 case round=>
  clear t n o p;obtain⟨k,T,rfl,a,g,e,d⟩:=hrel;by_cases f:k<7
  ·have D:(k:Int)<7:=(by omega);have H:=pz (x:=x) f;have I:=G k f;have C:=g.cell (x k);rw[pz I]at C;have B:=a.cell k;rw[pz f]at B;have O:=a.frozen k;obtain⟨q,c⟩:=a.stored k (.int .i64 ((y (x k):Nat):Int))
   rw[Vj (y:=λi=>if i<k+1 then y (x i)else x i) f (gl Oa) (λV S=>by
    grind)]at q
   have b:=oB q (g.kept c On) (e.kept c Oo) (d.grown c d.size (λs l=>by grind));clear a g e d q c;have R:=λw=>Ck (P:=prog) underlying179 sizeOf3 isAgg3 f H w;generalize y (x k)=X at*;generalize x k=W at*;generalize jP x=N at*;go_wp2;go_roundw
   case rel=>exact⟨k+1,by omega,by go_num,b.out.1,b.out.2.1,b.out.2.2.1,b.out.2.2.2⟩
   case measure=>exact gQ
  ·have D:¬(k:Int)<7:=(by omega);rw[ud (x:=λi=>if i<k then y (x i)else x i) (y:=λi=>y (x i)) (λi Q=>gl Oa)]at a;obtain⟨z,r⟩:∃z,(λi=>y (x i))=z:=⟨_,rfl⟩;rw[r]at a;have A:=gb r;clear r;have j:=a.range;have K:=e.there;have v:=hU.setCells (jP z) [] (jP λ_=>0) wr e (by grind [kx]);have c:=iu (b:=w.heap.size+1+1) (jP z) 0 wr;have b:=gR v (d.grown c d.size (λs l=>by grind));have h:(prog.info? 179).map (·.size)=some (jP z).length:=M3;have L:wr.there (w.heap.size+1+1) 0 (jP z).toArray.size:=by
    grind [kx]
   have J:(prog.info? 179).map (·.size)=some (jP z).toArray.size:=Oa;clear a g e d v c K
   go_wp2_with (first
    |(refine ii rfl 179 _ rfl w.heap.size 0 rfl (jP z) _ j underlying179 rfl h ?_)
    |(refine iA rfl 179 _ _ rfl (w.heap.size+1+1) 0 (jP z).toArray rfl rfl L J (rR _) ?_))
   have F:(wr.setCells (w.heap.size+1+1) 0 (jP z)).rangeAt (w.heap.size+1+1) 0 (jP z):=b.out.1.range;have E:=gV (P:=prog) _ _ _ 179 _ _ F underlying179 rfl h;refine⟨rfl,.agg (jP z).toArray,?_,by rw[A.out],b.out.2⟩;show((results _ _).run _ _)=_;simp[results,f246,asAddr,E]
def tJ(l m:gP):gP:=l.map λx=>m[x.toNat]?.getD 0
theorem adY(l m:gP):(tJ l m).length=l.length:=by simp[tJ]
theorem YD{l m:gP}{k:Nat}(h:k<l.length):tJ (l.take (k+1)) m=tJ (l.take k) m++[m[(l[k]?.getD 0).toNat]?.getD 0]:=by
 grind [tJ,List.take_add_one]
theorem ag9(v u:Value)(l m:gP)(w:World)(s:Sl w v l)(x:Sl w u m)(e:∀C∈l,0<=C/\C<(m.length:Int))(H:l.length<=1000):
 Calls prog 154 #[v,u] w λG B=>(∃A,G= .returned A/\OI w.heap.size B A (tJ l m))/\gm w B:=by
 obtain⟨X,cp,N,rfl,hN,ae,t⟩:=s.open;obtain⟨Y,aa,M,rfl,I,af,y⟩:=x.open;rw[I.out]at e;rw[hN.out]at H;have g:=gb (λk (h:k<N)=>YD (l:=l) (m:=m) (k:=k) ON);have D:=gb (λk (h:k<N)=>e (l[k]?.getD 0) (by rw[gn ON];grind));have f:=gb (λk (h:k<=N)=>show(tJ (l.take k) m).length=k by rw[adY,i8,hN.out];omega);clear s x e;go_enter func154,ntmps154;go_wp2;go_loopw [5,6] (λR i wr=>∃k:Nat,k<=N/\i= .int .i64 k/\OI w.heap.size wr R (tJ (l.take k) m)/\gm w wr) (λ_ i _=>N-(intOf i).toNat)
 case atStart=>exact⟨0,ge _,rfl,OI.nil _ _,f0 _ _⟩
 case round=>
  obtain⟨k,r,rfl,b,a⟩:=hrel;by_cases d:k<N
  ·obtain⟨E,S,rfl,J,n⟩:=t Oa;obtain⟨U,V⟩:=D.out k d;have c1:=(a.cell (p:=⟨E,S+k,none⟩) J).trans (n k d);have c:=gb (g.out k d);obtain⟨q,z⟩:∃q:Nat,l[k]?.getD 0=(q:Int):=⟨(l[k]?.getD 0).toNat,by omega⟩;rw[z]at c1 c U V;rw[iZ]at c;have Q:q<M:=Oa;obtain⟨F,T,rfl,K,o⟩:=y Oa;have c2:=(a.cell (p:=⟨F,T+q,none⟩) K).trans (o q Q);have j:=a.size;have O:(tJ (l.take k) m).length<=1000000000000:=(by rw[f.out k r];omega);have W:=gb (f.out k r);clear n o t y g z;generalize m[q]?.getD 0=ag at*;go_wp2_with (at_builtin;refine g8 wr _ _ 45 rfl rfl underlying45 info3 w.heap.size _ _ rfl b rfl O j ?_;intro ab Z w1 P L ac ad);go_roundw
   case rel=>exact⟨k+1,by omega,by go_num,P.cast (by rw[c.out]),b.grown a L j⟩
   case measure=>exact gQ
  ·obtain rfl:N=k:=(by omega);rw[ie MJ]at b;have HX:=gR b a;clear b a;exact Ro
def qP(n:Nat):gP:=(List.range n).map λi:Nat=>(i:Int)
theorem Yu(n:Nat):(qP n).length=n:=by simp[qP]
theorem RN(n:Nat):qP (n+1)=qP n++[(n:Int)]:=by simp[qP,jc]
theorem Jj(n:Nat)(w:World)(A:n<=1000):
 Calls prog 153 #[.int .i64 n] w λl e=>(∃d,l= .returned d/\OI w.heap.size e d (qP n))/\gm w e:=by
 have h:=gb RN;have g:=gb Yu;have f:=gd (qP 0=[]) rfl;generalize qP=D at*;go_enter func153,ntmps153;go_wp2;go_loopw [3,4] (λr i wr=>∃k:Nat,k<=n/\i= .int .i64 k/\OI w.heap.size wr r (D k)/\gm w wr) (λ_ i _=>n-(intOf i).toNat)
 case atStart=>exact⟨0,ge _,rfl,by rw[f.out];exact OI.nil _ _,f0 _ _⟩
 case round=>
  obtain⟨k,y,rfl,c,b⟩:=hrel;by_cases z:k<n
  ·have a:=b.size;have p:(D k).length<=1000000000000:=(by rw[g.out];omega);have j:=gb (h.out k);go_wp2_with (at_builtin;refine g8 wr _ _ 45 rfl rfl underlying45 info3 w.heap.size _ _ rfl c rfl p a ?_;intro t s B q o v x);go_roundw
   case rel=>exact⟨k+1,by omega,by go_num,q.cast (by rw[j.out]),c.grown b o a⟩
   case measure=>exact gQ
  ·obtain rfl:n=k:=(by omega);exact PO
section
def pY(x m:Nat->Nat)(i:Nat):Nat:=m (x i)
theorem ahJ(n:Nat):Mv n id:=⟨⟨λi h=>h,λi j _ _ h=>h⟩,λi _=>rfl⟩
theorem zd{n:Nat}{x y:Nat->Nat}(P:Mv n x)(Q:Mv n y):Mv n (pY x y):=
 ⟨⟨λi a=>Q.pm.lt _ (P.pm.lt i a),λi j a b h=>P.pm.inj i j a b (Q.pm.inj _ _ (P.pm.lt i a) (P.pm.lt j b) h)⟩,λi a=>by unfold pY;rw[P.st i a,Q.st i a]⟩
inductive sQ(ms:List (Nat->Nat)):(Nat->Nat)->Prop
 |one:sQ ms id
 |step {x m:Nat->Nat}:sQ ms x->m∈ms->sQ ms (pY x m)
section
variable {n:Nat} {ms:List (Nat->Nat)} {x y:Nat->Nat}
theorem sQ.mv(b:∀m∈ms,Mv n m)(h:sQ ms x):Mv n x:=by
 induction h with
 |one=>exact ahJ n
 |step _ a c=>exact zd c (b _ a)
theorem sQ.closed{G:(Nat->Nat)->Prop}(a:G id)(b:∀x,G x->∀m∈ms,G (pY x m))(h:sQ ms x):G x:=by
 induction h with
 |one=>exact a
 |step _ c d=>grind
end
theorem Vz{e:Type}(d:e->Nat):∀(L c:List e),L.Pairwise (λa b=>d a<d b)->c.Pairwise (λa b=>d a<d b)->(∀x,x∈L↔x∈c)->L=c
 |[],[],_,_,_=>rfl
 |[],b::c,_,_,h=>absurd ((h b).2 On) On
 |a::L,[],_,_,h=>absurd ((h a).1 On) On
 |a::L,b::c,f,g,h=>by
  obtain⟨n,k⟩:=kM.1 f;obtain⟨o,l⟩:=kM.1 g;have i:a=b:=by
   grind
  subst i;rw[Vz d L c k l (λx=>⟨λj=> ?_,λj=> ?_⟩)]
  ·grind
  grind
open Classical in
noncomputable def GL(n:Nat)(ms:List (Nat->Nat)):List (Nat->Nat):=((List.range (lL n)).filter λk=>decide (sQ ms (zH n k))).map (zH n)
section
variable {n:Nat} {ms:List (Nat->Nat)}
theorem ajA(a:∀m∈ms,Mv n m)(x:Nat->Nat):x∈GL n ms↔sQ ms x:=by
 unfold GL;simp only[gK,xc,gC,iK];constructor
 ·grind
 ·intro h;have P:=h.mv a;refine⟨sE n x,⟨Eb P.pm,?_⟩,ad9 P⟩
  grind [ad9]
theorem aeD(n:Nat)(ms:List (Nat->Nat)):(GL n ms).Pairwise (λa b=>sE n a<sE n b):=by
 unfold GL;rw[nu];have c:((List.range (lL n)).filter λk=> @decide (sQ ms (zH n k)) (Classical.propDecidable _)).Pairwise (λa b=>a<b/\a<lL n/\b<lL n):=by
  grind [List.Pairwise.imp_of_mem,List.pairwise_lt_range]
 refine c.imp λ{a b} h=> ?_
 grind [adk]
theorem aeE(e:∀m∈ms,Mv n m){L:List (Nat->Nat)}(c:∀x,x∈L↔sQ ms x)(d:L.Pairwise (λa b=>sE n a<sE n b)):L=GL n ms:=
 Vz (sE n) L _ d (aeD n ms) λx=>by rw[c,ajA e]
end
end
section
structure BI(n:Nat)(ms l:List (Nat->Nat))(i j:Nat):Prop where
 nd:l.Nodup
 one:id∈l
 gen:∀x∈l,sQ ms x
 far:∀k,k<i->∀m∈ms,pY (l.getD k id) m∈l
 now:∀t,t<j->pY (l.getD i id) (ms.getD t id)∈l
 il:i<=l.length
 mkm:∀m∈ms,Mv n m
section
variable {n:Nat} {ms l:List (Nat->Nat)} {i j:Nat}
theorem BI.start(h:∀m∈ms,Mv n m):BI n ms [id] 0 0:=
 ⟨by simp,by simp,λx a=>by rw[jM.1 a];exact sQ.one,λk b=>by omega,λt c=>by omega,ge _,h⟩
theorem BI.len(h:BI n ms l i j):1<=l.length/\l.length<=lL n:=⟨List.length_pos_of_mem h.one,agn h.nd λx a=>(h.gen x a).mv h.mkm⟩
theorem wh{a:Type}{l:List a}{i:Nat}(h:i<l.length)(d:a):l.getD i d∈l:=by
 grind
theorem Hu{a:Type}{l:List a}{i:Nat}(h:i<l.length)(x d:a):(l++[x]).getD i d=l.getD i d:=by
 grind
theorem BI.mvI'(h:BI n ms l i j)(hi:i<l.length):Mv n (l.getD i id):=(h.gen _ (wh hi id)).mv h.mkm
theorem BI.mvM(h:BI n ms l i j)(a:j<ms.length):Mv n (ms.getD j id):=h.mkm _ (wh a id)
theorem BI.there(h:BI n ms l i j)(b:pY (l.getD i id) (ms.getD j id)∈l):BI n ms l i (j+1):=
 ⟨h.nd,h.one,h.gen,h.far,λt a=>by
   by_cases e:t=j
   ·grind
   ·exact h.now t Oa,h.il,h.mkm⟩
theorem BI.add(h:BI n ms l i j)(hi:i<l.length)(b:j<ms.length)(a:¬pY (l.getD i id) (ms.getD j id)∈l):BI n ms (l++[pY (l.getD i id) (ms.getD j id)]) i (j+1):=by
 refine⟨?_,by simp[h.one],λx a=> ?_,λk c m d=> ?_,λt q=> ?_,by grind,h.mkm⟩
 ·rw[List.nodup_append];refine⟨h.nd,by simp,λf o g p e=> ?_⟩
  grind
 ·rcases li.1 a with a|a
  ·exact h.gen x a
  ·rw[jM.1 a];exact(h.gen _ (wh hi id)).step (wh b id)
 ·rw[Hu Oa];exact akp _ (h.far k c m d)
 ·rw[Hu hi];by_cases e:t=j
  ·grind
  ·exact akp _ (h.now t Oa)
theorem BI.next(h:BI n ms l i ms.length)(hi:i<l.length):BI n ms l (i+1) 0:=by
 refine⟨h.nd,h.one,h.gen,λk c m a=> ?_,λt b=>by omega,by omega,h.mkm⟩;by_cases e:k=i
 ·rw[e];obtain⟨t,b,rfl⟩:=l0.1 a;have:=h.now t b
  grind
 ·exact h.far k Oa m a
theorem BI.done(h:BI n ms l l.length j)(x:Nat->Nat):x∈l↔sQ ms x:=by
 refine⟨h.gen x,λc=>c.closed (G:=λy=>y∈l) h.one λy d m b=> ?_⟩;obtain⟨k,a,rfl⟩:=l0.1 d;have:=h.far k a m b
 grind
end
end
def FZ(n:Nat)(k:Int)(w:World)(e:Ending)(w':World):Prop:=
 ((k<0\/(lL n:Int)<=k)/\e= .returned (.tuple #[.slice none 0 0,.int .i64 1])\/¬(k<0\/(lL n:Int)<=k)/\∃a,e= .returned (.tuple #[a,.int .i64 0])/\OI w.heap.size w' a (lR (yK n k.toNat n)))/\gm w w'
theorem aie(n k:Int)(w:World)(h:n<0\/12<n):
 Calls prog 156 #[.int .i64 n,.int .i64 k] w λe a=>e= .returned (.tuple #[.slice none 0 0,.int .i64 1])/\gm w a:=by
 go_enter func156,ntmps156;rcases h with h|h
 ·exact Rr
 ·have b:¬n<0:=(by omega);exact Rr
theorem Wg(n:Nat)(k:Int)(w:World)(hn:n<=12):
 Calls prog 156 #[.int .i64 n,.int .i64 k] w (FZ n k w):=by
 have y:=gb rJ;have Q:=gb (λ(m:Nat)(N:World)(hm:m<=12)=>rL m N hm)
 have S:=gd (¬(k<0\/(lL n:Int)<=k)->(∀j,j<=n->kR n k.toNat j<lL (n-j))/\(∀j,j<n->iR n k.toNat j<n-j)) (λl=>by
  grind [abI,Aq])
 have V:=gd (¬(k<0\/(lL n:Int)<=k)->∀j,j<n->_) (λl j r=>X6 (n:=n) (k:=k.toNat) (show k.toNat<lL n by omega) r);have W:=gd (¬(k<0\/(lL n:Int)<=k)->∀j,j<n->_) (λl j r=>aea (n:=n) (k:=k.toNat) (show k.toNat<lL n by omega) r);have au:=gb (zI n k.toNat);have ar:=gb (aeb n k.toNat);have aw:=gb (zJ n k.toNat);have al:=gd (∀j,kR n k.toNat (j+1)=kR n k.toNat j%lL (n-1-j)) (λj=>rfl);have HI:=gd (∀j,iR n k.toNat j=kR n k.toNat j/lL (n-1-j)) (λj=>rfl);have ak:=gd (kR n k.toNat 0=k.toNat) rfl;have ao:=gd (∀j,yK n k.toNat (j+1)=yK n k.toNat j++[(lS n k.toNat j).getD (iR n k.toNat j) 0]) (λj=>rfl);have an:=gd (yK n k.toNat 0=[]) rfl;have ap:=gb (Vs n k.toNat);have aq:=gd (0<=k->k=(k.toNat:Int)) (λl=>by omega);have R:=gd (∀e f,(k<0\/(lL n:Int)<=k)->e= .returned (.tuple #[.slice none 0 0,.int .i64 1])->gm w f->FZ n k w e f) (λe f A B C=>⟨.inl ⟨A,B⟩,C⟩);have aj:=gd (∀x f,¬(k<0\/(lL n:Int)<=k)->OI w.heap.size f x (lR (yK n k.toNat n))->gm w f->FZ n k w (.returned (.tuple #[x,.int .i64 0])) f) (λx f A B C=>⟨.inr ⟨A,x,rfl,B⟩,C⟩);generalize FZ n k w=aL at*;generalize kR n k.toNat=K at*;generalize iR n k.toNat=I at*;generalize lS n k.toNat=L at*;generalize yK n k.toNat=O at*;generalize Jy n k.toNat=U at*;generalize k.toNat=kn at*;generalize lL=F at*;obtain⟨aP,aQ⟩:=y.out n hn;go_enter func156,ntmps156;go_wp2_with fail;refine(Q.out n w hn).mono ?_;rintro e N ⟨rfl,rfl⟩;by_cases aE:k<0
 ·have d:=gb (Or.inl aE:k<0\/(F n:Int)<=k);go_wp2;exact R.out _ _ d.out rfl (f0 _ _)
 ·by_cases aF:(F n:Int)<=k
  ·have d:=gb (Or.inr aF:k<0\/(F n:Int)<=k);go_wp2;exact R.out _ _ d.out rfl (f0 _ _)
  ·have d:=gd (¬(k<0\/(F n:Int)<=k)) Oa;obtain⟨r1,r2⟩:=S.out d.out;have R1:=gb r1;have R2:=gb r2;have S1:=gb (V.out d.out);have U1:=gb (W.out d.out);have aG:=gb (aq.out Oa);clear r1 r2 V W S;go_wp2_with (at_make;refine nQ (w:=w) _ _ 93 4 (.bool false) 1 rfl rfl underlying93 info4 rfl Oc w.heap.size _ n rfl rfl rfl Oa (fZ _) ?_;intro w6 ae ab ag);have ad:Ow 4 w.heap.size w6 (.slice (some ⟨w.heap.size,0,none⟩) n n) ((U 0).map Value.bool):=(by rw[ar.out,sM];exact ae);have aa:gm w w6:=(f0 _ _).grown ab (fZ _) (λk l=>by cases l);clear ae ab;go_loopw [1,6,7,9] (λkk aM aK H wr=>∃j:Nat,j<=n/\H= .int .i64 j/\kk= .int .i64 (K j:Nat)/\OI (w.heap.size+1) wr aK (lR (O j))/\Ow 4 w.heap.size wr (.slice (some ⟨w.heap.size,0,none⟩) n n) ((U j).map Value.bool)/\gm w wr/\w.heap.size<wr.heap.size) (λ_ _ _ H _=>n-(intOf H).toNat)
   case atStart=>exact⟨0,ge _,rfl,by rw[ak.out,<-aG.out],by rw[an.out];exact OI.nil _ _,ad,aa,ag⟩
   case round=>
    obtain⟨j,r,rfl,rfl,b,c,a,o⟩:=hrel;clear ad aa ag;by_cases E:j<n
    ·have aS:(n:Int)-1-j=((n-1-j:Nat):Int):=(by omega);have ai:=gb (Q.out (n-1-j) wr Oa);obtain⟨f1,f2⟩:=y.out (n-1-j) Oa;have aT:((K j:Nat):Int).tdiv ((F (n-1-j):Nat):Int)=((I j:Nat):Int):=by
      rw[<-iS,HI.out j]
     have aV:((K j:Nat):Int).tmod ((F (n-1-j):Nat):Int)=((K (j+1):Nat):Int):=by
      rw[<-gO,al.out j]
     obtain⟨aN,aO⟩:=y.out (n-j) Oa;have hI:=R2.out j E;have aW:¬((F (n-1-j):Nat):Int)=0:=Oa;have Z:=gb (S1.out j E);have UJ:=gb (U1.out j E);have HO:=gd (lR (O j)++[(((L j).getD (I j) 0:Nat):Int)]=lR (O (j+1))) (by rw[ao.out j,Av]);have aH:(lR (O j)).length<=1000000000000:=(by rw[oM,ap.out];omega);have am:=gb (au.out j);have av:=gb (aw.out j);generalize (L j).getD (I j) 0=X at*;generalize I j=J at*;generalize F (n-1-j)=fj at*;generalize F (n-j)=fp at*;generalize K j=kj at*;generalize (L j).contains=ah at*;generalize z6 (L j)=T at*;obtain⟨aR,aB,s1,s2,s3,s4,s5⟩:=Z.out;have ax:=gb s1;have ay:=gb s2;have az:=gb s3;have Y:=gb s4;have aA:=gb s5;clear s1 s2 s3 s4 s5 Z;have HB:=oB b c a o;clear b c a o;go_wp2_with fail;refine ai.out.mono ?_;rintro e wq ⟨rfl,rfl⟩;obtain⟨M,rfl⟩:∃M,M=wr:=⟨wr,rfl⟩;go_wp2;go_loopw [7,10,11] (λaJ sk P wq=>∃t:Nat,t<=X/\P= .int .i64 t/\sk= .int .i64 ((J:Int)-(T t:Int))/\aJ=u7/\wq=M) (λ_ _ P _=>X-(intOf P).toNat)
     case atStart=>exact⟨0,ge _,rfl,by rw[az.out];simp,rfl,rfl⟩
     case round=>
      obtain⟨t,ht,rfl,rfl,rfl,rfl⟩:=hrel;obtain⟨b,c,a,o⟩:=HB.out;have p:=c.cell t (by rw[gv,av.out];omega);rw[gY,am.out t Oa,jZ]at p;have hT:=ax.out t ht;have aX:(t:Int)<n:=Oa;by_cases aI:t<X
      ·cases i:ah t with
       |false=>
        have h:=Y.out t;rw[i]at h;rw[i]at p;have z:=gd (T (t+1)=T t) (by simpa using h);clear h b c a i;go_wp2;go_roundw
        case rel=>exact⟨t+1,by omega,by go_num,by rw[z.out],by simp,by simp⟩
        case measure=>exact gQ
       |true=>
        have h:=Y.out t;rw[i]at h;rw[i]at p;have h5:=aA.out t aI i;have z:=gd (T (t+1)=T t+1) (by simpa using h);have hq:(((J:Int)-(T t:Int))==0)=false:=Oo;clear h b c a i;go_wp2;go_roundw
        case rel=>exact⟨t+1,by omega,by go_num,by rw[z.out];go_num,by simp,by simp⟩
        case measure=>exact gQ
      ·obtain rfl:X=t:=(by omega);rw[aB]at p;have hq:(((J:Int)-(T X:Int))==0)=true:=(by rw[ay.out];simp);have aU:=c.frozen X;obtain⟨G,v⟩:=c.stored X (.bool true);rw[<-pG,<-UJ.out]at G;have s:=b.kept v (.inr (by intro e;have:=(b.lt _ e).1;omega));have D:=a.grown v a.size (λk' e=>by simp_all);have af:w.heap.size+1<=(wr.setCell ⟨w.heap.size,X,none⟩ (.bool true)).heap.size:=gt o v.size;clear c b a v;go_wp2_with (first|(at_builtin;refine g8 (wr.setCell ⟨w.heap.size,X,none⟩ (.bool true)) _ _ 45 rfl rfl underlying45 info3 (w.heap.size+1) _ _ rfl s rfl aH af ?_;intro g2 c2 N ac q aC aD)|fail);have g:=oB (ac.cast HO.out) (G.kept q (.inr (by intro e;have:=(s.lt w.heap.size e.symm).1;omega))) ((s.mono (Nat.le_succ _)).grown D q D.size) (gt af q.size);clear ac q aC aD G s D;go_wp2;go_roundw
       case rel=>exact⟨j+1,by omega,by go_num,by go_num,g.out.1,g.out.2.1,g.out.2.2.1,g.out.2.2.2⟩
       case measure=>exact gQ
    ·obtain rfl:n=j:=(by omega);have g:=gR b a;clear b c a o;go_wp2;exact aj.out _ _ d.out (g.out.1.mono Oa) g.out.2
def jp(p k:Int):Nat:=if p∈vF/\1<=k/\k<=6/\p.toNat^k.toNat<=64 then p.toNat^k.toNat else 0
theorem wH{p:Int}(h:p∈vF):2<=p/\p<=61:=by
 have:∀q∈vF,(2:Int)<=q/\q<=61:=Oc
 grind
theorem NV{p:Nat}(a:1<=p){i k:Nat}(h:i<=k):p^i<=p^k:=gN a h
theorem xP{p k:Int}(h:¬(p∈vF/\1<=k/\k<=6)):jp p k=0:=by
 unfold jp
 grind
theorem Vr{p k:Nat}{i:Nat}(b:1<=p)(hi:i<=k)(h:64<p^i):jp p k=0:=by
 unfold jp;rw[gh];rintro⟨c,d,e,a⟩;rw[iZ,iZ]at a;have:=NV b hi;exact Oa
theorem acV{p k:Nat}(a:(p:Int)∈vF)(b:1<=k)(c:k<=6)(d:p^k<=64):jp p k=p^k:=by
 unfold jp
 grind
theorem lU{p k:Int}(h:jp p k≠0):∃P K:Nat,p=(P:Int)/\k=(K:Int)/\p∈vF/\2<=P/\P<=61/\1<=K/\K<=6/\P^K<=64/\jp p k=P^K:=by
 unfold jp at h⊢;by_cases a:p∈vF/\1<=k/\k<=6/\p.toNat^k.toNat<=64
 ·have:=wH a.1
  grind
 exact OK
theorem uh(p k:Int)(w:World)(t:ja k)(s:SR w):
 Calls prog 181 #[.int .i64 p,.int .i64 k] w λe B=>e= .returned (.tuple #[.int .i64 (jp p k),.bool (!(jp p k==0))])/\w=B:=by
 have HP:=gb (Ic p w s);clear s;unfold ja at t;by_cases b:p∈vF
 ·have d:decide (p∈vF)=true:=gy b;rw[d]at HP;by_cases f:1<=k
  ·by_cases o:k<=6
   ·have J:=wH b;obtain⟨P,rfl⟩:∃P:Nat,p=(P:Int):=⟨p.toNat,by omega⟩;obtain⟨K,rfl⟩:∃K:Nat,k=(K:Int):=⟨k.toNat,by omega⟩;have v:=gb (λi g h=>Vr (p:=P) (k:=K) (i:=i) Oa g h);have x:=gb (λh=>acV (p:=P) (k:=K) b Oa Oa h);have C:=gb (λi (g:i<=K)=>NV (p:=P) Oa g);have y:=gd (∀i,P^(i+1)=P^i*P) λi=>rfl;have l:=gd (P^0=1) rfl;have D:¬(K:Int)<1:=Oa;have E:¬(6:Int)<K:=Oa;generalize jp (P:Int) (K:Int)=R at*;clear b d t;obtain⟨ak,r⟩:∃ak:Nat->Nat,ak=λi=>P^i:=⟨_,rfl⟩;have c:=gd (∀i,P^i=ak i) (λi=>by rw[r]);clear r;go_enter func181,ntmps181;go_wp2_with fail;refine HP.out.mono ?_;rintro e Z ⟨rfl,rfl⟩;go_wp2;go_loop [6,19] (λz i=>∃j:Nat,j<=K/\i= .int .i64 j/\z= .int .i64 (ak j:Nat)/\Hid (ak j<=64)) (λ_ i=>K-(intOf i).toNat)
    case atStart=>exact⟨0,ge _,rfl,by rw[<-c.out,l.out];rfl,gb (by rw[<-c.out,l.out];decide)⟩
    case round=>
     obtain⟨j,G,rfl,rfl,bW⟩:=hrel;have d7:=bW.out;by_cases H:j<K
     ·have hs:=y.out j;rw[c.out,c.out]at hs;have ef:((ak (j+1):Nat):Int)=(ak j:Int)*P:=Oa;have cJ:ak j*P<=64*61:=gE d7 Oa;have F:(ak j:Int)*P<=3904/\0<=(ak j:Int)*P:=Oa;have fB:=gb ef.symm;by_cases cS:64<ak (j+1)
      ·have a:R=0:=v.out (j+1) Oa (by rw[c.out];exact cS);have dR:(64:Int)<(ak j:Int)*P:=Oa;clear hs ef cJ cS;subst a;exact KN
      ·exact Qb
     ·obtain rfl:j=K:=(by omega);have a:R=ak j:=(by rw[<-c.out];exact x.out (by rw[c.out];exact d7));have I:1<=ak j:=(by rw[<-c.out];grind);have q:(R==0)=false:=(by grind);have n:=gR a q;clear bW a q;go_wp2;go_ret2;exact⟨by rw[n.out.2,n.out.1];rfl,rfl⟩
   ·have a:jp p k=0:=xP (λh=>o h.2.2);rw[a];have A:¬k<1:=Oa;have L:6<k:=Oa;clear b d f o a;exact Q3
  ·have a:jp p k=0:=xP (λh=>f h.2.1);rw[a];have A:k<1:=Oa;clear b d f a;exact Q3
 ·have d:decide (p∈vF)=false:=gp b;rw[d]at HP;have a:jp p k=0:=xP (λh=>b h.1);rw[a];clear b d a;exact Q3
theorem zw:∀P:Nat,P<65->m0 P=decide ((P:Int)∈vF):=OH
theorem qw(p k:Int)(w:World)(q:ja p)(F:ja k):
 Calls prog 140 #[.int .i64 p,.int .i64 k] w λe I=>e= .returned (.int .i64 (jp p k))/\w=I:=by
 have d:=gb (XR p w q);unfold ja at F q;by_cases z:p<=64
 ·by_cases l:1<=k
  ·have r:¬64<p:=(by omega);have H:¬k<1:=Oa;by_cases c:p∈vF
   ·have O:=wH c;obtain⟨P,rfl⟩:∃P:Nat,p=(P:Int):=⟨p.toNat,by omega⟩;obtain⟨K,rfl⟩:∃K:Nat,k=(K:Int):=⟨k.toNat,by omega⟩;rw[iZ,zw P Oa,gy c]at d;have s:=gb (λi f h=>Vr (p:=P) (k:=K) (i:=i) Oa f h);have v:=gd (∀i,i<=6\/64<P^7) λi=> .inr (gS Oc (oG (show 2<=P by omega) 7));have t:=gb (λA h=>acV (p:=P) (k:=K) c Oa A h);have x:=gb (λi j (f:i<=j)=>NV (p:=P) Oa f);have y:=gd (∀i,P^(i+1)=P^i*P) λi=>rfl;have g:=gd (P^0=1) rfl;generalize jp (P:Int) (K:Int)=R at*;clear c;obtain⟨ak,n⟩:∃ak:Nat->Nat,ak=λi=>P^i:=⟨_,rfl⟩;have b:=gd (∀i,P^i=ak i) (λi=>by rw[n]);clear n;go_enter func140,ntmps140;go_wp2_with fail;refine d.out.mono ?_;rintro e J ⟨rfl,rfl⟩;go_wp2;go_loop [6,7] (λG i=>∃j:Nat,j<=K/\i= .int .i64 j/\G= .int .i64 (ak j:Nat)/\Hid (ak j<=64)) (λ_ i=>K-(intOf i).toNat)
    case atStart=>exact⟨0,ge _,rfl,by rw[<-b.out,g.out];rfl,gb (by rw[<-b.out,g.out];decide)⟩
    case round=>
     obtain⟨j,M,rfl,rfl,bW⟩:=hrel;have d7:=bW.out;have D:j<=6:=by
      rcases jh 6 j with h|h
      ·have B:=x.out 7 j Oa;rw[b.out j]at B;rcases v.out 7 with C|C<;>omega
      ·exact h
     by_cases N:j<K
     ·have hs:=y.out j;rw[b.out,b.out]at hs;have ef:((ak (j+1):Nat):Int)=(ak j:Int)*P:=Oa;have cJ:ak j*P<=64*61:=gE d7 Oa;have L:(ak j:Int)*P<=3904/\0<=(ak j:Int)*P:=Oa;have fB:=gb ef.symm;by_cases cS:64<ak (j+1)
      ·have a:R=0:=s.out (j+1) Oa (by rw[b.out];exact cS);have dR:(64:Int)<(ak j:Int)*P:=Oa;clear hs ef cJ cS;subst a;exact Of
      ·exact Qb
     ·obtain rfl:j=K:=(by omega);have a:R=ak j:=(by rw[<-b.out];exact t.out D (by rw[b.out];exact d7));have HR:=gb a;clear bW a;exact OG
   ·have a:jp p k=0:=xP (λh=>c h.1);rw[a];have o:m0 p.toNat=false:=by
     rcases ahm p 0 with E|E
     ·rw[show p.toNat=0 by omega];decide
     ·obtain⟨P,rfl⟩:∃P:Nat,p=(P:Int):=⟨p.toNat,by omega⟩
      grind [zw]
    rw[o]at d;clear c a o;go_enter func140,ntmps140;go_wp2_with fail;refine d.out.mono ?_;rintro e J ⟨rfl,rfl⟩;exact Of
  ·have a:jp p k=0:=xP (λh=>l h.2.1);rw[a];have r:¬64<p:=Oa;have H:k<1:=Oa;clear l a;go_enter func140,ntmps140;exact Of
 ·have a:jp p k=0:=xP (λh=>by have:=wH h.1;omega);rw[a];have r:64<p:=Oa;clear a z;go_enter func140,ntmps140;exact Of
section
def nF(vals:Nat->Value)(on:Nat->Bool):Nat->gA->Act->Act
 |_,[],a=>a
 |k,d::ds,a=>if on k then nF vals on (k+1) ds (a.put (some d) (vals k))else nF vals on (k+1) ds a
def j7(vals:Nat->Value):Nat->gA->Act->Act
 |_,[],a=>a
 |k,d::ds,a=>j7 vals (k+1) ds (a.put (some d) (vals k))
theorem A6(vals:Nat->Value)(on:Nat->Bool):∀(b:gA)(k:Nat)(a:Act),(∀j,k<=j->j<k+b.length->on j=true)->nF vals on k b a=j7 vals k b a
 |[],k,a,_=>rfl
 |d::b,k,a,h=>by
  unfold nF j7;rw[gl (h k (fZ _) On),A6 vals on b (k+1) _ (λj c e=>h j Oa (by grind))]
theorem vk{vals vals':Nat->Value}{on on':Nat->Bool}:∀(b:gA)(k:Nat)(a:Act),(∀j,k<=j->j<k+b.length->on j=on' j/\(on j=true->vals j=vals' j))->nF vals on k b a=nF vals' on' k b a
 |[],k,a,_=>rfl
 |e::b,k,a,h=>by
  obtain⟨c,d⟩:=h k (fZ _) On;have f:=λa=>vk (vals:=vals) (vals':=vals') (on:=on) (on':=on') b (k+1) a (λj c d=>h j Oa (by grind));unfold nF
  grind
theorem A7{vals:Nat->Value}{on:Nat->Bool}:∀(b:gA)(k:Nat)(a:Act)(d:Nat)(v:Value),(∀x∈b,x≠d)->nF vals on k b (a.put (some d) v)=(nF vals on k b a).put (some d) v
 |[],k,a,d,v,_=>rfl
 |e::b,k,a,d,v,h=>by
  have f:=h e On;unfold nF;split
  ·rw[Act.put_comm a v (vals k) (by grind),A7 b (k+1) _ d v (λx c=>h x (by simp[c]))]
  ·rw[A7 b (k+1) _ d v (λx c=>h x (by simp[c]))]
theorem Vv{vals:Nat->Value}{on:Nat->Bool}{k d:Nat}{b:gA}{a:Act}(h:on k=true):nF vals on k (d::b) a=nF vals on (k+1) b (a.put (some d) (vals k)):=by
 rw[nF,gl h]
theorem IR{vals:Nat->Value}{on:Nat->Bool}{k d:Nat}{b:gA}{a:Act}(h:on k=false):nF vals on k (d::b) a=nF vals on (k+1) b a:=by
 rw[nF,gh (by grind)]
theorem IS{vals:Nat->Value}{on:Nat->Bool}(v:Value):∀(b:gA)(k i:Nat)(a:Act)(d:Nat),b.Nodup->b[i]? =some d->on (k+i)=false->
 nF (λj=>if j=k+i then v else vals j) (λj=>j==k+i||on j) k b a=(nF vals on k b a).put (some d) v
 |e::b,k,0,a,d,f,l,c=>by
  obtain rfl:e=d:=(by grind);have g:=rB.1 f;have c:on k=false:=c;rw[Vv On,IR c,<-A7 b (k+1) a e v (λx s t=>g.1 (by grind))];have h:(if k=k+0 then v else vals k)=v:=gl rfl;rw[h];refine vk b (k+1) _ λj p q=>⟨?_,λ_=>gh Oa⟩;have:(j==k+0)=false:=Oo
  grind
 |e::b,k,i+1,a,d,f,l,c=>by
  have g:=rB.1 f;have r:(k==k+(i+1))=false:=On;have n:=λa=>IS (vals:=vals) (on:=on) v b (k+1) i a d g.2 (by grind) (by grind);rw[show k+1+i=k+(i+1)by omega]at n;cases o:on k with
  |true=>grind [Vv]
  |false=>grind [IR]
theorem ada{a:Act}{d t:Nat}{v:Value}(h:d≠t):(a.put (some d) v).tmps.getD t undef=a.tmps.getD t undef:=by
 show(a.tmps.setIfInBounds d v).getD t undef=_;simp[h]
theorem r4{vals:Nat->Value}{on:Nat->Bool}{t:Nat}:∀(b:gA)(k:Nat)(a:Act),b.contains t=false->(nF vals on k b a).tmps.getD t undef=a.tmps.getD t undef
 |[],k,a,_=>rfl
 |d::b,k,a,h=>by
  simp only[List.contains_cons,yN]at h;have c:d≠t:=(λe=>by grind);unfold nF;split
  ·rw[r4 b (k+1) _ h.2,ada c]
  ·rw[r4 b (k+1) _ h.2]
theorem xQ{vals:Nat->Value}{on:Nat->Bool}:∀(b:gA)(k:Nat)(a:Act),(nF vals on k b a).tmps.size=a.tmps.size
 |[],k,a=>rfl
 |d::b,k,a=>by
  unfold nF;split
  ·rw[xQ b (k+1)];show(a.tmps.setIfInBounds d _).size=_;exact On
  ·rw[xQ b (k+1)]
theorem wI{vals:Nat->Value}{on:Nat->Bool}:∀(b:gA)(k i:Nat)(a:Act)(d:Nat),b.Nodup->b[i]? =some d->d<a.tmps.size->on (k+i)=true->(nF vals on k b a).tmps.getD d undef=vals (k+i)
 |e::b,k,0,a,d,f,j,c,l=>by
  obtain rfl:e=d:=(by grind);have g:=rB.1 f;unfold nF;rw[gl Oa,r4 b (k+1) _ (by grind)];show(a.tmps.setIfInBounds e (vals k)).getD e undef=vals k;simp[c]
 |e::b,k,i+1,a,d,f,j,c,l=>by
  have g:=rB.1 f;have h:=λa c=>wI (vals:=vals) (on:=on) b (k+1) i a d g.2 (by grind) c (by grind);rw[show k+1+i=k+(i+1)by omega]at h;unfold nF;split
  ·exact h _ (by show d<(a.tmps.setIfInBounds e _).size;grind)
  grind
theorem tE{vals:Nat->Value}{on:Nat->Bool}:∀(b:gA)(k:Nat)(a:Act),(nF vals on k b a).defers=a.defers
 |[],k,a=>rfl
 |d::b,k,a=>by
  unfold nF;split
  ·rw[tE b (k+1)];rfl
  ·rw[tE b (k+1)]
section
variable (P:Program) (ops:Array Oper) (ds:gA) (R:Nat->Value->World->Prop) (J:World->Prop) (T:World->World->Prop) (Q:Exit->Act->World->Prop) (a0:Act) (W:World) (lk:Nat×Nat) (lks:List (Nat×Nat)) (lf:Nat->Value->Value) (k:Nat) (o:Oper)
def ahs:Prop:=
 ∀(a:Act)(w:World)(K:Act->World->Prop),J w->(∀t,ds.contains t=false->a.tmps.getD t undef=a0.tmps.getD t undef)->a.defers=a0.defers->
  (∀j,j<ds.length->Region.waitsFor .any ops k j=true->decide (ds.getD j 0<a0.tmps.size)=true->R j (a.tmps.getD (ds.getD j 0) undef) w)->
  (∀v b,R k v b->J b->T w b->(∀x∈lks,k=x.1->v=lf x.1 (a.tmps.getD (ds.getD x.2 0) undef))->K (a.put o.dst v) b)->Oper.wp P o a w K Q
def akK:Prop:=
 ∀(a:Act)(w:World)(K:Act->World->Prop),J w->(∀t,ds.contains t=false->a.tmps.getD t undef=a0.tmps.getD t undef)->
  (∀j,j<ds.length->Region.waitsFor .any ops k j=true->decide (ds.getD j 0<a0.tmps.size)=true->R j (a.tmps.getD (ds.getD j 0) undef) w)->
  (∀v b,R k v b->J b->T w b->(k=lk.1->v=a.tmps.getD (ds.getD lk.2 0) undef)->K (a.put o.dst v) b)->Oper.wp P o a w K Q
def aht:Prop:=
 ∀(a:Act)(w:World)(K:Act->World->Prop),gm W w->(∀t,ds.contains t=false->a.tmps.getD t undef=a0.tmps.getD t undef)->a.defers=a0.defers->
  (∀j,j<ds.length->Region.waitsFor .any ops k j=true->R j (a.tmps.getD (ds.getD j 0) undef) w)->
  (∀v b,R k v b->gm w b->K (a.put o.dst v) b)->Oper.wp P o a w K Q
def ahr:Prop:=
 ∀(a:Act)(w:World)(K:Act->World->Prop),gm W w->(∀t,ds.contains t=false->a.tmps.getD t undef=a0.tmps.getD t undef)->
  (∀j,j<ds.length->Region.waitsFor .any ops k j=true->R j (a.tmps.getD (ds.getD j 0) undef) w)->
  (∀v b,R k v b->gm w b->K (a.put o.dst v) b)->Oper.wp P o a w K Q
end
def uJ(S:Nat->Oper->Prop):Nat->List Oper->Prop
 |_,[]=>True
 |k,o::os=>S k o/\uJ S (k+1) os
theorem uJ.get{S:Nat->Oper->Prop}(os:List Oper):∀(k i:Nat)(o:Oper),uJ S k os->os[i]? =some o->S (k+i) o:=by
 induction os with
 |nil=>intro k i o h e;simp at e
 |cons x os a=>
  intro k i o h e;cases i with
  |zero=>
   rw[gW]at e;cases e;exact h.1
  |succ i=>
   rw[ij]at e;have:=a (k+1) i o h.2 e
   grind
def xx(N n:Nat):Array Bool:=((List.range N).map λj=>decide (j<n)).toArray
def abd(l:List Oper):Bool:=(List.range l.length).all λi=>match l[i]? with
 |some o=>o.after.all λe=> !Region.binds .any e||decide (e.on<i)
 |none=>true
def LP(l:List Oper)(a:gA)(n:Nat)(b:List (Nat×Nat)):Bool:=
 b.all (λx=>decide (a.length<=x.1)||decide (x.2<a.length)&&Region.waitsFor .any l.toArray x.1 x.2&&decide (a.getD x.2 0<n))&&(decide (l.length=a.length)||decide (a.length<l.length)&&Region.sinkB .any l.toArray a.length&&Region.chainB .any l.toArray a.length)&&Region.seqB .any l.toArray (l.length-a.length) a.length (xx l.length a.length)
  &&(List.range a.length).all (λi=>match(l.toArray[i]?).map (·.dst)with|some (some d)=>d==a.getD i 0|_=>decide (n<=a.getD i 0))&&(l.take a.length).all (λo=>o.guard.isNone)&&decide a.Nodup&&abd l
theorem EQ{P:Program}{Q:Exit->Act->World->Prop}{c:Act}{w:World}{l:List Oper}(a:gA)(R:Nat->Value->World->Prop)(J:World->Prop)(T:World->World->Prop)(F:List (Nat×Nat))(lf:Nat->Value->Value)(hB:LP l a c.tmps.size F=true)
 (aJ:∀j v f G,R j v f->J f->J G->T f G->R j v G) (af:J w)
 (az:∀r o,l[r]? =some o->r<a.length->ahs P l.toArray a R J T Q c F lf r o)
 (aj:∀d w',(∀j,j<a.length->R j (d j) w')->J w'->(∀x∈F,x.1<a.length->d x.1=lf x.1 (d x.2))->wpList P l.toArray Q (l.drop a.length) (j7 d 0 a c) w'):wpAny P .any l.toArray Q l.toArray.size (Array.replicate l.toArray.size false) c w:=by
 simp only[LP,ia,kD,iK]at hB;obtain⟨⟨⟨⟨⟨⟨ar,E⟩,ax⟩,ai⟩,am⟩,aa⟩,al⟩:=hB;have ad:∀x∈F,a.length<=x.1\/(x.2<a.length/\Region.waitsFor .any l.toArray x.1 x.2=true)/\a.getD x.2 0<c.tmps.size:=λx A=>by
  have:=gF.1 ar x A;simpa only[kD,ia,iK]using this
 have aA:l.toArray.size=l.length:=On;have hn:a.length<=l.length:=by rcases E with p|⟨⟨p,_⟩,_⟩<;>omega
 have aE:∀(q:Nat)(b:Array Bool)(H:Act)(f:World),HeadInv .any l.toArray a.length b->((List.range a.length).filter (λj=> !b.getD j false)).length=q->
  (∃d,H=nF d (λj=>b.getD j false) 0 a c/\(∀j,j<a.length->b.getD j false=true->R j (d j) f)/\J f/\(∀x∈F,x.1<a.length->b.getD x.1 false=true->d x.1=lf x.1 (d x.2)))->wpAny P .any l.toArray Q (q+(l.length-a.length)) b H f:=by
  intro q
  induction q with
  |zero=>
   rintro b H f inv hf ⟨d,rfl,hR,K,hL⟩;have lM:∀j,j<a.length->b.getD j false=true:=λj k=>by
    grind [List.filter_eq_nil_iff]
   have hl:b=xx l.length a.length:=by
    refine aeA (by rw[inv.size];simp[xx]) λj h C=> ?_;have V:(xx l.length a.length)[j]=decide (j<a.length):=(by simp[xx]);rw[V];by_cases k:j<a.length
    ·have:=lM j k;exact OK
    ·have:=inv.tail j Oa (by rw[<-inv.size];exact h);exact OK
   rw[iL];have h3:=wpAny_of_seq (P:=P) (md:= .any) (ops:=l.toArray) (Q':=Q) (l.drop a.length) a.length (xx l.length a.length) (j7 d 0 a c) f (λj=>by simp[Cu]) (by rw[ow];exact ax) (aj d f (λj k=>hR j k (lM j k)) K (λx A p=>hL x A p (lM _ p)));rw[ow]at h3;rw[A6 d _ a 0 c (λj _ k=>lM j Oa),hl];exact h3
  |succ q S=>
   rintro b H f inv hf ⟨d,rfl,hR,K,hL⟩;obtain⟨j0,ao⟩:∃j,j∈(List.range a.length).filter (λj=> !b.getD j false):=List.exists_mem_of_length_pos Oa;obtain⟨Z,ac⟩:=xc.1 ao;have Z:=gC.1 Z;have ac:b.getD j0 false=false:=(by grind);have ap:=getD_in (by rw[inv.size];omega) ac;rw[show q+1+(l.length-a.length)=(q+(l.length-a.length))+1 by omega];refine⟨λh0=> ?_,λi L=> ?_⟩
   ·
    exfalso;have ak:∃i,i<a.length/\b.getD i false=false/\∀j,j<i->b.getD j false=true:=by
     have:∀n,(∃i,i<n/\b.getD i false=false/\∀j,j<i->b.getD j false=true)\/∀j,j<n->b.getD j false=true:=by
      intro n
      induction n with
      |zero=>grind
      |succ n S=>
       grind
     grind
    obtain⟨i,aH,an,aI⟩:=ak;have Y:i<l.length:=Oa;have hr:i∈Region.ready .any l.toArray b:=by
     refine qD.2 ⟨getD_in (by grind) an,l[i],by simp[Y],λe W t=> ?_⟩;have h:=gF.1 al i (gC.2 Y);rw[gn Y]at h;have C:=F8.1 h e W
     grind
    grind
   ·have M:i<a.length:=by
     rcases jh i a.length with p|p
     ·exact p
     ·rcases E with E|⟨⟨au,E⟩,hc⟩
      ·obtain⟨_,o,y,_⟩:=qD.1 L
       grind
      ·exact absurd L (tail_waits E hc (by rw[aA];exact au) inv _ j0 rfl Z ap i p)
    obtain⟨aB,o,y,lM⟩:=qD.1 L;have aM:b.getD i false=false:=getD_both aB;have ae:l[i]? =some o:=(by simpa using y);obtain⟨g,hd⟩:∃g,a[i]? =some g:=⟨a[i],gn M⟩;have av:∀(s:Act)(v:Value),s.tmps.size=c.tmps.size->s.put o.dst v=s.put (some g) v:=λs v K=>by
     have h:=gF.1 ai i (gC.2 Oa);rw[y,gc,hd]at h;cases e:o.dst with
     |some d'=>
      grind
     |none=>
      rw[jZ,e]at h;have C:c.tmps.size<=g:=(by grind);show s={s with tmps:=s.tmps.setIfInBounds g v};rw[Array.setIfInBounds_eq_of_size_le Oa]
    have aw:o.guard=none:=by
     have:=gF.1 am o (nT ((kT M).trans ae));simpa using this
    have ay:=az i o ae M (nF d (λj=>b.getD j false) 0 a c) f (wpAny P .any l.toArray Q (q+(l.length-a.length)) (b.setIfInBounds i true)) K (λaF ht=>r4 a 0 c ht) (tE a 0 c) ?_ ?_
    ·unfold wpOp;simp only[y];rw[gl (by simp[Region.wanted,aw])];exact .inl ay
    ·intro j k hw aK;obtain⟨B,z,e,W,t,O⟩:=qV hw;have:B=o:=gG (z.symm.trans y);subst this;have N:=lM e W t;rw[O]at N;obtain⟨U,D⟩:∃g,a[j]? =some g:=⟨a[j],gn k⟩;rw[gc,D,iQ,wI a 0 j c U aa D (by grind) (by grind),iL]
     grind
    ·intro v G hv ag aG aq;refine S _ _ _ (inv.set L M) ?_ ⟨λj=>if j=i then v else d j,?_,?_,ag,?_⟩
     ·have aN:∀n,i<n->((List.range n).filter (λj=> !(b.setIfInBounds i true).getD j false)).length+1=((List.range n).filter (λj=> !b.getD j false)).length:=by
       intro n
       induction n with
       |zero=>omega
       |succ n aC=>
        intro p;rw[jc,o8,o8,gz,gz];by_cases ab:i=n
        ·subst ab;have I:(List.range i).filter (λj=> !(b.setIfInBounds i true).getD j false)=(List.range i).filter (λj=> !b.getD j false):=List.filter_congr λj k=>by
          rw[zn false (by grind)]
         have V:(b.setIfInBounds i true).getD i false=true:=by
          have:i<b.size:=(by grind);simp[this]
         grind
        ·have:=aC Oa;have V:(b.setIfInBounds i true).getD n false=b.getD n false:=zn false ab
         grind
      grind
     ·have h:=IS (vals:=d) (on:=λj=>b.getD j false) v a 0 i c g aa hd (by grind);rw[iL]at h;rw[av _ _ (xQ a 0 c),<-h];refine vk a 0 c λj _ k=>⟨?_,λ_=>rfl⟩;by_cases e:j=i
      ·subst e;have:j<b.size:=(by grind);simp[this]
      ·rw[zn false (We e)];simp[e]
     ·intro j k hl;by_cases e:j=i
      ·grind
      ·show R j (if j=i then v else d j) G;rw[gh e];rw[zn false (We e)]at hl
       grind
     ·intro x A h C;rcases ad x A with ad|⟨⟨k1,k2⟩,k3⟩
      ·exact Oa
      by_cases e:x.1=i
      ·obtain⟨B,z,I,X,t,O⟩:=qV k2;rw[e]at z;have:B=o:=gG (z.symm.trans y);subst this;have N:=lM I X t;rw[O]at N;have aL:x.2≠i:=(λe4=>by grind);obtain⟨U,D⟩:∃g,a[x.2]? =some g:=⟨a[x.2],gn Oa⟩;have h5:=aq x A e.symm;rw[gc,D,iQ]at h5 k3;rw[wI a 0 x.2 c U aa D k3 (by grind),iL]at h5
       grind
      ·rw[zn false (We e)]at C;obtain⟨B,z,I,X,t,O⟩:=qV k2;have N:=inv.closed _ B z C I X t
       grind
 have aD:HeadInv .any l.toArray a.length (Array.replicate l.toArray.size false):=
  ⟨by simp,λj B _ hl=>Dk,λaF _ ht=>getD_in (by simpa using ht) (nX _ _)⟩
 have ah:((List.range a.length).filter (λj=> !(Array.replicate l.toArray.size false).getD j false)).length=a.length:=by
  rw[List.filter_eq_self.2 (λj _=>by rw[nX];rfl),k7]
 have h9:=aE a.length _ c w aD ah ⟨λ_=>undef,?_,λj _ hl=> ?_,?_,λx _ _ hl=> ?_⟩
 ·rw[show l.toArray.size=a.length+(l.length-a.length)by simp;omega];rw[show a.length+(l.length-a.length)=l.length by omega]at h9⊢;simpa using h9
 ·have:∀(a:gA)(r:Nat),nF (λ_=>undef) (λj=>(Array.replicate l.toArray.size false).getD j false) r a c=c:=by
   intro a
   induction a with
   |nil=>intro r;rfl
   |cons g a S=>
    intro r;unfold nF;rw[gh (by rw[nX];decide)];exact S (r+1)
  exact(this a 0).symm
 ·exact Dk
 ·exact af
 ·exact Dk
def It(l:List Oper):Bool:=Region.linearise .any l.toArray 0==List.range l.toArray.size
theorem F5{P:Program}{Q:Exit->Act->World->Prop}{id:Nat}{a:Act}{w:World}{l:List Oper}{d:Bool}(g:P.follows .mixedOrders=true)(f:(d||It l)=true)(h:∀b,b=w\/b=w.drew->wpAny P .any l.toArray Q l.toArray.size (Array.replicate l.toArray.size false) a b):(Code.region id l.toArray d).wp P Q a w:=by
 cases d with
 |true=>exact Cn g (h _ (.inr rfl))
 |false=>
  have c:=wpAny_sound l.toArray.size 0 _ a w (h w (.inl rfl));have e:Region.linearise .any l.toArray 0=List.range l.toArray.size:=(by simpa [It]using f);exact wp_region (e▸c)
def KpJ(J:World->Prop)(T:World->World->Prop)(r:Value->World->Prop):Prop:=∀v a b,r v a->J a->J b->T a b->r v b
theorem g5{J:World->Prop}{T:World->World->Prop}(c:Value):KpJ J T (λv _=>v=c):=λ_ _ _ h _ _ _=>h
def Kp(B:Nat)(r:Value->World->Prop):Prop:=∀v a b,r v a->B<=a.heap.size->gm a b->r v b
theorem m8{B:Nat}(c:Value):Kp B (λv _=>v=c):=λ_ _ _ h _ _=>h
def Ev(p:(Value->World->Prop)->Prop):List (Value->World->Prop)->Prop
 |[]=>True
 |r::rs=>p r/\Ev p rs
def Eu(vals:Nat->Value)(w:World):Nat->List (Value->World->Prop)->Prop
 |_,[]=>True
 |k,r::rs=>r (vals k) w/\Eu vals w (k+1) rs
def Fz(a:List (Value->World->Prop))(k:Nat)(v:Value)(w:World):Prop:=a.getD k (λ_ _=>True) v w
theorem Ev.get{p:(Value->World->Prop)->Prop}(b:p λ_ _=>True):∀(a:List (Value->World->Prop))(j:Nat),Ev p a->p (Fz a j)
 |[],j,_=>b
 |r::rs,0,h=>h.1
 |r::rs,j+1,h=>Ev.get b rs j h.2
theorem Eu.of{vals:Nat->Value}{w:World}:∀(a:List (Value->World->Prop))(k:Nat),(∀j,j<a.length->Fz a j (vals (k+j)) w)->Eu vals w k a
 |[],k,_=>trivial
 |r::rs,k,h=>⟨h 0 On,Eu.of rs (k+1) λj b=>by
  have:=h (j+1) (by grind)
  rwa [show k+(j+1)=k+1+j by omega]at this⟩
section
variable {P:Program} {Q:Exit->Act->World->Prop} {id:Nat} {a0:Act} {w:World} {l:List Oper} (ds:gA) (Rl:List (Value->World->Prop))
theorem ky(J:World->Prop)(T:World->World->Prop)(lk:Nat×Nat)(y:P.follows .mixedOrders=true)(o:LP l ds a0.tmps.size [lk]=true)
 (x:(Rl.length,l.length)=(ds.length,ds.length)) (t:Ev (KpJ J T) Rl) (p:J w.drew)
 (A:uJ (akK P l.toArray ds (Fz Rl) J T Q a0 lk) 0 l)
 (r:∀a c,Eu a c 0 Rl->J c->(lk.1<ds.length->a lk.1=a lk.2)->Q .normal (j7 a 0 ds a0) c):(Code.region id l.toArray true).wp P Q a0 w:=
 Cn y <|EQ ds (Fz Rl) J T [lk] (λ_ v=>v) o (λj v E e h d b i=>Ev.get (λ_ _ _ h _ _ _=>h) Rl j t v E e h d b i) p (λC D s _ g w K d b _ k n=>by
  have:=uJ.get _ 0 C D A s;rw[iL]at this
  exact this g w K d b k λv e z f B F=>n v e z f B λH G=>by grind)
  λa c h q b=>by
   rw[mQ (Nat.le_of_eq (jl x).2)];exact r a c (Eu.of Rl 0 λj f=>by grind) q (b lk (jM.2 rfl))
theorem pB(A:P.follows .mixedOrders=true)(s:LP l ds a0.tmps.size []=true)
 (H:Rl.length=ds.length) (D:ds.all (λo=>decide (o<a0.tmps.size))=true) (z:Ev (Kp w.heap.size) Rl)
 (C:uJ (aht P l.toArray ds (Fz Rl) Q a0 w) 0 (l.take ds.length))
 (t:∀f b,Eu f b 0 Rl->gm w b->wpList P l.toArray Q (l.drop ds.length) (j7 f 0 ds a0) b):(Code.region id l.toArray true).wp P Q a0 w:=
 Cn A <|EQ ds (Fz Rl) (Below w.heap.size w) (λc d=>gm c d) [] (λ_ v=>v) s (λj v c d h a i g=>Ev.get (λ_ _ _ h _ _=>h) Rl j z v c d h a.size g) ((f0 _ _).drew) (λF G x y n c K a i g q r=>by
  have:=uJ.get _ 0 F G C ((kT y).trans x);rw[iL]at this
  exact this n c K a i g (λj k E=>q j k E (gF.1 D _ (by grind))) λv d B e=>r v d B (a.trans (e.mono a.size)) e λ_ p=>(by cases p))
  λf b h e _=>t f b (Eu.of Rl 0 λj k=>by grind) e
theorem IY(r:P.follows .mixedOrders=true)(n:LP l ds a0.tmps.size []=true)
 (q:Rl.length=ds.length) (t:ds.all (λe=>decide (e<a0.tmps.size))=true) (p:Ev (Kp w.heap.size) Rl)
 (s:uJ (ahr P l.toArray ds (Fz Rl) Q a0 w) 0 (l.take ds.length))
 (o:∀c b,Eu c b 0 Rl->gm w b->wpList P l.toArray Q (l.drop ds.length) (j7 c 0 ds a0) b):(Code.region id l.toArray true).wp P Q a0 w:=by
 refine pB ds Rl r n q t p ?_ o;have:∀(a:List Oper)(k:Nat),uJ (ahr P l.toArray ds (Fz Rl) Q a0 w) k a->uJ (aht P l.toArray ds (Fz Rl) Q a0 w) k a:=by
  intro a
  induction a with
  |nil=>exact λ_ h=>h
  |cons y a v=>exact λk h=>⟨λd x K f g _ i j=>h.1 d x K f g i j,v _ h.2⟩
 exact this _ _ s
end
section
variable {P:Program} {o:Oper} {a:Act} {w:World} {K:Act->World->Prop} {Q:Exit->Act->World->Prop}
theorem iW{t:Nat}{v:Value}(h:a.tmps.getD t undef=v):a.tmps[t]?.getD undef=v:=by
 grind [Array.getD_eq_getD_getElem?]
theorem tS(v:Value)(c:(execOp a.eval o).run P w= .ok (.value v) w)(b:K (a.put o.dst v) w):Oper.wp P o a w K Q:=by
 unfold Oper.wp;rw[c];exact b
theorem ng(x:Operand)(c:o.op= .move x)(b:K (a.put o.dst (a.eval x)) w):Oper.wp P o a w K Q:=tS _ (by unfold execOp;rw[c];rfl) b
theorem nJ(f:Nat)(args:Array Operand)(k:Array TypeId)(c:Array Value)(j:o.op= .call {callee:= .value (.func f),args:=args,argTypes:=k})(h:args.map a.eval=c)(b:Func)(i:P.funcs[f]? =some b)(l:(b.name== "runtime.NumGoroutine")=false)(n:b.body.isNone=false)(ao:Calls P f c w λe V=>(∃v,e= .returned v/\K (a.put o.dst v) V)\/(∃ch,e= .panicked ch/\Q (.panic ch) a V)):Oper.wp P o a w K Q:=by
 unfold Oper.wp;have:(execOp a.eval o).run P w= .ok (.enter f c) w:=by
  unfold execOp;rw[j];have d:b.name≠ "runtime.NumGoroutine" :=(by grind);have g:b.body≠none:=(by intro e;grind);simp[resolve,Act.eval,h,go_sem,callFunc,i,d,g]
 exact U2
theorem nf(f:Nat)(args:Array Operand)(d:Array TypeId)(c:Array Value)(l:o.op= .call {callee:= .value (.func f),args:=args,argTypes:=d})(j:args.map a.eval=c)(b:Func)(k:P.funcs[f]? =some b)(g:(b.name== "runtime.NumGoroutine")=false)(i:b.body.isNone=false)(H:Calls P f c w λe n=>∃v,e= .returned v/\K (a.put o.dst v) n):Oper.wp P o a w K Q:=
 nJ f args d c l j b k g i (H.mono λ_ _ h=> .inl h)
theorem uV(x:Operand)(c:o.op= .assign x)(b:K (a.put o.dst (a.eval x)) w):Oper.wp P o a w K Q:=tS _ (by unfold execOp;rw[c];rfl) b
end
end
section
open Go.Maps
def ins{κ:Type}[DecidableEq κ](x:κ)(S:List κ):List κ:=if x∈S then S else x::S
theorem W7{κ:Type}[DecidableEq κ]{x:κ}{S:List κ}(h:S.Nodup):(ins x S).Nodup:=by
 grind [ins]
theorem Fq{κ:Type}[DecidableEq κ]{x y:κ}{S:List κ}:y∈ins x S↔y=x\/y∈S:=by
 unfold ins
 grind
def KM{κ:Type}(K:TypeId)(f:κ->Value)(w:World)(b n:Nat)(S:List κ):Prop:=
 ∃D:DataW Unit,w.ownsMap prog K (plainElem prog 3) b n D/\S.Nodup/\size D=S.length/\∀x a,keyOf prog K (f x)=some a->(has D a=true↔x∈S)
section
variable {κ:Type} {K:TypeId} {f:κ->Value} {w w':World} {b n:Nat} {S:List κ}
theorem KM.new(K:TypeId)(f:κ->Value)(w:World):KM K f (w.alloc (.map #[] 0)) w.heap.size 0 []:=
 ⟨_,World.ownsMap_made w _ _ _,List.nodup_nil,rfl,λx a _=>by simp[has]⟩
theorem KM.lt(h:KM K f w b n S):b<w.heap.size:=h.choose_spec.1.lt
theorem KM.kept{a:Option Nat}(h:KM K f w b n S)(e:w.grownBy w' a)(g:some b≠a):KM K f w' b n S:=by
 obtain⟨D,c,d⟩:=h;exact⟨D,c.kept e g,d⟩
theorem KM.below(h:KM K f w b n S)(i:gm w w'):KM K f w' b n S:=by
 obtain⟨D,e,g⟩:=h;obtain⟨d,c,a,r⟩:=e;have j:b<w.heap.size:=(gZ.1 a).1;exact⟨D,⟨d,c,(i.block b j).trans a,r⟩,g⟩
theorem KM.put[DecidableEq κ](L:Keyed prog K)(o:∀x y,f x=f y->x=y){D:DataW Unit}{x:κ}{a:Lit}{d:DataW Unit}(c:w.ownsMap prog K (plainElem prog 3) b n D)(j:S.Nodup)(p:size D=S.length)
 (k:∀x a,keyOf prog K (f x)=some a->(has D a=true↔x∈S)) (g:keyOf prog K (f x)=some a) {m:Nat} (l:w'.ownsMap prog K (plainElem prog 3) b m (D.put a d)):KM K f w' b m (ins x S):=by
 refine⟨_,l,W7 j,?_,λy i h=> ?_⟩
 ·rw[size_put (c.tidy L)];unfold ins
  grind
 ·rw[Fq];by_cases e:i=a
  ·subst e;have:y=x:=o _ _ (L.inj h g);rw[has_put_same c.isMap (L.key g)];simp[this]
  ·rw[has_put_other e,k y i h]
   grind
theorem Et[DecidableEq κ]{ops:Array Oper}{rest:List Oper}{o:Oper}{a:Act}{Q:Exit->Act->World->Prop}
 (s:o.guard=none) (m x v:Operand) (t:TypeId) (C:o.op=Op.mapUpdate t m x v) (K:TypeId) (f:κ->Value) (L:Keyed prog K) (r:∀x y,f x=f y->x=y) (F:prog.underlying t=some (.map K 3))
 (b n:Nat) (S:List κ) (A:a.eval m= .map (some b)) (E:KM K f w b n S) (B:n<maxLen) (y:κ) (c:Int) (H:a.eval x=f y) (G:a.eval v= .int .i64 c) (z:∃d,keyOf prog K (f y)=some d) (q:(Lit.int .i64 c).wf=true)
 (p:∀w',KM K f w' b (n+1) (ins y S)->w.grownBy w' (some b)->wpList prog ops Q rest (a.put o.dst undef) w'):wpList prog ops Q (o::rest) a w:=by
 obtain⟨D,e,h,i,j⟩:=E;obtain⟨d,g⟩:=z;exact wpList_mapUpdate_own w s m x v t C K 3 L F _ b n D A e B _ _ d H G g _ [] (plainElem_int underlying3 q) λw' k l=>p w' (KM.put L r e h i j g k) l
end
end
end Go.Proofs.YtnnaadmegeeinaaGreatDoor
