/-
  Part 23 of a proof: what it proves stands in the last text.
-/
import Derived.Test.YtnnaadmegeeinaaGreatDoorYv
import Derived.Laws.EntriesVeiled
import Derived.Defers
import Derived.Recover
import Derived.Laws.Pointers
set_option linter.all false
set_option maxHeartbeats 8000000
set_option maxRecDepth 100000
namespace Go.Proofs.YtnnaadmegeeinaaGreatDoor
open Tryz Go.Proofs.Tryz
open Go.RowKit
def ako:=@List.forall_mem_cons
theorem Oe{p:Prop}(h:p:=by
 have HE:=gb (jA oX h);clear h;generalize gJ T=s at*;go_enter func16,ntmps16
 exact Oh):p:=h
theorem Oh{p:Prop}(h:p:=by
 go_wp2
 exact⟨rfl,_,EN (Tu w _ _) rfl rfl,HY.out _ _ _ (HE.out.trans rfl) (HB.out _ _)⟩):p:=h
theorem Ot{p:Prop}(h:p:=by
 go_wp2
 exact Ox):p:=h
theorem Ox{p:Prop}(h:p:=by first|exact bo.out|(go_ret2;exact bo.out)):p:=h
theorem Uo{p:Prop}(h:p:=by have:=HW.out.2.2;omega):p:=h
theorem Uy{p:Prop}(h:p:=by unfold gr;grind):p:=h
theorem UW{p:Prop}(h:p:=by
 obtain⟨O,aa,h1,h2⟩:=hr
 grind):p:=h
theorem Do{p:Prop}(h:p:=by rw[lu];simp):p:=h
theorem D0{p:Prop}(h:p:=by
 rintro e V ⟨rfl,J⟩
 exact⟨⟨_,rfl,OI.nil _ _⟩,J⟩):p:=h
theorem Ky{p:Prop}(h:p:=by unfold mH;omega):p:=h
theorem KB{p:Prop}(h:p:=by
 refine ?_;go_simp
 exact hK _ _ rfl J (f0 _ _) (λh=>absurd h Oc)):p:=h
theorem KG{p:Prop}(h:p:=by
 intro O V K J hf hd hK
 exact ng _ rfl (hK _ _ (hf 1 rfl) J (f0 _ _) (λh=>absurd h Oc))):p:=h
theorem KH{p:Prop}(h:p:=by exact uV _ rfl (hK _ _ h3 J (f0 _ _) (λh=>absurd h Oc))):p:=h
theorem KI{p:Prop}(h:p:=by
 have HE:=gb (jA yi h);clear h;generalize gJ T=s at*;go_enter func50,ntmps50
 exact Oh):p:=h
theorem KS{p:Prop}(h:p:=by
 intro O V K J hf hd hK;have h3:=hd 6 Oc Ob rfl
 exact Rk):p:=h
theorem Po{p:Prop}(h:p:=by
 refine(HF.out V J).mono ?_;rintro e aj ⟨⟨ag,rfl,hu⟩,ar⟩
 exact⟨_,rfl,hK _ _ ⟨ag,rfl,hu.mono J.size⟩ (J.trans (ar.mono J.size)) ar (λh=>absurd h Oc)⟩):p:=h
theorem Pz{p:Prop}(h:p:=by
 obtain⟨y,hy,rfl⟩:=gK.1 cB;obtain⟨H,hi,rfl⟩:=je hy;have:=ph (P:=P) (n:=p9 P K) Oa K H
 grind [ja]):p:=h
theorem PQ{p:Prop}(h:p:=by
 rintro e w9 ⟨rfl,rfl⟩
 exact Ot):p:=h
theorem P9{p:Prop}(h:p:=by
 intro O V K J hf hd hK
 exact ng _ rfl (hK _ _ (hf 2 rfl) J (f0 _ _) (λh=>absurd h Oc))):p:=h
theorem Qf{p:Prop}(h:p:=by
 clear hf hd h3;refine ?_;go_simp
 exact hK _ _ hu J (f0 _ _) (λh=>absurd h Oc)):p:=h
theorem Qp{p:Prop}(h:p:=by
 unfold po at h2
 exact Oa):p:=h
theorem QZ{p:Prop}(h:p:=by
 clear hf hd
 exact KB):p:=h
theorem Q4{p:Prop}(h:p:=by
 intro O V K J hf hd hK;have h3:=hd 8 Oc Ob rfl
 exact KH):p:=h
theorem Q5{p:Prop}(h:p:=by
 intro O V K J hf hd hK;have h3:=hd 7 Oc Ob rfl;obtain⟨ag,h3,hu⟩:=h3;have h4:O.tmps[137]?.getD undef= .tuple #[.int .i64 am,ag,.int .i64 ae]:=iW h3
 exact Rx):p:=h
theorem Q7{p:Prop}(h:p:=by
 intro O V K J hf hd hK;have h3:=hd 9 Oc Ob rfl
 exact KH):p:=h
theorem Rk{p:Prop}(h:p:=by exact ng _ rfl (hK _ _ h3 J (f0 _ _) (λh=>absurd h Oc))):p:=h
theorem Rx{p:Prop}(h:p:=by
 clear hf hd h3
 exact KB):p:=h
theorem Rz{p:Prop}(h:p:=by
 have aV:=bv.out V J
 exact QZ):p:=h
theorem GI(l:gP):0<=me l/\me l<=6:=by
 grind [me]
theorem alu:Zv (λl=>me (gr l)) (λl=>Y7 (gr l)):=by
 intro b d e g a;refine(Zj d (gr b) e a.1 (re a.2.1) (by grind [gr])).mono ?_;rintro f h ⟨rfl,c⟩;exact⟨rfl,GI _,λ_=>trivial,c⟩
theorem Ht(n k q:Nat):0<=qZ n k q/\qZ n k q<=6:=by
 grind [qZ]
theorem E8(n k q:Nat):ja (yD n k q):=by
 unfold yD qZ;by_cases h:sA n k q
 ·rw[gl h,gh Oc]
  grind [ja]
 ·rw[gh h];by_cases a:1000000000000000000<(Ap q n).getD k 0
  ·rw[gl a,gh Oc]
   grind [ja]
  ·rw[gh a,gl rfl]
   grind [ja]
theorem alA:ZB qZ yD:=by
 intro k s t a l g i j;by_cases h:sA k s t
 ·have b:qZ k s t=1:=gl h;have c:yD k s t=0:=(by unfold yD;omega);refine(V6 k s t a h).mono ?_;rintro e f ⟨rfl,rfl⟩;exact⟨by rw[b,c],Ht _ _ _,λ_=>E8 _ _ _,f0 _ _⟩
 ·refine(Zm k s t a h).mono ?_;rintro e f ⟨rfl,d⟩;exact⟨rfl,Ht _ _ _,λ_=>E8 _ _ _,d⟩
theorem IV(k s t:Nat):0<=rt k s t/\rt k s t<=6:=by
 grind [rt]
theorem FG(k s t:Nat):ja (yL k s t):=by
 unfold yL rt;by_cases h:sb k s t
 ·rw[gl h,gh Oc]
  grind [ja]
 ·rw[gh h];by_cases a:1000000000000000000<Ce k s t
  ·rw[gl a,gh Oc]
   grind [ja]
  ·rw[gh a,gl rfl]
   grind [ja]
theorem alG:ZG rt yL:=by
 intro k s t a l d f g;by_cases h:sb k s t
 ·have b:rt k s t=1:=gl h;have c:yL k s t=0:=(by unfold yL;omega);refine(aeN k s t a d f g h).mono ?_;rintro e j ⟨rfl,rfl⟩;exact⟨by rw[b,c],IV _ _ _,λ_=>FG _ _ _,f0 _ _⟩
 ·refine(aig k s t a h).mono ?_;rintro e j ⟨rfl,i⟩;exact⟨rfl,IV _ _ _,λ_=>FG _ _ _,i⟩
theorem Vt{k all code seen:Nat}:∀(f x y:Nat),vj k all code seen f x=some y->y<k
 |0,x,y,h=>Sb
 |f+1,x,y,h=>by
  unfold vj at h;split at h
  ·rename_i a;split at h
   ·exact Vt f (x+1) y h
   grind
  ·exact Sb
theorem uZ{k all:Nat}:∀(f code seen:Nat)(out:gP),(∀x∈out,0<=x/\x<k)->∀x∈mF k all f code seen out,0<=x/\x<k
 |0,code,seen,out,h,x,a=>h x a
 |f+1,code,seen,out,h,x,a=>by
  unfold mF at a;split at a
  ·rename_i y b;have:=Vt _ _ _ b;refine uZ f _ _ _ (λz c=> ?_) x a
   grind
  ·exact uZ f _ _ _ h x a
theorem xz{k n:Nat}:∀x∈nM k n,0<=x/\x<k:=λx a=>uZ _ _ _ _ (λz b=>by cases b) x (List.mem_reverse.1 a)
def mH(k n:Nat):Int:=if k<1\/10<k\/n<1 then 1 else if 12<n\/4096<k^n then 3 else 0
theorem alv:Zw mH nM:=by
 intro k n a C A B;have i:0<=mH k n/\mH k n<=6:=by
  grind [mH]
 have d:∀c:Int,c≠0->mH k n=c->(Calls prog 137 #[.int .i64 k,.int .i64 n] a λe b=>e= .returned (.tuple #[.slice none 0 0,.int .i64 c])/\a=b)->Calls prog 137 #[.int .i64 k,.int .i64 n] a λe b=>∃u0:Value,e= .returned (.tuple #[u0,.int .i64 (mH k n)])/\(0<=mH k n/\mH k n<=6)/\(mH k n=0->(Sl b u0 (nM k n)/\(∀x∈nM k n,ja x)/\(nM k n).length<=10000))/\(∃f w g,u0= .slice f w g)/\gm a b:=by
  intro c s h p;refine p.mono ?_;rintro e b ⟨rfl,rfl⟩;exact⟨.slice none 0 0,by rw[h],i,λq=>absurd (h.symm.trans q) s,⟨_,_,_,rfl⟩,f0 _ _⟩
 by_cases l:k<1\/10<k\/n<1
 ·exact d 1 Oc (gl l) (Ew k n a Oa)
 by_cases z:12<n
 ·exact d 3 Oc Ky (Gt k n a Oa Oa Oa)
 by_cases o:4096<k^n
 ·exact d 3 Oc Ky (Gs k n a Oa Oa Oa Oa o)
 have t:mH k n=0:=Ky;refine(V0 k n a Oa Oa Oa Oa Oa).mono ?_;rintro e b ⟨⟨y,rfl,j⟩,r⟩;obtain⟨f,g,e⟩:=j.len;have D:=tV (k:=k) (n:=n) Oa;refine⟨y,by rw[t],i,λ_=>⟨j.sl Oa,λx v=> ?_,by omega⟩,⟨f,_,g,e⟩,r⟩;have:=xz x v
 grind [ja]
def WG(k:Nat)(F:Nat):Value:= .agg #[.int .i64 k,.func (Fn.func F) #[] #[]]
theorem G5:(prog.info? 41).map (·.size)=some 2:=Ob
theorem adS{a b:iF}:((gJ a).toList==b)=(a==b):=by rw[jB,kK]
theorem kP{a b:iF}(h:a=b):((gJ a).toList==b)=true:=by rw[adS,kz];exact h
theorem lV{a b:iF}(h:¬a=b):((gJ a).toList==b)=false:=by rw[adS,gL];exact h
theorem EN{a:Func}{t k F g:Nat}{tmps:Array Value}{W:World}(c:hU W g 41 [.int .i64 k,.func (Fn.func F) #[] #[]])(e:a.results= #[.cell t 41])(b:tmps.getD t undef= .pointer (some ⟨g,0,none⟩)):(results a tmps).run prog W= .ok (WG k F) W:=by
 have d:=gV (P:=prog) _ _ _ 41 _ _ c.range underlying41 rfl G5;rw[VY]at b;simp[results,e,b,asAddr,d,WG]
theorem Tu(w:World)(k F:Nat):hU (w.alloc (.cells #[.int .i64 k,.func (Fn.func F) #[] #[]] 41)) w.heap.size 41 [.int .i64 k,.func (Fn.func F) #[] #[]]:=hU.new w _ _
def sP(o:Option (Nat×Nat))(w:World)(e:Ending)(w':World):Prop:=((∃k F,o=some (k,F)/\e= .returned (WG k F))\/(o=none/\e=mA badT))/\gm w w'
theorem sP.yes{o:Option (Nat×Nat)}{k F:Nat}{w w':World}(h:o=some (k,F))(a:gm w w'):sP o w (.returned (WG k F)) w':=⟨.inl ⟨k,F,h,rfl⟩,a⟩
theorem sP.bad{o:Option (Nat×Nat)}{w w':World}(h:o=none)(a:gm w w'):sP o w (mA badT) w':=⟨.inr ⟨h,rfl⟩,a⟩
def zZ:List (iF×Nat×Nat):=[([102,105,101,108,100],2,26),([116,105,109,101,115],4,29),([114,111,119],4,30),([108,101,97,115,116],2,35),([99,121,99,108,101,115],1,38),([111,114,100,101,114],2,41),([98,101,97,100,115],2,45),([101,120,116,101,110,100],2,47),([108,101,118,101,108],3,48),([116,114,105,112,108,101,115],1,49)]
def yg:List (iF×Nat×Nat):=[([100,105,102,102,101,114],2,122),([114,117,108,101,114],1,123),([103,97,117,115,115],3,125),([98,101,110,116],1,127),([114,97,111],3,130),([99,105,114,99,108,101],1,132),([99,111,117,108,100],1,134),([98,114,117,105,106,110],2,136),([99,97,115,99,97,100,101],2,138)]
def oX(T:iF):Option (Nat×Nat):=((zZ++yg).find? λc=>c.1==T).map (·.2)
def yi(T:iF):Option (Nat×Nat):=(yg.find? λc=>c.1==T).map (·.2)
theorem Lx{T:iF}(h:∀c∈yg,¬T=c.1):yi T=none:=by
 unfold yi;rw[sJ.2 λc a=>by simpa using We (h c a)];rfl
theorem afc{T:iF}(h:∀c∈zZ,¬T=c.1):oX T=yi T:=by
 unfold oX yi;rw[List.find?_append,sJ.2 λc a=>by simpa using We (h c a)];rfl
theorem Xi(T:iF)(w:World):Calls prog 50 #[.string (gJ T)] w (sP (yi T) w):=by
 have HB:=gb (λk F=>(f0 w.heap.size w).alloc (fZ _) (.cells #[.int .i64 (k:Nat),.func (Fn.func F) #[] #[]] 41));have HY:=gb (λk F a=>sP.yes (o:=yi T) (k:=k) (F:=F) (w:=w) (w':=a));have b:=gb (λa=>sP.bad (o:=yi T) (w:=w) (w':=a));by_cases h:T=[100,105,102,102,101,114]
 ·have t:=kP h;exact KI
 have t:=lV h;have f:=gb h;clear h;by_cases h:T=[114,117,108,101,114]
 ·have x:=kP h;exact KI
 have x:=lV h;have g:=gb h;clear h;by_cases h:T=[103,97,117,115,115]
 ·have y:=kP h;exact KI
 have y:=lV h;have i:=gb h;clear h;by_cases h:T=[98,101,110,116]
 ·have z:=kP h;exact KI
 have z:=lV h;have j:=gb h;clear h;by_cases h:T=[114,97,111]
 ·have A:=kP h;exact KI
 have A:=lV h;have l:=gb h;clear h;by_cases h:T=[99,105,114,99,108,101]
 ·have B:=kP h;exact KI
 have B:=lV h;have n:=gb h;clear h;by_cases h:T=[99,111,117,108,100]
 ·have E:=kP h;exact KI
 have E:=lV h;have p:=gb h;clear h;by_cases h:T=[98,114,117,105,106,110]
 ·have C:=kP h;exact KI
 have C:=lV h;have q:=gb h;clear h;by_cases h:T=[99,97,115,99,97,100,101]
 ·have D:=kP h;exact KI
 have D:=lV h;have r:=gb h;clear h;have e:=gb (Lx (T:=T) (by simp only[yg,ako];exact⟨f.out,g.out,i.out,j.out,l.out,n.out,p.out,q.out,r.out,λ_ h=>by cases h⟩));have d:=gb ((f0 w.heap.size w).alloc (fZ _) (.cells #[.int .i64 0,.nilFunc] 41));have c:mA badT= .panicked [{v:= .iface 36 (.string ⟨#[98,97,100]⟩),recovered:=false}]:=rfl;rw[c]at b;clear c;generalize gJ T=s at*;go_enter func50,ntmps50;go_wp2;exact⟨rfl,b.out _ e.out d.out⟩
theorem aa6(T:iF)(w:World):Calls prog 16 #[.string (gJ T)] w (sP (oX T) w):=by
 have HB:=gb (λk F=>(f0 w.heap.size w).alloc (fZ _) (.cells #[.int .i64 (k:Nat),.func (Fn.func F) #[] #[]] 41));have HY:=gb (λk F b=>sP.yes (o:=oX T) (k:=k) (F:=F) (w:=w) (w':=b));have y:=gb (λb=>sP.bad (o:=oX T) (w:=w) (w':=b));have p:=gb (λl=>Xi T l);by_cases h:T=[102,105,101,108,100]
 ·have L:=kP h;exact Oe
 have L:=lV h;have A:=gb h;clear h;by_cases h:T=[116,105,109,101,115]
 ·have M:=kP h;exact Oe
 have M:=lV h;have B:=gb h;clear h;by_cases h:T=[114,111,119]
 ·have N:=kP h;exact Oe
 have N:=lV h;have C:=gb h;clear h;by_cases h:T=[108,101,97,115,116]
 ·have O:=kP h;exact Oe
 have O:=lV h;have D:=gb h;clear h;by_cases h:T=[99,121,99,108,101,115]
 ·have P:=kP h;exact Oe
 have P:=lV h;have E:=gb h;clear h;by_cases h:T=[111,114,100,101,114]
 ·have Q:=kP h;exact Oe
 have Q:=lV h;have G:=gb h;clear h;by_cases h:T=[98,101,97,100,115]
 ·have R:=kP h;exact Oe
 have R:=lV h;have H:=gb h;clear h;by_cases h:T=[101,120,116,101,110,100]
 ·have S:=kP h;exact Oe
 have S:=lV h;have I:=gb h;clear h;by_cases h:T=[108,101,118,101,108]
 ·have U:=kP h;exact Oe
 have U:=lV h;have J:=gb h;clear h;by_cases h:T=[116,114,105,112,108,101,115]
 ·have V:=kP h;exact Oe
 have V:=lV h;have K:=gb h;clear h;have q:=gb (afc (T:=T) (by simp only[zZ,ako];exact⟨A.out,B.out,C.out,D.out,E.out,G.out,H.out,I.out,J.out,K.out,λ_ h=>by cases h⟩));have t:=gb (hU.new w 41 [.int .i64 0,.nilFunc]);have c:=gb ((f0 w.heap.size w).alloc (fZ _) (.cells #[.int .i64 0,.nilFunc] 41));generalize gJ T=s at*;unfold sP WG at p;go_enter func16,ntmps16;go_wp2_with fail;refine(p.out _).mono ?_;rintro e l ⟨⟨k,F,f,rfl⟩|⟨f,rfl⟩,d⟩
 ·have n:=gb (c.out.trans (d.mono c.out.size));have HE:=gb f;have a:=t.out.below d;have c0:l.cell? ⟨w.heap.size,0,none⟩=some (.int .i64 0):=a.cell 0;have W:=a.frozen 0;have Y:=a.lt;obtain⟨g,i⟩:=a.stored 0 (.int .i64 (k:Int));obtain⟨j,r⟩:=g.stored 1 (.func (Fn.func F) #[] #[]);have c2:=g.cell 1;have X:=g.frozen 1;simp only[io,iC,gW,ij]at c2 j;have x:=gb ((n.out.grown i n.out.size (λz e=>by cases e;exact fZ _)).grown r (by have:=i.size;omega) (λz e=>by cases e;exact fZ _));have v:=gb j;clear d a g i j r f;go_wp2;exact⟨rfl,_,EN v.out rfl rfl,HY.out _ _ _ (q.out.trans HE.out) x.out⟩
 ·exact⟨rfl,y.out _ (q.out.trans f) (c.out.trans (d.mono c.out.size))⟩
theorem TQ(n:Nat):∀(rs:kl)(cs:gA),0<=xu n cs rs/\xu n cs rs<=6
 |[],cs=>by
  grind [xu]
 |r::rs,cs=>by
  have:=TQ n rs (cs++r)
  grind [xu]
theorem Hm(n:Nat)(rs:kl):0<=nh n rs/\nh n rs<=6:=by
 have h:=TQ n rs []
 grind [po,nh]
theorem v7{n:Nat}:∀(rs:kl)(cs:gA),xu n cs rs=0->rs.flatten.length=n*rs.length/\∀x∈rs.flatten,x<n
 |[],cs,_=>On
 |r::rs,cs,h=>by
  unfold xu at h;split at h
  ·exact Sb
  ·rename_i a;split at h
   ·exact Sb
   ·rename_i b;obtain⟨c,d⟩:=v7 rs _ h
    grind
theorem xw{n:Nat}{rs:kl}(h:nh n rs=0):(1<=n/\n<=8)/\rs.length<=n/\(tg n rs).length=n*n/\∀x∈tg n rs,x<n:=by
 unfold nh at h;split at h
 ·exact Oa
 ·rename_i j;have h2:po n rs=0:=Oa;have k:¬(n<1\/8<n):=λa=>Qp;have l:¬n<rs.length:=λa=>Qp;have d:xu n [] rs=0:=Qp;obtain⟨e,f⟩:=v7 rs [] d;split at h
  ·exact Sb
  ·rename_i o;obtain⟨m,b⟩:∃m,BD n (n-rs.length) rs.flatten=some m:=by
    cases i:BD n (n-rs.length) rs.flatten with
    |none=>grind
    |some m=>grind
   have a:tg n rs=m:=(by grind [tg]);have g:=TP _ _ _ b;have c:=aaV _ _ _ f b;rw[a];refine⟨by omega,by omega,?_,c⟩;rw[g,e,<-yV]
   grind
theorem alz:ZA nh (λn a=>jj (tg n a)):=by
 intro n a c b z t e;have f:RL b c (a.map jj):=e.1;have o:Calls prog 117 #[.int .i64 n,c] b λg d=>ah4 n a g d/\gm b d:=by
  by_cases h:(n<1\/8<n)\/n<a.length
  ·exact JZ n a c b f h
  ·exact Gx n a c b f e.2 Oa Oa Oa
 refine o.mono ?_;rintro s d ⟨⟨P,p,r,q,rfl,k⟩,l⟩;refine⟨P,p,r,q,rfl,Hm n a,λh=> ?_,l⟩;obtain⟨i,j⟩:=k h;obtain⟨v,w,x,y⟩:=xw h;refine⟨i,by omega,j,λA hx=> ?_,by grind [jw]⟩;exact Di
theorem Ai{n:Nat}:∀(rs:kl)(cs:gA),xu n cs rs=0->(∀r∈rs,r.length=n)/\oP n (cs++rs.flatten)=false
 |[],cs,h=>by
  grind [xu]
 |r::rs,cs,h=>by
  unfold xu at h;split at h
  ·exact Sb
  ·rename_i a;split at h
   ·exact Sb
   ·obtain⟨b,c⟩:=Ai rs _ h
    grind
theorem Hs{n:Nat}:∀{rs:kl},(∀r∈rs,r.length=n)->∀{i j:Nat},i<rs.length->j<n->rs.flatten.getD (i*n+j) 0=(rs.getD i []).getD j 0
 |[],_,i,j,a,_=>absurd a On
 |r::rs,h,0,j,_,b=>by
  grind
 |r::rs,h,i+1,j,a,b=>by
  have d:=h r sN;have:=Hs (λx c=>h x (kW _ c)) (i:=i) (j:=j) (by grind) b
  grind
def Na(M:Nat)(F:gA)(p:Nat):gA:=F.take p++List.replicate (M-p) 0
theorem TU{M:Nat}{F:gA}{p:Nat}(a:F.length<=M)(b:p<=F.length):(Na M F p).length=M:=by
 grind [Na]
theorem afL{M:Nat}{F:gA}{p:Nat}(c:F.length<=M)(a:p<F.length):(Na M F p).set p (F.getD p 0)=Na M F (p+1):=by
 unfold Na;obtain⟨d,b⟩:∃d,M-p=d+1:=⟨M-p-1,by omega⟩;rw[x7 _ _ (by grind),i8,Nat.min_eq_left Oa,jU,b,List.replicate_succ,io,jH,gn a,gc,gn a,show M-(p+1)=d by omega,iN];rfl
theorem aa9{M:Nat}{F:gA}:(Na M F F.length).take F.length=F:=by
 unfold Na
 grind
theorem aba(M:Nat)(F:gA):(jj (Na M F 0)).map (Value.int .i64)=List.replicate M (.int .i64 0):=by
 unfold Na jj;exact OK
theorem XU(n:Nat)(v:Value)(rs:kl)(w:World)(hv:RL w v (rs.map jj))(h:po n rs=0):
 Calls prog 71 #[.int .i64 n,v] w λe b=>(∃g d,e= .returned (.agg #[.int .i64 n,.slice (some ⟨g,0,none⟩) (n*n) d])/\OI (w.heap.size+1) b (.slice (some ⟨g,0,none⟩) (n*n) d) (jj (tg n rs)))/\gm w b:=by
 have i9:(prog.info? 99).map (·.size)=some 2:=Ob;have hz:(1<=n/\n<=8)/\rs.length<=n/\xu n [] rs=0:=by
  grind [po]
 obtain⟨⟨aL,O⟩,K,U⟩:=hz;obtain⟨ay,S⟩:=Ai rs [] U;obtain⟨k,aq⟩:=v7 rs [] U;rw[ko]at S;have av:=abR k aq S;obtain⟨q1,q2⟩:=ER (n-rs.length) rs.length rs.flatten Oa av;obtain⟨m,hm⟩:=Option.ne_none_iff_exists'.1 q2;have hC:tg n rs=m:=by grind [tg]
 rw[hC];have aM:n*n<=64:=gE O O;have aN:n*rs.length<=n*n:=iI n K;obtain⟨aR,d,N,rfl,hN,aG,HC⟩:=hv.openU
 have o:=gb (λ(B g d:Nat)(r:World)(h1:OI B r (.slice (some ⟨g,0,none⟩) (n*n) d) (jj (Na (n*n) rs.flatten (N*n))))(h2:B<=r.heap.size)=>(show Calls prog 160 #[.int .i64 n,.slice (some ⟨g,0,none⟩) (n*n) d,.int .i64 ((N*n:Nat):Int)] r λe b=>(∃aA,e= .returned (.bool aA))/\OI B b (.slice (some ⟨g,0,none⟩) (n*n) d) (jj m)/\Below B r b from by
  have e:N*n=rs.flatten.length:=(by rw[k,hN.out,ka]);rw[e]at h1⊢;refine(VA n aL O (n*(n-rs.length)) rs.flatten.length rs.flatten _ B g d r (by rw[k,<-yV];grind) (TU Oa (fZ _)) aa9 rfl h1 h2).mono ?_;rintro e b ⟨⟨rfl,cs,Y,o2,o3,o4⟩,J⟩
  grind))
 have s:=gd (∀H j,H<N->j<n->(jj (Na (n*n) rs.flatten (H*n+j))).set (H*n+j) (((rs.getD H []).getD j 0:Nat):Int)=jj (Na (n*n) rs.flatten (H*n+j+1))) (λH j hi y=>by
  rw[zt,<-Hs ay OZ y,afL Oa];rw[k,hN.out];have:(H+1)*n<=N*n:=iB _ hi
  grind)
 have l:=gd (∀p,p<=N*n->(jj (Na (n*n) rs.flatten p)).length=n*n) (λp z=>by rw[jw,TU Oa (by rw[k,hN.out,ka];exact z)]);have D:=gb (aba (n*n) rs.flatten)
 have aC:=gd (∀H,H<N->(rs.getD H []).length=n) (λH hi=>by
  have hi:H<rs.length:=OZ
  grind)
 rw[hN.out]at K;have aO:(n:Int)*n=((n*n:Nat):Int):=(gI _ _).symm;have aD:(N:Int)*n=((N*n:Nat):Int):=(gI _ _).symm;have ah:N*n<=n*n:=iB _ K;clear hv h U ay S k aq av q1 q2 hm hC hN aN;obtain⟨f,af⟩:∃f:Nat->gP,∀p,jj (Na (n*n) rs.flatten p)=f p:=⟨λp=>jj (Na (n*n) rs.flatten p),λp=>rfl⟩;simp only[af]at o s l D;clear af;obtain⟨a,dk⟩:∃a,w.alloc (.cells #[.int .i64 0,.slice none 0 0] 99)=a:=⟨_,rfl⟩;have ai:a.heap.size=w.heap.size+1:=DO;have ae:hU a w.heap.size 99 [.int .i64 0,.slice none 0 0]:=by grind [hU.new]
 have al:gm w a:=Sa;have HW:=ju ae al ai;clear ae al ai;obtain⟨M,hM⟩:∃M,n*n=M:=⟨_,rfl⟩;rw[hM]at aM o l D aO ah⊢;clear hM;obtain⟨F,G⟩:∃F,N*n=F:=⟨_,rfl⟩;rw[G]at o l aD ah;have ac:=gb G;clear G;go_enter func71,ntmps71;go_wp2_with (at_make;(try rw[dk]);refine nQ (w:=a) _ _ 45 3 (.int .i64 0) 8 rfl rfl underlying45 info3 rfl Oc a.heap.size _ M rfl rfl rfl Oa (fZ _) ?_;intro w3 Q ar aZ);have aj:gm a w3:=(f0 _ _).grown ar (fZ _) (λX h=>by cases h);rw[<-D.out]at Q;have c:=gR (show OI a.heap.size w3 (.slice (some ⟨a.heap.size,0,none⟩) M M) (f 0)from Q) aj;clear Q aj ar dk;go_wp2_with fail;go_loopw [6,7] (λV _ wr=>∃H:Nat,V= .int .i64 H/\H<=N/\OI a.heap.size wr (.slice (some ⟨a.heap.size,0,none⟩) M M) (f (H*n))/\gm a wr) (λV _ _=>N-(intOf V).toNat)
 case atStart=>exact⟨0,rfl,ge _,by rw[pH];exact c.out.1,c.out.2⟩
 case round=>
  clear c;obtain⟨H,rfl,hi,ho,J⟩:=hrel;by_cases x:H<N
  ·have aI:(H:Int)<N:=(by omega);obtain⟨aS,a0,rfl,ao⟩:=HC.out Oa;obtain⟨u,T⟩:=ao H x;obtain⟨a2,c2,M2,rfl,ag,aY,aa⟩:=(T w (f0 _ _)).2.openN;obtain rfl:n=M2:=(by rw[<-ag.out,aC.out H x]);have aB:=gb (λb (hw:gm w b)=>(T b hw).1);obtain⟨b2,a1,rfl,ap⟩:=aa.out Oa;have ab:=gb ap;have E:=gb (λj (y:j<n)=>s.out H j x y);have ad:=gd (H*n+n=(H+1)*n) (by grind);have aw:(H+1)*n<=F:=(by rw[<-ac.out];exact iB _ x);rw[Gg]at aw;have c:=gR ho J;have m1:(H:Int)*n=((H*n:Nat):Int):=(gI _ _).symm;clear ho J aa ao ap T ag s;obtain⟨t,hf⟩:∃t:Nat->Nat,∀j,(rs.getD H []).getD j 0=t j:=⟨λj=>(rs.getD H []).getD j 0,λj=>rfl⟩;simp only[hf]at ab E;clear hf;obtain⟨I,hI⟩:∃I,H*n=I:=⟨_,rfl⟩;rw[hI]at c E ad aw m1;clear hI;go_wp2;go_loopw [7] (λW wr=>∃j:Nat,W= .int .i64 j/\j<=n/\OI a.heap.size wr (.slice (some ⟨a.heap.size,0,none⟩) M M) (f (I+j))/\gm a wr) (λW _=>n-(intOf W).toNat)
   case atStart=>exact⟨0,rfl,ge _,by rw[kp];exact c.out.1,c.out.2⟩
   case round=>
    clear c;obtain⟨j,rfl,y,ho,J⟩:=hrel;by_cases au:j<n
    ·have aJ:(j:Int)<n:=(by omega);have am:=HW.out.2.1.trans (J.mono Uo);have aG:=aB.out wr am;have aX:=ab.out wr am j au;have aQ:=l.out (I+j) Oa;have an:=ho.cell (I+j) Oa;have aH:=ho.frozen (I+j);obtain⟨Z,s2⟩:=ho.stored (I+j) (t j:Nat);rw[E.out j au]at Z;have HX:=gR Z (J.grown s2 J.size (λX e=>by grind));have aP:I+j<M:=Oa;clear ho J Z s2 aQ;obtain⟨p,z⟩:∃p,I+j=p:=⟨_,rfl⟩;have m2:(I:Int)+j=p:=Oa;rw[z]at an aH HX aP;clear z;obtain⟨az,hy⟩:∃az,(f p).getD p 0=az:=⟨_,rfl⟩;rw[hy]at an;clear hy;generalize t j=a3 at*;go_wp2;go_roundw
     case rel=>exact⟨j+1,by go_num,by omega,by rw[show I+(j+1)=p+1 by omega];exact HX.out.1,HX.out.2⟩
     case measure=>exact gQ
    ·obtain rfl:j=n:=(by omega);have aJ:¬(j:Int)<j:=Oa;have HX:=gR (ho.cast (by rw[ad.out])) J;exact SM
  ·obtain rfl:H=N:=(by omega);have aI:¬(H:Int)<H:=Oa;rw[ac.out]at ho;have HO:=gb (o.out _ _ _ wr ho J.size);have HB:=gb J;clear ho J o s l HC;go_wp2_with fail;refine HO.out.mono ?_;rintro e C ⟨⟨aA,rfl⟩,Y,ak⟩;have L:=HB.out.trans ak;have i:hU C w.heap.size 99 [.int .i64 0,.slice none 0 0]:=HW.out.1.below L;have aT:C.cell? ⟨w.heap.size,0,none⟩=some (.int .i64 0):=i.cell 0;have aU:C.cell? ⟨w.heap.size,1,none⟩=some (.slice none 0 0):=i.cell 1;have aV:=i.frozen 0;have aW:=i.frozen 1;have q:=ju i Y (HW.out.2.1.trans (L.mono Uo));clear i Y ak L HO HB;go_wp2;have A:=q.out.1.stored 0 (.int .i64 n);have R:=A.1.stored 1 (.slice (some ⟨a.heap.size,0,none⟩) M M);have hF:hU ((C.setCell ⟨w.heap.size,0,none⟩ (.int .i64 n)).setCell ⟨w.heap.size,1,none⟩ (.slice (some ⟨a.heap.size,0,none⟩) M M)) w.heap.size 99 [.int .i64 n,.slice (some ⟨a.heap.size,0,none⟩) M M]:=R.1;have ax:(Value.slice (some ⟨a.heap.size,0,none⟩) M M).ownBlock≠some w.heap.size:=by
    simp only[Value.ownBlock,ne_eq,gH];have:=HW.out.2.2;exact Oa
   have aE:=((q.out.2.1.kept A.2 (.inr ax)).kept R.2 (.inr ax));have aF:=((q.out.2.2.grown A.2 q.out.2.2.size (λX e=>by grind)).grown R.2 (gt q.out.2.2.size A.2.size) (λX e=>by grind));have aK:=gV (P:=prog) _ _ _ 99 _ _ hF.range underlying99 rfl i9;refine⟨rfl,.agg #[.int .i64 n,.slice (some ⟨a.heap.size,0,none⟩) M M],?_,⟨_,_,rfl,aE.mono Uo⟩,aF⟩;show((results _ _).run _ _)=_;simp[results,f71,asAddr,aK]
section
def kI(a b:Nat):Int:=if jp a b=0 then 1 else 0
open Classical in
noncomputable def p9(P K:Nat):Nat:=if h:jp P K≠0 then Classical.choose (Ib h)else 0
noncomputable def mZ(P K:Nat):gP:=nZ (jo P (p9 P K) K)
theorem alD:GB kI mZ:=by
 intro P K i f v w;by_cases h:jp P K=0
 ·have a:kI P K=1:=gl h;refine(J0 P K i (by grind [ja]) f.prs h).mono ?_;rintro j p ⟨rfl,b⟩;exact⟨0,0,none,0,0,by rw[a];rfl,by omega,λk=>absurd (a.symm.trans k) Oc,b⟩
 ·have a:kI P K=0:=gh h;have l:p9 P K=Classical.choose (Ib h):=dif_pos h;obtain⟨c,d,e⟩:=kh (Ib h);rw[<-l]at c d e;obtain⟨r,q,s,t,_,z,A,_,y,_,_⟩:=lU h;refine(V5 P K (p9 P K) i f.prs h c d e).mono ?_;rintro j p ⟨⟨B,rfl,g⟩,b⟩;obtain⟨n,o,rfl⟩:=g.len;have x:(nZ (jo P (p9 P K) K)).length=K:=(by rw[nZ,gv,kg]);refine⟨P,K,n,_,o,by rw[a];rfl,by omega,λ_=>⟨rfl,rfl,g,λC cB=> ?_,by grind [mZ]⟩,b⟩;exact Pz
end
theorem aj9:(vF.all λp=>(List.range p.toNat).all λn=>sH p.toNat 1 (jo p.toNat n 1) 1 1==uE p.toNat 1 (jo p.toNat n 1) 1 1)=true:=OH
theorem aj8:∀K,K<7->∀P,P<9->(!(decide (2<=K)&&decide (2<=P)&&decide (P^K<=64)&&m0 P)||((List.range (P^K)).all λn=> !(yp P K (jo P n 7))||(List.range K).all λi=>(List.range K).all λj=>sH P K (jo P n K) (P^i) (P^j)==uE P K (jo P n K) (P^i) (P^j)))=true:=OH
theorem FOk.tm{P K n:Nat}(h:FOk P K n){x y:Nat}(s:x<P^K)(t:y<P^K):sH P K (jo P n K) x y=uE P K (jo P n K) x y:=by
 have a:=h.p2;have p:P<=64:=gt h.p61 Oc;have o:=h.k1;have b:=h.k6;have k:=h.q64;refine ae0 a p o b k (λf g c d e=>YE a b _ c d e) (λf g c d e=>XE a b _ c d e) (λf g c d e=>YF a b _ c d e) (λf g c d e=>XF a b _ c d e) (λ_ _=>aha a b _ _ _) (λ_ _=>Fw a b _ _ _) ?_ s t;intro v w B C;by_cases l:K=1
 ·subst l;obtain rfl:v=0:=Oa;obtain rfl:w=0:=Oa;have i:=gF.1 (gF.1 aj9 _ h.pr) n (gC.2 (by have:=h.nq;grind))
  grind
 ·have q:P<9:=by
   refine gx λA=> ?_;have j:P^2<=P^K:=gN Oa Oa;have z:9^2<=P^2:=oG Oa 2;exact Oa
  have i:=aj8 K Oa P q;have r:m0 P=true:=(by rw[zw P Oa];exact gy h.pr);rw[gy (show 2<=K by omega),gy a,gy k,r]at i;have j:=gF.1 (by simpa only[Bool.and_self,qJ,kS]using i) n (gC.2 h.nq);rw[h.ir,qJ,kS]at j;exact OK
theorem NC{P K:Nat}(h:jp P K≠0):FOk P K (p9 P K)/\∀n,n<p9 P K->yp P K (jo P n 7)=false:=by
 have f:p9 P K=Classical.choose (Ib h):=dif_pos h;obtain⟨e,a,b⟩:=kh (Ib h);rw[<-f]at e a b;obtain⟨d,c,q,r,i,l,o,j,k,p,g⟩:=lU h;obtain rfl:P=d:=Oa;obtain rfl:K=c:=Oa;exact⟨⟨i,l,o,j,k,p,by omega,g,a⟩,b⟩
theorem afK(p k:Int)(low:gP):0<=th p k low/\th p k low<=6:=by
 grind [th]
theorem ahf(p k:Int)(low es:gP):0<=x2 p k low es/\x2 p k low es<=6:=by
 have:=afK p k low
 grind [x2]
theorem acF(p k:Int)(low:gP)(x y:Int):ja (AU p k low x y):=by
 unfold AU;split
 ·rename_i h;obtain⟨e,_⟩:=ahX h;have a:jp p k≠0:=(λb=>by grind [E6]);obtain⟨P,K,rfl,rfl,_,c,d,f,g,i,_⟩:=lU a;have:=Fw (P:=P) (K:=K) Oa Oa (pD low) x.toNat y.toNat
  grind [ja]
 grind [ja]
theorem alE(E:Nat->Nat->Int)(e:Nat->Nat->gP):ZE E e (λa b c d=>x2 a b (e a b) [(c:Int),(d:Int)]) (λa b c d=>AU a b (e a b) c d):=by
 intro a b c d j k g n o p q r i f;refine(aeL a b c d j (e a b) k (by grind [ja]) (by grind [ja]) (by grind [ja]) (by grind [ja]) g.prs i f).mono ?_;rintro l s ⟨rfl,h⟩;exact⟨rfl,ahf _ _ _ _,acF _ _ _ _ _,h⟩
theorem vf(p:Int)(l:gP):0<=ku p l/\ku p l<=6:=by
 grind [ku]
def aeH(P:Nat)(s:gP)(L:Nat)(t:gP):Prop:=∃(C B:Nat->Int)(g:Nat)(b:Int),BM P (gD s) s.length C B L g b/\t=NB P C L s.length
theorem abS{P:Nat}{s:gP}{L b:Nat}{t e:gP}(i:j8 (P:Int)=true)(h:aeH P s L t)(f:aeH P s b e):L=b/\t=e:=by
 obtain⟨C,B,o,l,H,rfl⟩:=h;obtain⟨c,k,p,n,a,rfl⟩:=f;have q:=H.mini c b a.c0 a.gen;have r:=a.mini C L H.c0 H.gen;obtain rfl:L=b:=Oa;refine⟨rfl,?_⟩;unfold NB;split
 ·rfl
 ·rename_i v;unfold Lv;refine jn λj d=> ?_;have d:=gC.1 d;have g:=EI i H Oa H.c0 a.c0 H.gen a.gen (j+1) Oa;refine ou.2 (vy ?_);exact te ((yO).2 g) (show-(C (j+1)-c (j+1))=_ by omega)
theorem qC{p:Int}{seen:gP}(h:ku p seen=0):j8 p=true/\seen.length<=60/\nD p seen=true:=by
 have b:j8 p=true:=by
  cases c:j8 p with
  |true=>rfl
  |false=>unfold ku at h;grind
 have a:seen.length<=60:=by
  refine gx λd=> ?_;unfold ku at h;exact Oa
 refine⟨b,a,?_⟩;cases c:nD p seen with
 |true=>rfl
 |false=>unfold ku at h;grind
def akE(a:Nat×gA)(r:Int×gP):Prop:=(ja r.1/\(∀x∈r.2,ja x)/\r.2.length<=60)/\(ku a.1 (gr a.2)≠0->r=(0,[]))/\(ku a.1 (gr a.2)=0->∀L t,aeH a.1 (gr a.2) L t->r=((L:Int),t))
theorem T4(a:Nat×gA):∃r,akE a r:=by
 by_cases h:ku a.1 (gr a.2)=0
 ·obtain⟨e,l,k⟩:=qC h;by_cases b:∃L t,aeH a.1 (gr a.2) L t
  ·obtain⟨L,t,f⟩:=b;refine⟨((L:Int),t),?_,λc=>absurd h c,λ_ g q d=> ?_⟩
   ·obtain⟨C,B,j,i,H,rfl⟩:=f;have o:=kC e;have n:=H.ln
    dsimp only
    refine⟨by grind [ja],λx b=> ?_,?_⟩
    ·unfold NB at b;split at b
     ·cases b
     ·have:=Z8 (p:=(a.1:Int)) Oa C L x b
      grind [ja]
    grind [NB,y9]
   grind [abS]
  ·exact⟨(0,[]),⟨by grind [ja],by simp,by simp⟩,λ_=>rfl,λ_ L t d=>absurd ⟨L,t,d⟩ b⟩
 ·exact⟨(0,[]),⟨by grind [ja],by simp,by simp⟩,λ_=>rfl,λc=>absurd c h⟩
noncomputable def ajs(a:Nat×gA):Int×gP:=Classical.choose (T4 a)
theorem wl(a:Nat×gA):akE a (ajs a):=kh (T4 a)
noncomputable def yI(p:Nat)(l:gA):Int:=(ajs (p,l)).1
noncomputable def xE(p:Nat)(l:gA):gP:=(ajs (p,l)).2
theorem Ff(p:Nat)(l:gA):ja (yI p l)/\(∀x∈xE p l,ja x)/\(xE p l).length<=60:=(wl (p,l)).1
theorem Fe{p:Nat}{l:gA}(h:ku p (gr l)=0){C B:Nat->Int}{L g:Nat}{b:Int}(H:BM p (gD (gr l)) (gr l).length C B L g b):yI p l=(L:Int)/\xE p l=NB p C L (gr l).length:=by
 have:=(wl (p,l)).2.2 h L _ ⟨C,B,g,b,H,rfl⟩;exact⟨jA Prod.fst this,jA Prod.snd this⟩
theorem alB:ZC (λv t=>ku v (gr t)) yI xE:=by
 intro a b j k F E f;have i:=re f.2.1;have h:=Ff a b;by_cases c:ku a (gr b)=0
 ·obtain⟨s,r,q⟩:=qC c;refine(Wi a j (gr b) k f.1 s r q i).mono ?_;rintro e z ⟨⟨y,C,B,L,D,A,rfl,g,H⟩,d⟩;obtain⟨l,n⟩:=Fe c H;rw[<-n]at g;obtain⟨w,x,e⟩:=g.len;refine⟨y,by grind,vf _ _,λ_=>⟨h.1,g.sl Oa,h.2.1,by omega⟩,⟨w,_,x,e⟩,d⟩
 ·have p:=(wl (a,b)).2.1 c;have l:yI a b=0:=jA Prod.fst p;refine(Lg a j (gr b) k f.1 i c).mono ?_;rintro e z ⟨rfl,d⟩;exact⟨.slice none 0 0,by grind,vf _ _,λo=>absurd o c,⟨_,_,_,rfl⟩,d⟩
def mn(m k:Nat):Int:=if k<1\/30<k then 1 else if 1000000000<m then 3 else 0
theorem zX(m k:Nat):0<=mn m k/\mn m k<=6:=by
 grind [mn]
theorem ajL:Lb mn (λm k=>mp (jr k m)):=by
 intro m k c r p q;by_cases d:k<1\/30<k
 ·have b:mn m k=1:=gl d;refine(x4 m k c Oa).mono ?_
  grind
 have b:mn m k=0:=by unfold mn;omega
 refine(zL m k c Oa Oa Oa).mono ?_;rintro e v ⟨⟨o,rfl,a⟩,f⟩;obtain⟨l,n,e⟩:=a.len;have s:=pW k m;have t:(mp (jr k m)).length=(jr k m).length:=Ka;refine⟨o,by rw[b],zX _ _,λ_=>⟨a.sl Oa,λx h=> ?_,by grind⟩,⟨l,_,n,e⟩,f⟩;obtain⟨y,i,rfl⟩:=gK.1 h;obtain⟨j,g,rfl⟩:=je i;have:=(oK k m j Oa Oa g).2.2.2
 grind [ja]
theorem ajM:Lc mn (λm k=>if mn m k=0 then((BF k (jr k m) (jr k m).length:Nat):Int)else 0):=by
 intro m k b j f g;by_cases c:k<1\/30<k
 ·have a:mn m k=1:=gl c;refine(V8 m k b Oa).mono ?_
  grind
 have a:mn m k=0:=by unfold mn;omega
 refine(Zn m k b Oa Oa Oa).mono ?_;rintro e n ⟨rfl,d⟩;have l:=pW k m;have h:=CW (k:=k) (m:=m) Oa Oa _ (fZ _);have i:(jr k m).length*30000000000<=30*30000000000:=iB _ Oa;refine⟨by grind,zX _ _,λ_=> ?_,d⟩
 dsimp only
 rw[gl a]
 grind [ja]
theorem Lw(p:Addr)(w:World):
 CallsD prog 14 #[.pointer (some p)] .returning w λe d f=>e= .returned (.tuple #[])/\d= .returning/\gm w f:=by
 refine callsD_of_wpS func14 rfl λb g c=> ?_;have a:=gb (f0 w.heap.size w);apply wpS_seq;apply wpS_region;simp[wpOpsS,go_sem,recoverD,c,ntmps14,Exit.thenS];refine wpS_of_wp ?_;go_wp2;cases b
 simp_all [bodyPostS,results,f14]
 exact a.out
theorem GW(b:Nat)(x s:ByteArray)(a:List PanicEntry)(w:World)(k:w.cell? ⟨b,0,none⟩=some (.string x))(l:w.frozen? ⟨b,0,none⟩=false):
 CallsD prog 14 #[.pointer (some ⟨b,0,none⟩)] (.panicking ({v:= .iface 36 (.string s),recovered:=false}::a)) w λe d f=>e= .returned (.tuple #[])/\d= .panicking ({v:= .iface 36 (.string s),recovered:=true}::a)/\f=w.setCell ⟨b,0,none⟩ (.string s):=by
 have g:=λ(v:Value)(w:World)=>oJ (P:=prog) (t:=36) (xT:=20) underlying36 (λm h=>by cases h) v w;refine callsD_of_wpS func14 rfl λj i c=> ?_;apply wpS_seq;apply wpS_region;simp[wpOpsS,go_sem,recoverD,c,ntmps14,Exit.thenS];refine wpS_of_wp ?_;go_wp2
 simp_all [bodyPostS,results,f14]
theorem WV{n:Nat}{rs:kl}(h:po n rs=0):nh n rs=0:=by
 have e:rs.length<=n/\xu n [] rs=0:=by
  grind [po]
 obtain⟨f,b⟩:=e;obtain⟨_,a⟩:=Ai rs [] b;obtain⟨c,d⟩:=v7 rs [] b;rw[ko]at a;obtain⟨_,g⟩:=ER (n-rs.length) rs.length rs.flatten Oa (abR c d a);unfold nh;exact OK
theorem aa2(n:Nat)(rs:kl):nh n rs=po n rs:=by
 by_cases h:po n rs=0
 ·rw[WV h,h]
 ·exact QV
theorem Xz(n:Nat)(r:kl)(nv K j:Value)(B:Nat)(w:World)(hn:OI B w nv (gr [n]))(hr:RL w j (r.map gr)):
 Calls prog 20 #[.string (gJ [101,120,116,101,110,100]),nv,K,j] w (oE (if nh n r=0 then kL (Gq n (jj (tg n r)))else iJ (nh n r)) w):=by
 refine oE.in λN av d k=> ?_;have Y:=Hm n r;have F:nh n r=0->(1<=n/\n<=8)/\(jj (tg n r)).length=n*n/\∀x∈jj (tg n r),0<=x/\x<=8:=λh=>by
  obtain⟨h1,_,h3,h4⟩:=xw h;refine⟨h1,by rw[jw,h3],λx g=> ?_⟩;unfold jj at g
  grind
 have au:(prog.info? 99).map (·.size)=some 2:=Ob;have z:=gb (Cg n j r w hr);have A:=gb (λ(h:nh n r=0)(w1:World)(a:gm w w1)=>XU n j r w1 (hr.below a) (by grind [aa2]));have y:=gd (nh n r≠0->N=iJ (nh n r)) (λh=>by rw[<-d.out,gh h]);have v:=gd (nh n r=0->N=kL (Gq n (jj (tg n r)))) (λh=>by rw[<-d.out,gl h]);clear d;rw[<-aa2]at z;obtain⟨aj,aa,rfl,T⟩:=hn.nums (n:=1) rfl Oc;have S:=gd (∀q,gm w q->q.cell? ⟨aj,0,none⟩=some (.int .i64 n)) (λq a=>T.out q a 0 Oc);clear hn T;have c0:=S.out w (f0 _ _);obtain⟨ra,rc,rN,an⟩:∃O aa ai,j= .slice O ai aa:=UW;subst an;clear hr;generalize nh n r=E at*;generalize jj (tg n r)=V at*;have L:((gJ [101,120,116,101,110,100]).toList==[101,120,116,101,110,100])=true:=Ol;generalize gJ [101,120,116,101,110,100]=aG at*;go_enter func20,ntmps20;go_wp2_with fail;refine z.out.mono ?_;rintro e M ⟨rfl,ab⟩;have i:=gb ab;clear c0 ab z;by_cases l:E=0
 ·subst l;obtain⟨⟨al,o⟩,Z,g⟩:=F rfl;have R:=gb (A.out rfl M i.out);have ag:=gb (v.out rfl);have C:=gR Z g;clear A F y v Z g;have d0:=S.out M i.out;go_wp2_with fail;refine R.out.mono ?_;rintro e c ⟨⟨b,f,rfl,D⟩,ac⟩;have P:=gb (i.out.trans (ac.mono i.out.size));have U:=gb (D.sl (by have:=gE o o;rw[C.out.1];omega));have aw:n*n<=f:=D.cap;have W:hU (c.alloc (.cells #[.int .i64 0,.slice none 0 0] 99)) c.heap.size 99 [.int .i64 0,.slice none 0 0]:=hU.new c _ _;clear D ac R d0
  go_wp2_with (first
   |(refine ke rfl 99 _ _ rfl c.heap.size [.int .i64 n,.slice (some ⟨b,0,none⟩) (n*n) f] rfl rfl W rfl au (zg _ _ _ _) ?_
     intro s X ad;have G:gm c s:=((f0 _ _).alloc (fZ _) _).grown ad On (λaB e=>by grind);have d:=gb X;have ah:=gb (U.out.below G);have Q:=gb (P.out.trans (G.mono P.out.size))
     clear X ad G W U))
  go_loopw [12,13] (λK I wr=>∃t:Nat,I= .int .i64 t/\t<=n/\Ow 45 s.heap.size wr K (Eh b 0 f n t)/\gm s wr) (λ_ I _=>n-(intOf I).toNat)
  case atStart=>exact⟨0,rfl,ge _,Ow.nil _ _ _,f0 _ _⟩
  case round=>
   clear L;obtain⟨t,rfl,ht,p,a⟩:=hrel;have af:=a.size;by_cases ap:t<n
   ·have ao:(t:Int)<n:=(by omega);have hm:=xL ap;obtain⟨J,ae⟩:∃J,t*n=J:=⟨_,rfl⟩;have m1:(t:Int)*n=J:=Oa;rw[ae]at hm;have az:n*n<=64:=gE o o;have L:wr.cell? ⟨c.heap.size,0,none⟩=some (.int .i64 n):=(d.out.below a).cell 0;have q1:wr.cell? ⟨c.heap.size,1,none⟩=some (.slice (some ⟨b,0,none⟩) (n*n) f):=(d.out.below a).cell 1;have HB:=gb a;have ar:(Eh b 0 f n t).length<=1000000000000:=(by grind [Eh]);have aq:(Eh b 0 f n t).length=t:=(by simp[Eh]);clear ae a;go_wp2_with (at_builtin;refine jt wr _ _ 46 45 (.slice none 0 0) 24 rfl rfl underlying46 info45 rfl Oc s.heap.size _ (Eh b 0 f n t) rfl p rfl rfl ar af ?_;intro g3 c3 aH am ak ax ay);go_roundw
    case rel=>
     have h9:=am;rw[aq]at h9;refine⟨t+1,by go_num,by omega,?_,HB.out.grown ak af (λb e=>(p.lt b e).1)⟩
     grind [Jh]
    case measure=>exact gQ
   ·obtain rfl:t=n:=(by omega);have ao:¬(t:Int)<t:=Oa;have L:wr.cell? ⟨c.heap.size,0,none⟩=some (.int .i64 t):=(d.out.below a).cell 0;have H:=adK p (ah.out.below a) C.out.1 al Oa;obtain⟨aD,aE,aF,rfl,_,_,_⟩:=H.open
    have HT:=gb (sj _ (Gq t V) wr H (λaC hl=>by
     simp only[Gq,gK,gC]at hl;obtain⟨aA,hi,rfl⟩:=hl
     refine⟨λx g=>by have:=C.out.2 x (nU (nV g));omega,by grind⟩) (by grind [Gq]))
    have bo:=gb (k.out (kL (Gq t V)) 0 wr (Q.out.trans (a.mono Q.out.size)) Oc ag.out);clear p H a k;go_wp2_with fail;refine HT.out.mono ?_;exact PQ
 ·have hz:(E !=0)=true:=iT.2 l;have bo:=gb (k.out [] E M i.out Y ((y.out l).trans (gh l).symm));clear k A Y F v y;exact Ot
theorem afY{p b:Int}(a:p=2\/p=3\/p=5\/p=7)(d:¬p∣b):∃c,p∣c*b-1:=by
 rcases a with rfl|rfl|rfl|rfl
 ·grind
 ·rcases(show b%3=1\/b%3=2 by omega)with h|h
  ·exact⟨1,by omega⟩
  grind
 ·rcases(show b%5=1\/b%5=2\/b%5=3\/b%5=4 by omega)with h|h|h|h
  ·exact⟨1,by omega⟩
  ·exact⟨3,by omega⟩
  ·exact⟨2,by omega⟩
  grind
 ·rcases(show b%7=1\/b%7=2\/b%7=3\/b%7=4\/b%7=5\/b%7=6 by omega)with h|h|h|h|h|h
  ·exact⟨1,by omega⟩
  ·exact⟨4,by omega⟩
  ·exact⟨5,by omega⟩
  ·exact⟨2,by omega⟩
  ·exact⟨3,by omega⟩
  grind
theorem Z9{p:Nat}(d:j8 (p:Int)=true)(s:Nat->Int):∀n,∃(C B:Nat->Int)(L g:Nat)(b:Int),BM p s n C B L g b/\¬(p:Int)∣b
 |0=>⟨λi=>if i=0 then 1 else 0,λi=>if i=0 then 1 else 0,0,1,1,BM.start p s _ _ rfl (λi h=>gh Oa) (λi h=>gh Oa) 1,by rcases kC d with h|h|h|h<;>rw[h]<;>decide⟩
 |n+1=>by
  obtain⟨C,B,L,g,b,H,a⟩:=Z9 d s n;by_cases c:(p:Int)∣lq s C L n
  ·exact⟨C,B,L,g+1,b,H.same c,a⟩
  ·obtain⟨j,k⟩:=afY (kC d) a;have f:(p:Int)∣lq s C L n*j*b-lq s C L n:=by
    have:=iY (b:=lq s C L n) k
    grind
   by_cases e:2*L<=n
   ·exact⟨_,_,_,_,_,H.grow (size:=n+2) Oa f c OK e,c⟩
   ·exact⟨_,_,_,_,_,H.keep (size:=n+2) Oa f e,a⟩
theorem Xj(p:Nat)(v:Value)(l:gA)(w:World)(g:Sl w v (gr l)):Calls prog 62 #[.int .i64 p,v] w λe V=>(∃h,e= .returned (.tuple #[.int .i64 (yI p l),h,.int .i64 (ku p (gr l))])/\OI w.heap.size V h (xE p l))/\gm w V:=by
 by_cases a:ku p (gr l)=0
 ·obtain⟨f,n,k⟩:=qC a;obtain⟨C,B,L,j,i,H,_⟩:=Z9 (p:=p) f (gD (gr l)) (gr l).length;obtain⟨b,c⟩:=Fe a H;rw[b,c,a];exact J5 p v (gr l) w g f n k C B L j i H
 ·have d:=(wl (p,l)).2.1 a;have b:yI p l=0:=jA Prod.fst d;have c:xE p l=[]:=jA Prod.snd d;rw[b,c];refine(Gz p v (gr l) w g a).mono ?_;exact D0
theorem alm{p:Nat}{l:gA}:0<=yI p l/\BQ (xE p l):=by
 by_cases d:ku p (gr l)=0
 ·obtain⟨f,j,i⟩:=qC d;obtain⟨C,B,L,h,g,H,_⟩:=Z9 (p:=p) f (gD (gr l)) (gr l).length;obtain⟨b,c⟩:=Fe d H;rw[b,c];refine⟨by omega,λx a=> ?_⟩;have k:=kC f;unfold NB at a;split at a
  ·cases a
  ·have:=Z8 (p:=(p:Int)) Oa C L x a;exact Oa
 ·have e:=(wl (p,l)).2.1 d;have b:yI p l=0:=jA Prod.fst e;have c:xE p l=[]:=jA Prod.snd e;rw[b,c];exact⟨qR 0,λx a=>by cases a⟩
theorem acc(p:Nat)(l:gA)(Q P rv:Value)(B aa:Nat)(w:World)(I:OI B w Q (gr [p]))(H:OL B aa w P ([l].map gr))(h0:l.length<=10001):
 Calls prog 19 #[.string (gJ [108,101,97,115,116]),Q,P,rv] w (oE (if ku p (gr l)=0 then Lib.itoa (yI p l)++32::ji (xE p l)else iJ (ku p (gr l))) w):=by
 refine oE.in λR az f s=> ?_;have D:=vf p (gr l);have o:=Ff p l;obtain⟨M,N⟩:=alm (p:=p) (l:=l);have ac:(gr l).length=l.length:=Uy;obtain⟨g,A,rfl,x⟩:=I.nums (n:=1) rfl Oc;have bv:=gd (∀V,gm w V->V.cell? ⟨g,0,none⟩=some (.int .i64 p)) (λV J=>x.out V J 0 Oc);clear I x;obtain⟨d,C,rfl,t⟩:=H.lists (n:=1) rfl Oc;obtain⟨u0,L⟩:=t.out 0 Oc;have y:=gd (∀V,gm w V->V.cell? ⟨d,0,none⟩=some u0/\OI B V u0 (gr l)) L;clear H t L;have HF:=gb (λa (J:gm w a)=>Xj p u0 l a ((y.out a J).2.sl Oa));have i:=gb (λa=>nK (yI p l) M o.1 a);have j:=gb (λ(v:Value)(B:Nat)(a:World)(ho:OI B a v (xE p l))=>lW v _ a (ho.sl Oa) N Oa);have ab:=mf o.1;have af:(ji (xE p l)).length<=2000:=by
  grind [ji,tu]
 clear o M N ac;generalize ku p (gr l)=ae at*;generalize yI p l=am at*;generalize xE p l=Y at*;obtain⟨b,E⟩:∃b,Lib.itoa am=b:=⟨_,rfl⟩;obtain⟨c,F⟩:∃c,ji Y=c:=⟨_,rfl⟩;rw[E]at f i ab;rw[F]at f j af;have S:=gd (R=if ae=0 then b++32::c else iJ ae) f.out.symm;have z1:=iw b;have z2:=iw c;have z3:=iw (b++[32]);rw[gz,jQ]at z3;have U:=gd (gJ b++(⟨#[32]⟩:ByteArray)=gJ (b++[32])) Uj;have W:=gd (gJ (b++[32])++gJ c=gJ (b++32::c)) Do;clear E F f;generalize gJ b=s1 at*;generalize gJ c=s2 at*;generalize gJ (b++[32])=s3 at*;have q0:((gJ [108,101,97,115,116]).toList==[102,105,101,108,100])=false:=Ol;have q1:((gJ [108,101,97,115,116]).toList==[116,105,109,101,115])=false:=Ol;have q2:((gJ [108,101,97,115,116]).toList==[114,111,119])=false:=Ol;have q3:((gJ [108,101,97,115,116]).toList==[108,101,97,115,116])=true:=Ol;generalize gJ [108,101,97,115,116]=aC at*;go_enter func19,ntmps19;go_wp2_with fail;have X:=gd (∀V,gm w V->V.cell? ⟨d,0,none⟩=some u0) (λV J=>(y.out V J).1);refine ky [138,139,140,141,142,143,144,137,145,146,147,22,23,24] [λv _=>v= .slice (some ⟨g,0,none⟩) 1 A,λv _=>v= .pointer (some ⟨g,0,none⟩),λv _=>v= .int .i64 (p:Int),λv _=>v= .slice (some ⟨d,0,none⟩) 1 C,λv _=>v= .pointer (some ⟨d,0,none⟩),λv _=>v=u0,λv V=>∃ag,v= .tuple #[.int .i64 am,ag,.int .i64 ae]/\OI w.heap.size V ag Y,λv V=>∃ag,v= .tuple #[.int .i64 am,ag,.int .i64 ae]/\OI w.heap.size V ag Y,λv _=>v= .int .i64 am,λv V=>OI w.heap.size V v Y,λv _=>v= .int .i64 ae,λv _=>v= .int .i64 am,λv V=>OI w.heap.size V v Y,λv _=>v= .int .i64 ae] (λV=>gm w V) (λa aj=>gm a aj) (100,0) Ob Ob rfl ⟨g5 _,g5 _,g5 _,g5 _,g5 _,g5 _,λv a aj h _ _ J=>h.elim λag h=>⟨ag,h.1,h.2.below J⟩,λv a aj h _ _ J=>h.elim λag h=>⟨ag,h.1,h.2.below J⟩,g5 _,λv a aj h _ _ J=>OI.below h J,g5 _,g5 _,λv a aj h _ _ J=>OI.below h J,g5 _,trivial⟩ ((f0 _ _).drew) ⟨?_,?_,?_,?_,?_,?_,?_,?_,?_,?_,?_,?_,?_,?_,trivial⟩ ?_
 ·exact KG
 ·intro O V K J hf hd hK;have h3:O.tmps[138]?.getD undef= .slice (some ⟨g,0,none⟩) 1 A:=iW (hd 0 Oc Ob rfl);exact QZ
 ·intro O V K J hf hd hK;have h3:O.tmps[139]?.getD undef= .pointer (some ⟨g,0,none⟩):=iW (hd 1 Oc Ob rfl);exact Rz
 ·exact P9
 ·intro O V K J hf hd hK;have h3:O.tmps[141]?.getD undef= .slice (some ⟨d,0,none⟩) 1 C:=iW (hd 3 Oc Ob rfl);exact QZ
 ·intro O V K J hf hd hK;have h3:O.tmps[142]?.getD undef= .pointer (some ⟨d,0,none⟩):=iW (hd 4 Oc Ob rfl);have aV:=X.out V J;exact QZ
 ·intro O V K J hf hd hK;have aA:O.eval (.tmp 140)= .int .i64 (p:Int):=hd 2 Oc Ob rfl;have aB:O.eval (.tmp 143)=u0:=hd 5 Oc Ob rfl;refine nf _ _ _ #[.int .i64 (p:Int),u0] rfl (by grind) _ func62 Ob Ob ?_;exact Po
 ·exact KS
 ·exact Q5
 ·intro O V K J hf hd hK;have h3:=hd 7 Oc Ob rfl;obtain⟨ag,h3,hu⟩:=h3;have h4:O.tmps[137]?.getD undef= .tuple #[.int .i64 am,ag,.int .i64 ae]:=iW h3;exact Qf
 ·exact Q5
 ·exact Q4
 ·exact Q7
 ·intro O V K J hf hd hK;have h3:=hd 10 Oc Ob rfl;exact KH
 rintro ay aj ⟨ai,ak,an,ao,ap,aq,au,av,aw,ax,al,k,r,q,_⟩ G ad;clear ai ak an ao ap aq au av aw ax al;simp only[Nat.reduceAdd]at k r q;simp only[j7,Act.put,gU,io,iC,Nat.reduceAdd];rw[k,q];generalize ay 12=v at*;have T:=gb (i.out aj);have Z:=gb (j.out v _ aj r);have z:=gb (s.out _ ae aj G D S.out);clear k q r G i j s D ad HF;go_wp2_with fail;refine T.out.mono ?_;rintro e w8 ⟨rfl,ah⟩;subst ah;go_wp2_with fail;refine Z.out.mono ?_;rintro e w9 ⟨rfl,rfl⟩;go_wp2
 (try rw[U.out])
 (try rw[W.out])
 first|exact z.out|(go_ret2;exact z.out)
theorem Vy{e:Nat}:∀(k:Nat)(l r:gA),Mks e l->tF e k l=some r->Mks e r
 |0,l,r,b,h=>by
  grind [tF]
 |k+1,l,r,b,h=>by
  rw[tF,lI]at h;obtain⟨g,m,i,d,a,_⟩:=h;have f:m∈rbC e (k+1) (l.getLastD 0):=(by grind);have c:l.getLastD 0<m/\m<=e:=by
   grind [rbC]
  split at a
  ·exact Vy k _ r (b.snoc c.1 c.2) a
  ·cases a
theorem VD{n:Nat}:∀f e,f+e<=1000->∀x∈xW n f e,x<=1000
 |0,e,_,x,a=>by cases a
 |f+1,e,h,x,a=>by
  rw[xW]at a;cases b:tF e (n-1) [0]with
  |some r=>
   rw[b]at a;have c:=Vy (n-1) [0] r (ajD e) b;obtain⟨i,d,rfl⟩:=je a;have:=c.bd i d
   grind
  |none=>
   rw[b]at a;exact VD f (e+1) Oa x a
theorem I8{n:Nat}:∀f e,(xW n f e).length<=n+1
 |0,e=>by simp[xW]
 |f+1,e=>by
  rw[xW];split
  ·rename_i r a;have:=FH (n-1) [0] r a
   grind
  ·exact I8 f (e+1)
theorem FN(n:Nat):(∀x∈qO n,ja x)/\(qO n).length<=8:=by
 unfold qO;split
 ·rename_i h;refine⟨λx a=> ?_,?_⟩
  ·unfold jj at a;obtain⟨y,b,rfl⟩:=gK.1 a;have:=VD 100 (n-1) Oa y b
   grind [ja]
  grind [jw,I8]
 grind
def vp(n:Nat):Int:=if 1<=n/\n<=7 then 0 else 1
theorem I7(n:Nat):0<=vp n/\vp n<=6:=by grind [vp]
theorem alI:ZI vp qO:=by
 intro n b f d;have g:=FN n;by_cases h:1<=n/\n<=7
 ·have a:vp n=0:=gl h;refine(aeB n b h.1 h.2).mono ?_
  grind
 ·have a:vp n=1:=gh h;refine(Zk n b h).mono ?_;rintro e i ⟨rfl,rfl⟩;exact⟨_,by rw[a],I7 _,λc=>absurd (a.symm.trans c) Oc,⟨_,_,_,rfl⟩,f0 _ _⟩
theorem G3:∀n,n<=16->((Ts n).all (λm=>m.all (λx=>decide (0<=x/\x<1000))&&decide (m.length<=1000))&&decide ((Ts n).length<=1000))=true:=OH
theorem RP{n:Nat}(h:x1 n=true):n<=16:=by
 unfold x1 at h
 grind
theorem aao{n:Nat}(h:x1 n=true):(∀m∈Ts n,(∀x∈m,ja x)/\m.length<=1000)/\(Ts n).length<=1000:=by
 have a:=G3 n (RP h);simp only[ia,iK,gF]at a
 grind [ja]
theorem alw:Zx (λa=>if x1 a=true then 0 else 1) Ts:=by
 intro a c p o;by_cases h:x1 a=true
 ·obtain⟨d,f⟩:=aao h;refine(V2 a c h).mono ?_;rintro e n ⟨⟨l,rfl,b⟩,i⟩;obtain⟨j,k,e⟩:=b.len;refine⟨l,by grind,by grind,λ_=>⟨b.rl Oa (λr q=> ?_),d,f⟩,⟨j,_,k,e⟩,i⟩
  grind
 ·refine(JV a c (by grind)).mono ?_;rintro e n ⟨rfl,rfl⟩;exact⟨.slice none 0 0,by grind,by grind,λg=>absurd g (by grind),⟨_,_,_,rfl⟩,f0 _ _⟩
section
theorem afd(k F:Nat):(#[Value.int .i64 k,.func (Fn.func F) #[] #[]]:Array Value).all (·.oneCell')=true:=SO
section
variable {P:Program} {o:Oper} {a:Act} {w:World} {K:Act->World->Prop} {Q:Exit->Act->World->Prop}
theorem WL(f n:Nat)(args:Array Operand)(q:Array TypeId)(c:Array Value)(l:o.op= .call {callee:= .value (.tmp n),args:=args,argTypes:=q})(p:a.tmps[n]?.getD undef= .func (Fn.func f) #[] #[])(j:args.map a.eval=c)(b:Func)(k:P.funcs[f]? =some b)(g:(b.name== "runtime.NumGoroutine")=false)(d:b.body.isNone=false)(ao:Calls P f c w λe V=>(∃v,e= .returned v/\K (a.put o.dst v) V)\/(∃ch,e= .panicked ch/\Q (.panic ch) a V)):Oper.wp P o a w K Q:=by
 unfold Oper.wp;have:(execOp a.eval o).run P w= .ok (.enter f c) w:=by
  unfold execOp;rw[l];have h:b.name≠ "runtime.NumGoroutine" :=(by simpa using g);have i:b.body≠none:=(by intro e;rw[e]at d;cases d);simp[resolve,Act.eval,j,go_sem,callFunc,k,h,i,p]
 exact U2
end
theorem WH:(zZ++yg).all (λc=>decide (1<=c.2.1)&&(match prog.funcs[c.2.2]? with|some a=> !(a.name== "runtime.NumGoroutine")&& !a.body.isNone|none=>false))=true:=Ob
theorem Ly{T:iF}{k F:Nat}(h:oX T=some (k,F)):1<=k/\∃a,prog.funcs[F]? =some a/\(a.name== "runtime.NumGoroutine")=false/\a.body.isNone=false:=by
 unfold oX at h;obtain⟨d,f,e⟩:=wZ.1 h;have i:=tO f;have c:=gF.1 WH d i;rw[e]at c;simp only[ia,iK]at c;refine⟨c.1,?_⟩;have b:=c.2;split at b
 ·rename_i a g;simp only[ia,pE]at b;exact⟨a,g,b.1,b.2⟩
 ·cases b
def oV(A:iF->j9->iF)(s:iF):iF:=
 match oX ((pj 32 s).getD 0 [])with
 |some (k,F)=>if(pj 32 s).length=k+1 then A ((pj 32 s).getD 0 []) ((pj 32 s).drop 1)else badT
 |none=>badT
def JW(A:iF->j9->iF):Prop:=∀T k F,oX T=some (k,F)->∀a v w,a.length=k->jO w->SS w v a->(∀t∈a,t.length<=10000)->Calls prog F #[v] w (TE (A T a) w)
theorem tr(R:Ending->World->Prop)(tmps:Array Value)(b:Nat)(x:ByteArray)(t:iF)(w:World)(a:hU w b 9 [.string x])(d:tmps[2]?.getD undef= .pointer (some ⟨b,0,none⟩))(h:R (.returned (.string (gJ t))) (w.setCell ⟨b,0,none⟩ (.string (gJ t)))):
 Leaves prog f9 tmps R [{target:= .fn (Fn.func 14) #[.pointer (some ⟨b,0,none⟩)],args:= #[]}] (.panicking [{v:= .iface 36 (.string (gJ t)),recovered:=false}]) w:=by
 refine leaves_cons (f:=14) (args:= #[.pointer (some ⟨b,0,none⟩)]) On (by simp[go_sem]) ?_;refine(GW b x (gJ t) [] w (a.cell 0) (a.frozen 0)).mono ?_;rintro e g i ⟨rfl,rfl,rfl⟩;have c:(w.setCell ⟨b,0,none⟩ (.string (gJ t))).cell? ⟨b,0,none⟩=some (.string (gJ t)):=(a.stored 0 (.string (gJ t))).1.cell 0;simp[Leaves,settle,results,f9,go_sem,d,c,asAddr];exact h
theorem Nu(R:Ending->World->Prop)(tmps:Array Value)(b:Nat)(t:iF)(w:World)(e:hU w b 9 [.string (gJ t)])(j:tmps[2]?.getD undef= .pointer (some ⟨b,0,none⟩))(h:∀c,gm w c->R (.returned (.string (gJ t))) c):
 Leaves prog f9 tmps R [{target:= .fn (Fn.func 14) #[.pointer (some ⟨b,0,none⟩)],args:= #[]}] .returning w:=by
 refine leaves_cons (f:=14) (args:= #[.pointer (some ⟨b,0,none⟩)]) On (by simp[go_sem]) ?_;refine(Lw ⟨b,0,none⟩ w).mono ?_;rintro k l d ⟨rfl,rfl,a⟩;have i:d.cell? ⟨b,0,none⟩=some (.string (gJ t)):=(e.below a).cell 0;have g:=h d a;simp[Leaves,settle,results,f9,go_sem,j,i,asAddr];exact g
theorem Lm(A:iF->j9->iF)(HC:JW A)(s:iF)(w:World)(hs:s.length<=8000)(N:jO w):
 Calls prog 9 #[.string (gJ s)] w λj c=>j= .returned (.string (gJ (oV A s)))/\gm w c:=by
 have O:Below w.heap.size w (w.alloc (.cells #[.string ByteArray.empty] 9)):=(f0 _ _).alloc (fZ _) _;have Z:hU (w.alloc (.cells #[.string ByteArray.empty] 9)) w.heap.size 9 [.string ByteArray.empty]:=hU.new w _ _;have J:=gb (FU s (w.alloc (.cells #[.string ByteArray.empty] 9)) Oa (N.below O).lib 32);have E:=gR Z O;have aw:=gb (λ(w1:World)(d:gm w w1)=>N.below d)
 have H:Hid (oV A s=match oX ((pj 32 s).getD 0 [])with
 |some (k,F)=>if(pj 32 s).length=k+1 then A ((pj 32 s).getD 0 []) ((pj 32 s).drop 1)else badT
 |none=>badT):=gb rfl
 have R:0<(pj 32 s).length:=by rw[um];omega
 have aq:=gb (λx hx=>gt (oO 32 s x hx) hs);have aB:=sf 32 s;clear O Z N;generalize pj 32 s=g at*;obtain⟨p,M⟩:∃p,g.length=p:=⟨_,rfl⟩;rw[M]at J aB R;have ec:=gb M;clear M;go_enter_defers func9,ntmps9;go_wp2_with fail;refine J.out.mono ?_;rintro j w4 ⟨l,rfl,S,o⟩;have U:=gb (E.out.2.trans (o.mono E.out.2.size));have am:=gb (E.out.1.below o);have au:=gb S;have ac:=S.cell 0 (by rw[gv,ec.out];exact R);have ad:(g.map λx=>Value.string (gJ x))[0]? =some (.string (gJ (g.getD 0 []))):=by
  have:0<g.length:=(by rw[ec.out];exact R);simp[this]
 rw[ad]at ac;have V:=gb (aa6 (g.getD 0 []) w4);have aM:(0:Int)<p:=Oa;clear o ad S J;generalize g.getD 0 []=X at*;go_wp2_with fail;refine V.out.mono ?_;rintro j a ⟨n,z⟩;have h:=gb (U.out.trans (z.mono U.out.size));have G:=gb (am.out.below z);have av:=gb (au.out.below z);clear z V ac;rcases n with⟨k,F,B,rfl⟩|⟨B,rfl⟩
 ·have L:hU (a.alloc (.cells #[.int .i64 0,.nilFunc] 41)) a.heap.size 41 ([]++[.int .i64 0,.nilFunc]):=hU.new a _ _;have D:(a.alloc (.cells #[.int .i64 0,.nilFunc] 41)).there a.heap.size 0 (#[Value.int .i64 k,.func (Fn.func F) #[] #[]]).size:=L.there;have ak:hU ((a.alloc (.cells #[.int .i64 0,.nilFunc] 41)).setCells a.heap.size 0 [Value.int .i64 k,.func (Fn.func F) #[] #[]]) a.heap.size 41 [Value.int .i64 k,.func (Fn.func F) #[] #[]]:=hU.setCells _ [] [.int .i64 0,.nilFunc] _ L rfl;have ai:=iu (b:=a.heap.size) [Value.int .i64 k,.func (Fn.func F) #[] #[]] 0 (a.alloc (.cells #[.int .i64 0,.nilFunc] 41));have o:=((f0 a.heap.size a).alloc (fZ _) (.cells #[.int .i64 0,.nilFunc] 41)).grown ai On (λk n=>by cases n;omega);have f:=gR ak o;have C:=afd k F;have i3:=G5;have r:=gb B;clear L ak ai o B;unfold WG;by_cases hk:p=k+1
  ·subst hk;obtain⟨aI,fn,af,ag,ah⟩:=Ly r.out;have I:=ju af ag ah;clear af ag ah
   go_wp2_with (first
    |(refine iA rfl 41 _ _ rfl a.heap.size 0 #[Value.int .i64 k,.func (Fn.func F) #[] #[]] rfl rfl D i3 C ?_;show wpList _ _ _ _ _ ((a.alloc (.cells #[.int .i64 0,.nilFunc] 41)).setCells a.heap.size 0 [Value.int .i64 k,.func (Fn.func F) #[] #[]]);generalize ((a.alloc (.cells #[.int .i64 0,.nilFunc] 41)).setCells a.heap.size 0 [Value.int .i64 k,.func (Fn.func F) #[] #[]])=i at f⊢;have ab:i.cell? ⟨a.heap.size,0,none⟩=some (.int .i64 k):=f.out.1.cell 0;clear D C;skip))
   have t:=gb (λ(c:World)(d:gm i c)=>(h.out.trans (f.out.2.mono h.out.size)).trans (d.mono (h.out.trans (f.out.2.mono h.out.size)).size));have W:=gb (λ(c:World)(d:gm i c)=>(G.out.below f.out.2).below d);have ar:=gb (λ(c:World)(d:gm i c)=>(av.out.below f.out.2).below d)
   have ao:=gd (oV A s=A X (g.drop 1)) (by
    rw[H.out,r.out]
    exact gl ec.out)
   clear ab;refine pB [19,20,21,22,23] [λv _=>v= .pointer (some ⟨a.heap.size,1,none⟩),λv _=>v= .func (Fn.func F) #[] #[],λv _=>v= .slice (some ⟨l,0,none⟩) (k+1) (k+1),λv _=>v= .slice (some ⟨l,1,none⟩) k k,λv _=>v= .string (gJ (oV A s))] Ob Ob rfl rfl ⟨m8 _,m8 _,m8 _,m8 _,m8 _,trivial⟩ ⟨?_,?_,?_,?_,?_,trivial⟩ ?_
   ·intro e c K d hf bP hd hK;have Y:e.tmps[4]?.getD undef= .pointer (some ⟨a.heap.size,0,none⟩):=iW (hf 4 rfl);exact OD
   ·intro e c K d hf bP hd hK;have Y:e.tmps[19]?.getD undef= .pointer (some ⟨a.heap.size,1,none⟩):=iW (hd 0 Oc Ob);have aG:c.cell? ⟨a.heap.size,1,none⟩=some (.func (Fn.func F) #[] #[]):=(f.out.1.below d).cell 1;exact OD
   ·intro e c K d hf bP hd hK;exact ng _ rfl (hK _ _ (hf 3 rfl) (f0 _ _))
   ·intro e c K d hf bP hd hK;have Y:e.tmps[21]?.getD undef= .slice (some ⟨l,0,none⟩) (k+1) (k+1):=iW (hd 2 Oc Ob);have aK:¬k=0:=Oa;have aL:(1:Int)<=k+1:=Oa;exact OD
   ·intro e c K d hf bP hd hK;have aD:e.tmps[20]?.getD undef= .func (Fn.func F) #[] #[]:=iW (hd 1 Oc Ob);have aE:e.eval (.tmp 22)= .slice (some ⟨l,1,none⟩) k k:=hd 3 Oc Ob;refine WL F 20 _ _ #[_] rfl aD (by rw[lD,jG,mR,aE]) fn I.out.1 I.out.2.1 I.out.2.2 ?_;have al:=ar.out c d;have aC:=(al.lt l rfl).2;have ae:(g.drop 1).length=k:=(by rw[ow,ec.out];omega);refine(HC X k F r.out (g.drop 1) _ c ae (aw.out c (t.out c d)) ⟨l,1,k,by rw[ae],aC,λT hi=> ?_⟩ (λaF ht=>by have:=aq.out aF (nU ht);omega)).mono ?_
    ·rw[al.cell (1+T) (by rw[gv,ec.out];omega)];have:1+T<g.length:=QY;simp[this,gc,ahp T 1]
    ·rintro j w2 ⟨n,P⟩;rw[<-ao.out]at n;rcases n with rfl|rfl
     ·exact .inl ⟨_,rfl,hK _ _ rfl P⟩
     ·refine .inr ⟨_,rfl,?_⟩;have hB:=(t.out c d).trans (P.mono (t.out c d).size);have h9:=tr (λj c=>j= .returned (.string (gJ (oV A s)))/\gm w c) e.tmps w.heap.size _ (oV A s) w2 ((W.out c d).below P) (iW (hf 2 rfl)) ⟨rfl,hB.setCell (fZ _) _⟩;show Leaves _ _ e.tmps _ e.defers _ w2;rw[bP];exact h9
   ·rintro aO q ⟨ax,ay,az,aA,aj,_⟩ Q;clear ax ay az aA;simp only[Nat.reduceAdd]at aj;simp only[j7,Act.put,gU,io,iC,kf,lH,iP,jk,Nat.reduceAdd];rw[aj];have y:=W.out q Q;have aH:q.cell? ⟨w.heap.size,0,none⟩=some (.string ByteArray.empty):=y.cell 0;have aN:q.frozen? ⟨w.heap.size,0,none⟩=false:=y.frozen 0;have ap:=gb (t.out q Q);have an:=gb y;clear Q y;go_wp2;have aa:Below w.heap.size w (q.setCell ⟨w.heap.size,0,none⟩ (.string (gJ (oV A s)))):=ap.out.setCell (fZ _) _;exact Nu _ _ w.heap.size (oV A s) _ (an.out.stored 0 _).1 rfl (λc d=>⟨rfl,aa.trans (d.mono aa.size)⟩)
  ·have aJ:((p:Int)-1 !=k)=true:=by simp;omega
   go_wp2_with (first
    |(refine iA rfl 41 _ _ rfl a.heap.size 0 #[Value.int .i64 k,.func (Fn.func F) #[] #[]] rfl rfl D i3 C ?_;show wpList _ _ _ _ _ ((a.alloc (.cells #[.int .i64 0,.nilFunc] 41)).setCells a.heap.size 0 [Value.int .i64 k,.func (Fn.func F) #[] #[]]);generalize ((a.alloc (.cells #[.int .i64 0,.nilFunc] 41)).setCells a.heap.size 0 [Value.int .i64 k,.func (Fn.func F) #[] #[]])=i at f⊢;have ab:i.cell? ⟨a.heap.size,0,none⟩=some (.int .i64 k):=f.out.1.cell 0;clear D C;skip))
   refine tr _ _ w.heap.size _ badT i (G.out.below f.out.2) rfl ⟨?_,?_⟩
   ·rw[H.out,r.out];exact jA (λx=>Ending.returned (.string (gJ x))) (gh QY).symm
   ·exact(h.out.trans (f.out.2.mono h.out.size)).setCell (fZ _) _
 ·refine tr _ _ w.heap.size _ badT a G.out rfl ⟨?_,?_⟩
  ·rw[H.out,B]
  ·exact h.out.setCell (fZ _) _
end
end Go.Proofs.YtnnaadmegeeinaaGreatDoor
