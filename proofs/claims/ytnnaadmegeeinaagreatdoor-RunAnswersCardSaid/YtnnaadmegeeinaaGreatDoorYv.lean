/-
  Part 22 of a proof: what it proves stands in the last text.
-/
import Derived.Test.YtnnaadmegeeinaaGreatDoorYu
set_option linter.all false
set_option maxHeartbeats 8000000
set_option maxRecDepth 100000
namespace Go.Proofs.YtnnaadmegeeinaaGreatDoor
open Tryz Go.Proofs.Tryz
open Go.RowKit
theorem Ou{p:Prop}(h:p:=by
 have dE:=gb (HP.out O ag Z (bY.out Z aO.out) ⟨hu.sl QC,rp hn,by have:=mK hn;have:=dA.out;omega⟩);have bI:=gb (bT.out O hn);obtain⟨ua,uc,ue⟩:=hu.len;subst ue;clear hu;generalize (List.map (λx:Nat=>(x:Int)) O).length=fW at*;clear hn;go_wp2_with fail;refine dE.out.mono ?_;rintro e aj ⟨rfl,⟨cc,bX⟩,cE,ar⟩;have aT:=gb (aO.out.trans (ar.mono aO.out.size));have HT:=gb (YH (am O) (ae O) aj cc bX (λ_=>trivial) (bY.out aj aT.out));clear cc bX cE ar dE;generalize (if ae O=0 then nn (am O)else iJ (ae O))=AT at*
 exact Oz):p:=h
theorem Oz{p:Prop}(h:p:=by
 go_wp2_with fail;refine HT.out.mono ?_;intro e w3 h3;have HZ:=gb (cZ.out _ e aj w3 bI.out aT.out h3);rcases h3.1 with rfl|rfl
 ·clear h3;exact OO
 ·exact O1):p:=h
theorem OD{p:Prop}(h:p:=by
 clear hf hd bP;refine ?_;go_simp
 exact hK _ _ rfl (f0 _ _)):p:=h
theorem Mo{p:Prop}(h:p:=by
 have ew:=gb (bI.out.trans (gh hE));clear bI cc bX e5 hE;go_wp2_with fail;refine HC.out.mono ?_;rintro e du ⟨rfl,dy⟩;have d3:=gb (cg.out.trans (dy.mono cg.out.size))
 exact⟨rfl,cZ.out _ _ w8 du ew.out cA.out (TE.bad d3.out)⟩):p:=h
theorem Sx{p:Prop}(h:p:=by
 intro O V K J hf bP hd hK
 exact ng _ rfl (hK _ _ (hf 0 rfl) (f0 _ _))):p:=h
theorem SQ{p:Prop}(h:p:=by
 replace h3:=iW h3;have cQ:=gb b9;clear hf hd bP hz hk b9;refine ?_;go_simp
 exact hK _ _ ⟨aq,cQ.out,rfl⟩ (f0 _ _)):p:=h
theorem Uh{p:Prop}(h:p:=by
 rw[HA.out,h]
 rfl):p:=h
theorem Ui{p:Prop}(h:p:=by rw[lD,jG,mR,h3]):p:=h
theorem Uk{p:Prop}(h:p:=by exact⟨bv.out Z J,eq.out Z J⟩):p:=h
theorem Ul{p:Prop}(h:p:=by exact⟨bZ.out Z J,dX.out Z J⟩):p:=h
theorem Dy{p:Prop}(h:p:=by exact⟨bP,bd.out aj (aQ.out hn) J⟩):p:=h
theorem Dz{p:Prop}(h:p:=by exact⟨bP,bd.out aj (aO.out hn) J⟩):p:=h
theorem K7{p:Prop}(h:p:=by
 have HZ:=gb (bd.out Z hn aO.out);clear hn
 exact O1):p:=h
theorem K8{p:Prop}(h:p:=by
 rcases H with _|_|H
 ·exact Uk
 ·exact Ul
 ·exact absurd hi On):p:=h
theorem Pl{p:Prop}(h:p:=by
 go_wp2_with fail;refine HT.out.mono ?_;intro e eC cN;have HZ:=gb (cZ.out _ e cW eC ew.out ed.out cN)
 exact Pq):p:=h
theorem Pp{p:Prop}(h:p:=by
 rw[HA.out,h]
 exact OK):p:=h
theorem Pq{p:Prop}(h:p:=by
 rcases cN.1 with rfl|rfl
 ·clear cN;exact OO
 ·exact O1):p:=h
theorem PC{p:Prop}(h:p:=by
 intro O V K J hf bP hd hK;obtain⟨aq,b9,h3,hz,hk⟩:=(show ZK ae X1 X2 ad af bc (O.tmps.getD 18 undef)from hd 5 Oc Ob)
 exact SQ):p:=h
theorem PJ{p:Prop}(h:p:=by
 rcases H with _|_|H
 ·exact Dy
 ·exact Dz
 ·exact absurd hi On):p:=h
theorem QC{p:Prop}(h:p:=by rw[gv];have:=mK hn;have:=dA.out;omega):p:=h
theorem Rc{p:Prop}(h:p:=by
 refine HT.out.mono ?_;intro e eC cN;have HZ:=gb (cZ.out _ e du eC bI.out d3.out cN)
 exact Pq):p:=h
theorem re{l:gA}(h:∀x∈l,x<1000000000):∀x∈gr l,ja x:=λx a=>by
 unfold gr at a;obtain⟨y,b,rfl⟩:=gK.1 a;have:=h y b;unfold ja;exact Oa
theorem EG{n k:Nat}(d:1<=n)(c:1<=k)(h:k^n<=1000000000000000000):ja (mm n k):=by
 by_cases b:k=1
 ·have a:mm n k=1:=gl b
  grind [ja]
 ·have a:mm n k=qX k n n:=gh b;have f:=uX (k:=k) Oa h;rw[a,<-zV d Oa];have e:=zG (k:=k) (n:=n) c h n (fZ _);have g:0<=((oI k n n:Nat):Int)/n:=R7 Oa Oa;have i:((oI k n n:Nat):Int)/n<=((oI k n n:Nat):Int):=JE _ Oa
  grind [ja]
theorem alt:Zu (λa b=>kB a b) (λa b=>if kB a b=0 then mm a b else 0):=by
 intro a b f n j k;have e:0<=kB a b/\kB a b<=6:=by
  grind [kB]
 by_cases d:kB a b=0
 ·have c:1<=a/\1<=b/\b^a<=1000000000000000000:=by
   grind [kB]
  have l:=EG c.1 c.2.1 c.2.2;refine(Zi a b f c.1 c.2.1 (by grind [ja]) (by grind [ja]) c.2.2).mono ?_;rintro g i ⟨rfl,m,rfl⟩;exact⟨by grind,e,λ_=>by grind,gM (f0 _ _) m⟩
 ·refine(VZ a b f (by grind [ja]) (by grind [ja]) d).mono ?_;rintro g i ⟨rfl,rfl⟩;exact⟨by grind,e,λh=>absurd h d,f0 _ _⟩
def pS(E:gA->Int)(X:gA->iF)(b:j9):iF:=((jq (b.getD 0 [])).bind λa=>some (if E a=0 then X a else iJ (E a))).getD badT
def Zz(E:gA->Int)(X:gA->iF):Prop:=∀(a:gA)(v:Value)(b:World),jO b->Sl b v (gr a)/\(∀x∈a,x<1000000000)/\a.length<=10001->Calls prog 40 #[v] b λe c=>e= .returned (.tuple #[.string (gJ (X a)),.int .i64 (E a)])/\(0<=E a/\E a<=6)/\(E a=0->True)/\gm b c
theorem aiI(E:gA->Int)(X:gA->iF)(z:Zz E X)(b:j9)(G:b.length=1)(v:Value)(w:World)(g:jO w)(H:SS w v b)(i:∀J∈b,J.length<=10000):
 Calls prog 38 #[v] w (TE (pS E X b) w):=by
 have y:=gb z;have n:=gb (λ(Z:World)(d:gm w Z)=>g.below d);obtain⟨B,I,P,rfl,R,q⟩:=H;rw[G];have Q:w.cell? ⟨B,I,none⟩=some (.string (gJ (b.getD 0 []))):=q 0 Oa;have k:=gb (o6 (b.getD 0 []) w (js i 0) g);have dA:=gb (js i 0);have f:=gd (pS E X b=((jq (b.getD 0 [])).bind λa=>some (if E a=0 then X a else iJ (E a))).getD badT) rfl;generalize b.getD 0 []=t at*;have x:=gd (∀a,jq t=some a->pS E X b=if E a=0 then X a else iJ (E a)) (λa h=>by rw[f.out,h];rfl);have bd:=gd (∀c,jq t=none->gm w c->TE (pS E X b) w (mA [98,97,100]) c) (λc h d=>by rw[f.out,h];grind [TE.bad,badT]);have cZ:=gb (λA e Z c (h:pS E X b=A) (d:gm w Z) (F:TE A Z e c)=>(show TE (pS E X b) w e c by rw[h];exact F.pre d));clear q i g f;generalize TE (pS E X b) w=O at*;go_enter func38,ntmps38;go_wp2_with fail;refine k.out.mono ?_;rintro e Z ⟨C,o⟩;have aO:=gb o;clear o k;rcases C with⟨a,K,hn,rfl,j⟩|⟨hn,rfl⟩
 ·have l:=gb (y.out a K Z (n.out Z aO.out) ⟨j.sl QC,rp hn,by have:=mK hn;have:=dA.out;omega⟩);have bI:=gb (x.out a hn);obtain⟨S,T,L⟩:=j.len;subst L;clear j;generalize (List.map (λM:Nat=>(M:Int)) a).length=un at*;clear hn;go_wp2_with fail;refine l.out.mono ?_;rintro e aj ⟨rfl,⟨r,s⟩,D,p⟩;have aT:=gb (aO.out.trans (p.mono aO.out.size));have HT:=gb (ad4 (gJ (X a)) (E a) aj r s (λ_=>trivial) (n.out aj aT.out));clear r s D p l;rw[kK]at HT;generalize (if E a=0 then X a else iJ (E a))=N at*;exact Oz
 ·exact K7
def pT(E:Nat->Int)(X:Nat->gP)(b:j9):iF:=((gX (b.getD 0 [])).bind λa=>some (if E a=0 then ji (X a)else iJ (E a))).getD badT
def ZI(E:Nat->Int)(X:Nat->gP):Prop:=∀(a:Nat)(c:World),jO c->a<1000000000->Calls prog 124 #[.int .i64 a] c λe d=>∃b:Value,e= .returned (.tuple #[b,.int .i64 (E a)])/\(0<=E a/\E a<=6)/\(E a=0->(Sl d b (X a)/\(∀x∈X a,ja x)/\(X a).length<=10000))/\(∃f h g,b= .slice f h g)/\gm c d
theorem aiS(E:Nat->Int)(X:Nat->gP)(z:ZI E X)(b:j9)(F:b.length=1)(v:Value)(w:World)(g:jO w)(G:SS w v b)(r:∀J∈b,J.length<=10000):
 Calls prog 123 #[v] w (TE (pT E X b) w):=by
 have y:=gb z;have k:=gb (λ(Z:World)(d:gm w Z)=>g.below d);obtain⟨B,H,M,rfl,O,o⟩:=G;rw[F];have N:w.cell? ⟨B,H,none⟩=some (.string (gJ (b.getD 0 []))):=o 0 Oa;have i:=gb (nE (b.getD 0 []) w (js r 0) g);have f:=gd (pT E X b=((gX (b.getD 0 [])).bind λa=>some (if E a=0 then ji (X a)else iJ (E a))).getD badT) rfl;generalize b.getD 0 []=t at*;have x:=gd (∀a,gX t=some a->pT E X b=if E a=0 then ji (X a)else iJ (E a)) (λa h=>by rw[f.out,h];rfl);have bd:=gd (∀c,gX t=none->gm w c->TE (pT E X b) w (mA [98,97,100]) c) (λc h d=>by rw[f.out,h];grind [TE.bad,badT]);have cZ:=gb (λA e Z c (h:pT E X b=A) (d:gm w Z) (D:TE A Z e c)=>(show TE (pT E X b) w e c by rw[h];exact D.pre d));clear o r g f;generalize TE (pT E X b) w=L at*;go_enter func123,ntmps123;go_wp2_with fail;refine i.out.mono ?_;rintro e Z ⟨C,l⟩;have aO:=gb l;clear l i;rcases C with⟨a,hn,rfl⟩|⟨hn,rfl⟩
 ·have j:=gb (y.out a Z (k.out Z aO.out) (jJ hn));have bI:=gb (x.out a hn);clear hn;go_wp2_with fail;refine j.out.mono ?_;rintro e aj ⟨u2,rfl,⟨p,q⟩,s,⟨P,R,Q,I⟩,n⟩;have aT:=gb (aO.out.trans (n.mono aO.out.size));have HT:=gb (Eo u2 (X a) (E a) aj p q s (k.out aj aT.out));clear p q s n j;subst I;generalize (if E a=0 then ji (X a)else iJ (E a))=K at*;exact Oz
 ·exact K7
def pP(E:gA->Int)(X:gA->Bool)(b:j9):iF:=((jq (b.getD 0 [])).bind λa=>some (if E a=0 then nn (X a)else iJ (E a))).getD badT
def Zv(E:gA->Int)(X:gA->Bool):Prop:=∀(a:gA)(v:Value)(b:World),jO b->Sl b v (gr a)/\(∀x∈a,x<1000000000)/\a.length<=10001->Calls prog 129 #[v] b λe c=>e= .returned (.tuple #[.bool (X a),.int .i64 (E a)])/\(0<=E a/\E a<=6)/\(E a=0->True)/\gm b c
theorem aiD(ae:gA->Int)(am:gA->Bool)(n:Zv ae am)(a:j9)(r:a.length=1)(v:Value)(w:World)(f:jO w)(s:SS w v a)(g:∀x∈a,x.length<=10000):
 Calls prog 127 #[v] w (TE (pP ae am a) w):=by
 have HP:=gb n;have bY:=gb (λ(Z:World)(c:gm w Z)=>f.below c);obtain⟨o,t,y,rfl,B,k⟩:=s;rw[r];have z:w.cell? ⟨o,t,none⟩=some (.string (gJ (a.getD 0 []))):=k 0 Oa;have i:=gb (o6 (a.getD 0 []) w (js g 0) f);have dA:=gb (js g 0);have d:=gd (pP ae am a=((jq (a.getD 0 [])).bind λO=>some (if ae O=0 then nn (am O)else iJ (ae O))).getD badT) rfl;generalize a.getD 0 []=l at*;have bT:=gd (∀O,jq l=some O->pP ae am a=if ae O=0 then nn (am O)else iJ (ae O)) (λO h=>by rw[d.out,h];rfl);have bd:=gd (∀b,jq l=none->gm w b->TE (pP ae am a) w (mA [98,97,100]) b) (λb h c=>by rw[d.out,h];grind [TE.bad,badT]);have cZ:=gb (λA e Z b (h:pP ae am a=A) (c:gm w Z) (q:TE A Z e b)=>(show TE (pP ae am a) w e b by rw[h];exact q.pre c));clear k g f d;generalize TE (pP ae am a) w=G at*;go_enter func127,ntmps127;go_wp2_with fail;refine i.out.mono ?_;rintro e Z ⟨p,j⟩;have aO:=gb j;clear j i;rcases p with⟨O,ag,hn,rfl,hu⟩|⟨hn,rfl⟩
 ·exact Ou
 ·exact K7
def pQ(E:Nat->Int)(X:Nat->lO)(b:j9):iF:=((gX (b.getD 0 [])).bind λa=>some (if E a=0 then kL (X a)else iJ (E a))).getD badT
def Zx(E:Nat->Int)(X:Nat->lO):Prop:=∀(a:Nat)(c:World),jO c->a<1000000000->Calls prog 133 #[.int .i64 a] c λe d=>∃b:Value,e= .returned (.tuple #[b,.int .i64 (E a)])/\(0<=E a/\E a<=6)/\(E a=0->(RL d b (X a)/\(∀m∈X a,(∀x∈m,ja x)/\m.length<=1000)/\(X a).length<=1000))/\(∃f h g,b= .slice f h g)/\gm c d
theorem aiG(E:Nat->Int)(X:Nat->lO)(z:Zx E X)(b:j9)(F:b.length=1)(v:Value)(w:World)(g:jO w)(G:SS w v b)(r:∀J∈b,J.length<=10000):
 Calls prog 132 #[v] w (TE (pQ E X b) w):=by
 have y:=gb z;have k:=gb (λ(Z:World)(d:gm w Z)=>g.below d);obtain⟨B,H,M,rfl,O,o⟩:=G;rw[F];have N:w.cell? ⟨B,H,none⟩=some (.string (gJ (b.getD 0 []))):=o 0 Oa;have i:=gb (nE (b.getD 0 []) w (js r 0) g);have f:=gd (pQ E X b=((gX (b.getD 0 [])).bind λa=>some (if E a=0 then kL (X a)else iJ (E a))).getD badT) rfl;generalize b.getD 0 []=t at*;have x:=gd (∀a,gX t=some a->pQ E X b=if E a=0 then kL (X a)else iJ (E a)) (λa h=>by rw[f.out,h];rfl);have bd:=gd (∀c,gX t=none->gm w c->TE (pQ E X b) w (mA [98,97,100]) c) (λc h d=>by rw[f.out,h];grind [TE.bad,badT]);have cZ:=gb (λA e Z c (h:pQ E X b=A) (d:gm w Z) (D:TE A Z e c)=>(show TE (pQ E X b) w e c by rw[h];exact D.pre d));clear o r g f;generalize TE (pQ E X b) w=L at*;go_enter func132,ntmps132;go_wp2_with fail;refine i.out.mono ?_;rintro e Z ⟨C,l⟩;have aO:=gb l;clear l i;rcases C with⟨a,hn,rfl⟩|⟨hn,rfl⟩
 ·have j:=gb (y.out a Z (k.out Z aO.out) (jJ hn));have bI:=gb (x.out a hn);clear hn;go_wp2_with fail;refine j.out.mono ?_;rintro e aj ⟨u2,rfl,⟨p,q⟩,s,⟨P,R,Q,I⟩,n⟩;have aT:=gb (aO.out.trans (n.mono aO.out.size));have HT:=gb (Ep u2 (X a) (E a) aj p q s (k.out aj aT.out));clear p q s n j;subst I;generalize (if E a=0 then kL (X a)else iJ (E a))=K at*;exact Oz
 ·exact K7
def pR(E:gA->Int)(X:gA->Bool)(b:j9):iF:=((jq (b.getD 0 [])).bind λa=>some (if E a=0 then nn (X a)else iJ (E a))).getD badT
def Zy(E:gA->Int)(X:gA->Bool):Prop:=∀(a:gA)(v:Value)(b:World),jO b->Sl b v (gr a)/\(∀x∈a,x<1000000000)/\a.length<=10001->Calls prog 135 #[v] b λe c=>e= .returned (.tuple #[.bool (X a),.int .i64 (E a)])/\(0<=E a/\E a<=6)/\(E a=0->True)/\gm b c
theorem aiH(ae:gA->Int)(am:gA->Bool)(n:Zy ae am)(a:j9)(r:a.length=1)(v:Value)(w:World)(f:jO w)(s:SS w v a)(g:∀x∈a,x.length<=10000):
 Calls prog 134 #[v] w (TE (pR ae am a) w):=by
 have HP:=gb n;have bY:=gb (λ(Z:World)(c:gm w Z)=>f.below c);obtain⟨o,t,y,rfl,B,k⟩:=s;rw[r];have z:w.cell? ⟨o,t,none⟩=some (.string (gJ (a.getD 0 []))):=k 0 Oa;have i:=gb (o6 (a.getD 0 []) w (js g 0) f);have dA:=gb (js g 0);have d:=gd (pR ae am a=((jq (a.getD 0 [])).bind λO=>some (if ae O=0 then nn (am O)else iJ (ae O))).getD badT) rfl;generalize a.getD 0 []=l at*;have bT:=gd (∀O,jq l=some O->pR ae am a=if ae O=0 then nn (am O)else iJ (ae O)) (λO h=>by rw[d.out,h];rfl);have bd:=gd (∀b,jq l=none->gm w b->TE (pR ae am a) w (mA [98,97,100]) b) (λb h c=>by rw[d.out,h];grind [TE.bad,badT]);have cZ:=gb (λA e Z b (h:pR ae am a=A) (c:gm w Z) (q:TE A Z e b)=>(show TE (pR ae am a) w e b by rw[h];exact q.pre c));clear k g f d;generalize TE (pR ae am a) w=G at*;go_enter func134,ntmps134;go_wp2_with fail;refine i.out.mono ?_;rintro e Z ⟨p,j⟩;have aO:=gb j;clear j i;rcases p with⟨O,ag,hn,rfl,hu⟩|⟨hn,rfl⟩
 ·exact Ou
 ·exact K7
theorem A4(l:gP):0<=jV l/\jV l<=6:=by
 grind [jV]
theorem aly:Zz (λa=>jV (gr a)) (λa=>if jV (gr a)=0 then YS (fL (gr a)) (gr a).length else[]):=by
 intro a v d h c;by_cases b:jV (gr a)=0
 ·refine(V4 v (gr a) _ _ d c.1 (IQ b) b).mono ?_
  grind
 ·refine(JX v (gr a) d c.1 b).mono ?_;rintro g i ⟨rfl,f⟩;exact⟨by grind,A4 _,λe=>absurd e b,f⟩
def GB(E:Nat->Nat->Int)(d:Nat->Nat->gP):Prop:=∀(a b:Nat)(c:World),jO c->a<1000000000->b<1000000000->Calls prog 102 #[.int .i64 a,.int .i64 b] c λi h=>∃(P K:Int)(e:Option Addr)(g f:Nat),i= .returned (.tuple #[.agg #[.int .i64 P,.int .i64 K,.slice e g f],.int .i64 (E a b)])/\(0<=E a b/\E a b<=6)/\(E a b=0->P=a/\K=b/\OI c.heap.size h (.slice e g f) (d a b)/\(∀x∈d a b,ja x)/\(d a b).length<=10000)/\gm c h
def LE(E:Nat->Nat->Int)(c:Nat->Nat->gP)(s0 d:iF)(w:World)(e:Ending)(w':World):Prop:=
 ((∃(a b:Nat)(f:Option Addr)(h g:Nat),gX s0=some a/\gX d=some b/\E a b=0/\e= .returned (.agg #[.int .i64 a,.int .i64 b,.slice f h g])/\Sl w' (.slice f h g) (c a b)/\(∀x∈c a b,ja x)/\(c a b).length<=10000)\/
 (gX s0=none/\e=mA badT)\/(gX d=none/\e=mA badT)\/(∃a b:Nat,gX s0=some a/\gX d=some b/\E a b≠0/\e=mA (iJ (E a b))))/\gm w w'
theorem CT(E:Nat->Nat->Int)(Lo:Nat->Nat->gP)(aD:GB E Lo)(i:j9)(aL:2<=i.length)(v:Value)(w:World)(I:jO w)(hv:SS w v i)(hl:∀aJ∈i,aJ.length<=10000):
 Calls prog 28 #[v] w (LE E Lo (i.getD 0 []) (i.getD 1 []) w):=by
 have HP:=gb aD;obtain⟨x,B,aF,rfl,hg,W⟩:=hv;have h:Below w.heap.size w (w.alloc (.cells #[.int .i64 0,.int .i64 0,.slice none 0 0] 60)):=(f0 _ _).alloc (fZ _) _;have o:=gb (λ(Z:World)(J:Below (w.alloc (.cells #[.int .i64 0,.int .i64 0,.slice none 0 0] 60)).heap.size (w.alloc (.cells #[.int .i64 0,.int .i64 0,.slice none 0 0] 60)) Z)=>h.trans (J.mono h.size));have aE:=gb (λ(Z:World)(J:Below (w.alloc (.cells #[.int .i64 0,.int .i64 0,.slice none 0 0] 60)).heap.size (w.alloc (.cells #[.int .i64 0,.int .i64 0,.slice none 0 0] 60)) Z)=>I.below (h.trans (J.mono h.size)));have ag:hU (w.alloc (.cells #[.int .i64 0,.int .i64 0,.slice none 0 0] 60)) w.heap.size 60 [.int .i64 0,.int .i64 0,.slice none 0 0]:=hU.new w _ _;have aC:=gb ag;have L:(prog.info? 60).map (·.size)=some 3:=Ob;have bv:=gd (∀Z:World,Below (w.alloc (.cells #[.int .i64 0,.int .i64 0,.slice none 0 0] 60)).heap.size (w.alloc (.cells #[.int .i64 0,.int .i64 0,.slice none 0 0] 60)) Z->Z.cell? ⟨x,B,none⟩=some (.string (gJ (i.getD 0 [])))) (λZ J=>((h.trans (J.mono h.size)).cell (p:=⟨x,B+0,none⟩) hg).trans (W 0 Oa));have eq:=gb (λ(Z:World)(J:Below (w.alloc (.cells #[.int .i64 0,.int .i64 0,.slice none 0 0] 60)).heap.size (w.alloc (.cells #[.int .i64 0,.int .i64 0,.slice none 0 0] 60)) Z)=>Kd.reads .n (i.getD 0 []) Z (js hl 0) (I.below (h.trans (J.mono h.size))));have bZ:=gd (∀Z:World,Below (w.alloc (.cells #[.int .i64 0,.int .i64 0,.slice none 0 0] 60)).heap.size (w.alloc (.cells #[.int .i64 0,.int .i64 0,.slice none 0 0] 60)) Z->Z.cell? ⟨x,B+1,none⟩=some (.string (gJ (i.getD 1 [])))) (λZ J=>((h.trans (J.mono h.size)).cell (p:=⟨x,B+1,none⟩) hg).trans (W 1 Oa));have dX:=gb (λ(Z:World)(J:Below (w.alloc (.cells #[.int .i64 0,.int .i64 0,.slice none 0 0] 60)).heap.size (w.alloc (.cells #[.int .i64 0,.int .i64 0,.slice none 0 0] 60)) Z)=>Kd.reads .n (i.getD 1 []) Z (js hl 1) (I.below (h.trans (J.mono h.size))));have aK:w.heap.size<(w.alloc (.cells #[.int .i64 0,.int .i64 0,.slice none 0 0] 60)).heap.size:=On;generalize i.length=m at*;generalize i.getD 0 []=s0 at*;generalize i.getD 1 []=s1 at*;clear W hl I h ag;go_enter func28,ntmps28;go_wp2;generalize w.alloc (.cells #[.int .i64 0,.int .i64 0,.slice none 0 0] 60)=wa at*;refine qm [.n,.n] 7 0 [7,8,9,10,11,12,13,14] (λH=>[s0,s1].getD H []) x B m aF rfl rfl Ob Ob rfl rfl Oa (λH Z hi J=> ?_) (λH f w2 hi hn am J=> ?_) (λaA t T U=> ?_)
 ·exact K8
 ·rcases H with _|_|H
  ·exact⟨am,⟨.inr (.inl ⟨hn,rfl⟩),o.out w2 J⟩⟩
  ·exact⟨am,⟨.inr (.inr (.inl ⟨hn,rfl⟩)),o.out w2 J⟩⟩
  ·exact absurd hi On
 obtain⟨g,ab,_,ay⟩:∃n:Nat,gX s0=some n/\n<1000000000/\aA 3= .int .i64 n:=T 0 Oc;obtain⟨f,ac,_,az⟩:∃n:Nat,gX s1=some n/\n<1000000000/\aA 7= .int .i64 n:=T 1 Oc;clear T;simp only[j7,Act.put,gU,io,iC,kf,lH,iP,jk,Nat.reduceAdd,Nat.reduceMul];rw[ay];clear ay;rw[az];clear az;have HQ:=gb (HP.out g f t (aE.out t U) (jJ ab) (jJ ac));have l:=gb U;have G:=gR ab ac;clear U ab ac;go_wp2_with fail;refine HQ.out.mono ?_;rintro q e ⟨P,K,a,d,c,rfl,⟨an,X⟩,aq,V⟩;have al:=l.out.trans (V.mono l.out.size);have R:=aC.out.below al;have S:hU (e.alloc (.cells #[.int .i64 0,.int .i64 0,.slice none 0 0] 60)) e.heap.size 60 ([]++[.int .i64 0,.int .i64 0,.slice none 0 0]):=hU.new e _ _;have t1:(e.alloc (.cells #[.int .i64 0,.int .i64 0,.slice none 0 0] 60)).there e.heap.size 0 (#[Value.int .i64 P,.int .i64 K,.slice a d c]).size:=S.there;have av:hU ((e.alloc (.cells #[.int .i64 0,.int .i64 0,.slice none 0 0] 60)).setCells e.heap.size 0 [.int .i64 P,.int .i64 K,.slice a d c]) e.heap.size 60 [.int .i64 P,.int .i64 K,.slice a d c]:=hU.setCells _ [] [.int .i64 0,.int .i64 0,.slice none 0 0] _ S rfl;have aa:=iu (b:=e.heap.size) [.int .i64 P,.int .i64 K,.slice a d c] 0 (e.alloc (.cells #[.int .i64 0,.int .i64 0,.slice none 0 0] 60));have ah:=R.alloc (.cells #[.int .i64 0,.int .i64 0,.slice none 0 0] 60);have ai:=ah.kept aa (λq=>by have:=gG q;have:=R.lt;omega);have ak:=((f0 e.heap.size e).alloc (fZ _) (.cells #[.int .i64 0,.int .i64 0,.slice none 0 0] 60)).grown aa On (λae aG=>by grind);have k:=ju av ai ak;have N:=gb aq;have D:=gb V;have A:=zk P K a d c;clear al R S av aa ah ai ak aq V HQ
 go_wp2_with (first
  |(refine iA rfl 60 _ _ rfl e.heap.size 0 #[Value.int .i64 P,.int .i64 K,.slice a d c] rfl rfl t1 L A ?_;show wpList _ _ _ _ _ ((e.alloc (.cells #[.int .i64 0,.int .i64 0,.slice none 0 0] 60)).setCells e.heap.size 0 [.int .i64 P,.int .i64 K,.slice a d c]);generalize ((e.alloc (.cells #[.int .i64 0,.int .i64 0,.slice none 0 0] 60)).setCells e.heap.size 0 [.int .i64 P,.int .i64 K,.slice a d c])=aB at k⊢;clear t1 A))
 by_cases r:E g f=0
 ·rw[r];obtain⟨rfl,rfl,aw,af,ao⟩:=N.out r;have F:=gb (pX aB);have O:=ju aw af ao;have M:=gb r;clear N an X aw af ao r;go_wp2_with fail;refine F.out.mono ?_;rintro q j ⟨rfl,s⟩;have ar:=k.out.1.below s;have Q:=k.out.2.1.below s;have y:=k.out.2.2.trans (s.mono k.out.2.2.size);have r5:=ar.range;have t6:j.there w.heap.size 0 (#[Value.int .i64 g,.int .i64 f,.slice a d c]).size:=Q.there;have A:=zk g f a d c;have au:hU (j.setCells w.heap.size 0 [Value.int .i64 g,.int .i64 f,.slice a d c]) w.heap.size 60 [Value.int .i64 g,.int .i64 f,.slice a d c]:=hU.setCells _ [] [.int .i64 0,.int .i64 0,.slice none 0 0] _ Q rfl;have Y:=iu (b:=w.heap.size) [Value.int .i64 g,.int .i64 f,.slice a d c] 0 j;have z:gm w j:=(o.out t l.out).trans ((D.out.trans (y.mono D.out.size)).mono (o.out t l.out).size);have aj:=z.grown Y z.size (λae aG=>by grind);have ad:=O.out.1.below y;have aI:=l.out.size;have ap:(Value.slice a d c).ownBlock=none\/(Value.slice a d c).ownBlock≠some w.heap.size:=by
   rcases ho:(Value.slice a d c).ownBlock with _|ae
   ·grind
   ·exact .inr (λq=>by have:=gG q;have:=(ad.lt ae ho).1;omega)
  have ax:=(ad.kept Y ap).sl (by have:=O.out.2.2;omega);clear ad aI ap ar Q y Y z s F;have C:=ju au aj ax;clear au aj ax
  go_wp2_with (first
   |(refine ii rfl 60 _ rfl e.heap.size 0 rfl [Value.int .i64 g,.int .i64 f,.slice a d c] _ r5 underlying60 rfl L ?_)
   |(refine iA rfl 60 _ _ rfl w.heap.size 0 #[Value.int .i64 g,.int .i64 f,.slice a d c] rfl rfl t6 L A ?_;show wpList _ _ _ _ _ (j.setCells w.heap.size 0 [Value.int .i64 g,.int .i64 f,.slice a d c]);generalize (j.setCells w.heap.size 0 [Value.int .i64 g,.int .i64 f,.slice a d c])=aM at C⊢;clear t6 r5 A))
  have aH:=gV (P:=prog) _ _ _ 60 _ _ C.out.1.range underlying60 rfl L;refine⟨rfl,.agg #[.int .i64 g,.int .i64 f,.slice a d c],?_,.inl ⟨g,f,a,d,c,G.out.1,G.out.2,M.out,rfl,C.out.2.2,O.out.2⟩,C.out.2.1⟩;show((results _ _).run _ _)=_;simp[results,f28,asAddr,Act.put,aH]
 ·have F:=gb (qY (E g f) Oa X aB);have M:=gb r;clear N an X r;go_wp2_with fail;refine F.out.mono ?_;rintro q j ⟨rfl,s⟩;have y:=k.out.2.2.trans (s.mono k.out.2.2.size);have z:gm w j:=(o.out t l.out).trans ((D.out.trans (y.mono D.out.size)).mono (o.out t l.out).size);exact⟨rfl,.inr (.inr (.inr ⟨g,f,G.out.1,G.out.2,M.out,rfl⟩)),z⟩
def oh(E:Nat->Nat->Int)(d:Nat->Nat->gP)(c:j9):iF:=((gX (c.getD 0 [])).bind λa=>(gX (c.getD 1 [])).bind λb=>some (if E a b=0 then ji (d a b)else iJ (E a b))).getD badT
theorem aiL(E:Nat->Nat->Int)(b:Nat->Nat->gP)(O:GB E b)(a:j9)(T:a.length=2)(v:Value)(w:World)(q:jO w)(D:SS w v a)(z:∀U∈a,U.length<=10000):
 Calls prog 26 #[v] w (TE (oh E b a) w):=by
 have p:=gb (CT E b O a Oa v w q D z);have Q:=gb (λ(e:World)(n:gm w e)=>q.below n);have HA:=gd (oh E b a=((gX (a.getD 0 [])).bind λc=>(gX (a.getD 1 [])).bind λd=>some (if E c d=0 then ji (b c d)else iJ (E c d))).getD badT) rfl;obtain⟨Y,aa,X,rfl,hg,R⟩:=D;rw[T]at p⊢;generalize a.getD 0 []=I at*;generalize a.getD 1 []=J at*;have L:=gd (gX I=none->oh E b a=badT) (λh=>Uh);have M:=gd (gX J=none->oh E b a=badT) (λh=>Pp);have s:=gd (∀(c d:Nat),gX I=some c->gX J=some d->oh E b a=if E c d=0 then ji (b c d)else iJ (E c d)) (λc d f g=>by rw[HA.out,f,g];rfl);have o:=gd (∀A i,oh E b a=A->gm w i->TE (oh E b a) w (mA A) i) (λA i h n=>by grind [TE.bad]);have N:=gb (λA k e i (h:oh E b a=A) (n:gm w e) (S:TE A e k i)=>(show TE (oh E b a) w k i by rw[h];exact S.pre n));clear R z q HA;generalize TE (oh E b a) w=W at*;go_enter func26,ntmps26;go_wp2_with fail;refine p.out.mono ?_;rintro k e ⟨h,x⟩;have j:=gb x;clear x p;rcases h with⟨c,d,F,H,G,f,g,l,rfl,C,t,B⟩|⟨r,rfl⟩|⟨r,rfl⟩|⟨c,d,f,g,l,rfl⟩
 ·have Z:∀w:World,(Instr.field 60 (.agg #[.int .i64 c,.int .i64 d,.slice F H G]) 2).run prog w= .ok (.slice F H G) w:=(λ_=>by kernel_rfl);have P:=gb (ur _ (b c d) e C t B (Q.out e j.out));have K:=gb ((s.out c d f g).trans (gl l));clear f g l C t B;go_wp2_with fail;refine P.out.mono ?_;rintro k V ⟨rfl,y⟩;have HZ:=gb (N.out _ _ e V K.out j.out (TE.ret y));clear y;exact OO
 ·have HZ:=gb (o.out _ e (L.out r) j.out);exact O1
 ·have HZ:=gb (o.out _ e (M.out r) j.out);exact O1
 ·have HZ:=gb (o.out _ e ((s.out c d f g).trans (gh l)) j.out);exact O1
def ZE(E:Nat->Nat->Int)(g:Nat->Nat->gP)(f h:Nat->Nat->Nat->Nat->Int):Prop:=∀(a b c d:Nat)(i:Value)(e:World),jO e->a<1000000000->b<1000000000->c<1000000000->d<1000000000->E a b=0->Sl e i (g a b)->(∀x∈g a b,ja x)->Calls prog 104 #[.agg #[.int .i64 a,.int .i64 b,i],.int .i64 c,.int .i64 d] e λj k=>j= .returned (.tuple #[.int .i64 (h a b c d),.int .i64 (f a b c d)])/\(0<=f a b c d/\f a b c d<=6)/\ja (h a b c d)/\gm e k
def mX(E:Nat->Nat->Int)(f g:Nat->Nat->Nat->Nat->Int)(c:j9):iF:=((gX (c.getD 2 [])).bind λd=>(gX (c.getD 3 [])).bind λe=>(gX (c.getD 0 [])).bind λa=>(gX (c.getD 1 [])).bind λb=>some (if E a b=0 then(if f a b d e=0 then Lib.itoa (g a b d e)else iJ (f a b d e))else iJ (E a b))).getD badT
theorem aiT(E:Nat->Nat->Int)(L:Nat->Nat->gP)(d f:Nat->Nat->Nat->Nat->Int)(am:GB E L)(al:ZE E L d f)(a:j9)(ap:a.length=4)(v:Value)(w:World)(B:jO w)(hv:SS w v a)(F:∀aq∈a,aq.length<=10000):
 Calls prog 29 #[v] w (TE (mX E d f a) w):=by
 have K:=gb (λ(Z:World)(J:gm w Z)=>CT E L am a Oa v Z (B.below J) (hv.below J) F);have HM:=gb al;have T:=gb (λ(Z:World)(J:gm w Z)=>B.below J);obtain⟨y,C,an,rfl,hg,O⟩:=hv;rw[ap]at K⊢;have HA:=gd (mX E d f a=((gX (a.getD 2 [])).bind λg=>(gX (a.getD 3 [])).bind λi=>(gX (a.getD 0 [])).bind λc=>(gX (a.getD 1 [])).bind λb=>some (if E c b=0 then(if d c b g i=0 then Lib.itoa (f c b g i)else iJ (d c b g i))else iJ (E c b))).getD badT) rfl;have bv:=gd (∀Z:World,gm w Z->Z.cell? ⟨y,C+2,none⟩=some (.string (gJ (a.getD 2 [])))) (λZ J=>(J.cell (p:=⟨y,C+2,none⟩) hg).trans (O 2 Oa));have eq:=gb (λ(Z:World)(J:gm w Z)=>Kd.reads .n (a.getD 2 []) Z (js F 2) (B.below J));have bZ:=gd (∀Z:World,gm w Z->Z.cell? ⟨y,C+3,none⟩=some (.string (gJ (a.getD 3 [])))) (λZ J=>(J.cell (p:=⟨y,C+3,none⟩) hg).trans (O 3 Oa));have dX:=gb (λ(Z:World)(J:gm w Z)=>Kd.reads .n (a.getD 3 []) Z (js F 3) (B.below J));generalize a.getD 2 []=G at*;generalize a.getD 3 []=I at*;generalize a.getD 0 []=s2 at*;generalize a.getD 1 []=s3 at*;have ah:=gd (gX G=none->mX E d f a=badT) (λh=>Uh);have ai:=gd (gX I=none->mX E d f a=badT) (λh=>Pp);have aj:=gd (gX s2=none->mX E d f a=badT) (λh=>Pp);have ak:=gd (gX s3=none->mX E d f a=badT) (λh=>Pp);have P:=gd (∀(c b g i:Nat),gX G=some g->gX I=some i->gX s2=some c->gX s3=some b->mX E d f a=if E c b=0 then(if d c b g i=0 then Lib.itoa (f c b g i)else iJ (d c b g i))else iJ (E c b)) (λc b g i n o h2 h3=>by rw[HA.out,n,o,JJ,JJ,h2,h3];rfl);have x:=gd (∀A t,mX E d f a=A->gm w t->TE (mX E d f a) w (mA A) t) (λA t h J=>by grind [TE.bad]);have cZ:=gb (λA e Z t (h:mX E d f a=A) (J:gm w Z) (ht:TE A Z e t)=>(show TE (mX E d f a) w e t by rw[h];exact ht.pre J));clear O F B HA;generalize TE (mX E d f a) w=ar at*;go_enter func29,ntmps29;go_wp2;refine qm [.n,.n] 5 2 [5,6,7,8,9,10,11,12] (λH=>[G,I].getD H []) y C 4 an rfl rfl Ob Ob rfl rfl Oc (λH Z hi J=> ?_) (λH b w2 hi s X J=> ?_) (λag w8 M N=> ?_)
 ·exact K8
 ·rcases H with _|_|H
  ·exact⟨X,x.out _ w2 (ah.out s) J⟩
  ·exact⟨X,x.out _ w2 (ai.out s) J⟩
  ·exact absurd hi On
 obtain⟨c,ab,_,ae⟩:∃l:Nat,gX G=some l/\l<1000000000/\ag 3= .int .i64 l:=M 0 Oc;obtain⟨b,ac,_,af⟩:∃l:Nat,gX I=some l/\l<1000000000/\ag 7= .int .i64 l:=M 1 Oc;clear M;simp only[j7,Act.put,gU,io,iC,kf,lH,iP,jk,Nat.reduceAdd,Nat.reduceMul];rw[ae];clear ae;rw[af];clear af;have R:=gb (K.out w8 N);have Q:=gb N;have r:=gR ab ac;clear N ab ac K;go_wp2_with fail;refine R.out.mono ?_;rintro e D ⟨h,W⟩;have q:=gb (Q.out.trans (W.mono Q.out.size));clear W R;rcases h with⟨j,k,pa,pn,pc,n,o,z,rfl,ad,U,ao⟩|⟨s,rfl⟩|⟨s,rfl⟩|⟨j,k,n,o,z,rfl⟩
 ·have S:=gb (HM.out j k c b _ D (T.out D q.out) (jJ n) (jJ o) (jJ r.out.1) (jJ r.out.2) z ad U);have bI:=gb ((P.out j k c b r.out.1 r.out.2 n o).trans (gl z));clear n o z ad U ao;go_wp2_with fail;refine S.out.mono ?_;rintro e du ⟨rfl,⟨Y,aa⟩,hx,V⟩;have d3:=gb (q.out.trans (V.mono q.out.size));have HT:=gb (Js (f j k c b) (d j k c b) du Y aa (λ_=>hx) (T.out du d3.out));clear Y aa hx V S;generalize (if d j k c b=0 then Lib.itoa (f j k c b)else iJ (d j k c b))=AT at*;go_wp2_with fail;exact Rc
 ·have HZ:=gb (x.out _ D (aj.out s) q.out);exact O1
 ·have HZ:=gb (x.out _ D (ak.out s) q.out);exact O1
 ·have HZ:=gb (x.out _ D ((P.out j k c b r.out.1 r.out.2 n o).trans (gh z)) q.out);exact O1
def nY(c:Nat->Nat->Int)(f:Nat->Nat->gP)(d:Nat->Nat->Int)(g:Nat->Nat->Int)(e:j9):iF:=((gX (e.getD 0 [])).bind λa=>(gX (e.getD 1 [])).bind λb=>some (if c a b=0 then(if d a b=0 then ji (f a b)++32::Lib.itoa (g a b)else iJ (d a b))else iJ (c a b))).getD badT
def Lb(E:Nat->Nat->Int)(X:Nat->Nat->gP):Prop:=∀(a:Nat)(b:Nat)(d:World),jO d->a<1000000000->b<1000000000->Calls prog 221 #[.int .i64 a,.int .i64 b] d λf e=>∃c:Value,f= .returned (.tuple #[c,.int .i64 (E a b)])/\(0<=E a b/\E a b<=6)/\(E a b=0->(Sl e c (X a b)/\(∀x∈X a b,ja x)/\(X a b).length<=10000))/\(∃g i h,c= .slice g i h)/\gm d e
def Lc(E:Nat->Nat->Int)(X:Nat->Nat->Int):Prop:=∀(a:Nat)(b:Nat)(c:World),jO c->a<1000000000->b<1000000000->Calls prog 222 #[.int .i64 a,.int .i64 b] c λe d=>e= .returned (.tuple #[.int .i64 (X a b),.int .i64 (E a b)])/\(0<=E a b/\E a b<=6)/\(E a b=0->ja (X a b))/\gm c d
theorem aiF(f:Nat->Nat->Int)(g:Nat->Nat->gP)(d:Nat->Nat->Int)(i:Nat->Nat->Int)(z:Lb f g)(A:Lc d i)(c:j9)(Y:c.length=2)(v:Value)(w:World)(r:jO w)(hv:SS w v c)(G:∀ab∈c,ab.length<=10000):
 Calls prog 138 #[v] w (TE (nY f g d i c) w):=by
 have z:=gb z;have A:=gb A;have B:=gb (λ(Z:World)(J:gm w Z)=>r.below J);obtain⟨n,q,V,rfl,M,F⟩:=hv;rw[Y];have bv:=gd (∀Z:World,gm w Z->Z.cell? ⟨n,q,none⟩=some (.string (gJ (c.getD 0 [])))) (λZ J=>(J.cell (p:=⟨n,q+0,none⟩) M).trans (F 0 Oa));have eq:=gb (λ(Z:World)(J:gm w Z)=>Kd.reads .n (c.getD 0 []) Z (js G 0) (r.below J));have bZ:=gd (∀Z:World,gm w Z->Z.cell? ⟨n,q+1,none⟩=some (.string (gJ (c.getD 1 [])))) (λZ J=>(J.cell (p:=⟨n,q+1,none⟩) M).trans (F 1 Oa));have dX:=gb (λ(Z:World)(J:gm w Z)=>Kd.reads .n (c.getD 1 []) Z (js G 1) (r.below J));have HA:=gd (nY f g d i c=((gX (c.getD 0 [])).bind λb=>(gX (c.getD 1 [])).bind λa=>some (if f b a=0 then(if d b a=0 then ji (g b a)++32::Lib.itoa (i b a)else iJ (d b a))else iJ (f b a))).getD badT) rfl;generalize c.getD 0 []=x at*;generalize c.getD 1 []=y at*;have aQ:=gd (gX x=none->nY f g d i c=badT) (λh=>Uh);have aO:=gd (gX y=none->nY f g d i c=badT) (λh=>Pp);have S:=gd (∀(b:Nat)(a:Nat),gX x=some b->gX y=some a->nY f g d i c=if f b a=0 then(if d b a=0 then ji (g b a)++32::Lib.itoa (i b a)else iJ (d b a))else iJ (f b a)) (λb a C W=>by rw[HA.out,C,W];rfl);have bd:=gd (∀k,nY f g d i c=badT->gm w k->TE (nY f g d i c) w (mA [98,97,100]) k) (λk h J=>by grind [TE.bad,badT]);have cZ:=gb (λI e Z k (h:nY f g d i c=I) (J:gm w Z) (X:TE I Z e k)=>(show TE (nY f g d i c) w e k by rw[h];exact X.pre J));clear F G r;generalize TE (nY f g d i c) w=ac at*;go_enter func138,ntmps138;go_wp2;refine qm [.n,.n] 8 0 [8,9,10,11,12,13,14,15] (λH=>[x,y].getD H []) n q 2 V rfl rfl Ob Ob rfl rfl Oc (λH Z hi J=> ?_) (λH a aj hi hn bP J=> ?_) (λQ w8 D o=> ?_)
 ·exact K8
 ·exact PJ
 obtain⟨b,s,_,O⟩:∃j:Nat,gX x=some j/\j<1000000000/\Q 3= .int .i64 j:=D 0 Oc;obtain⟨a,t,_,P⟩:∃j:Nat,gX y=some j/\j<1000000000/\Q 7= .int .i64 j:=D 1 Oc;clear D;simp only[j7,Act.put,gU,io,iC,kf,lH,iP,jk,Nat.reduceAdd,Nat.reduceMul];rw[O];clear O;rw[P];clear P;have bI:=gb (S.out b a s t);have cA:=gb o;have l:=gb (z.out b a w8 (B.out w8 o) (jJ s) (jJ t));have U:=gb (λZ (J:gm w8 Z)=>A.out b a Z (B.out Z (o.trans (J.mono o.size))) (jJ s) (jJ t));clear o s t;go_wp2_with fail;refine l.out.mono ?_;rintro e R ⟨u1,rfl,⟨cc,bX⟩,e5,⟨ad,af,ae,aa⟩,L⟩;subst aa;have cg:=gb L;clear L l;by_cases hE:f b a=0
 ·rw[hE];have K:=gb (e5 hE);have HC:=gb (pX R);have ew:=gb (bI.out.trans (gl hE));clear bI cc bX e5 hE;go_wp2_with fail;refine HC.out.mono ?_;rintro e du ⟨rfl,dy⟩;have d3:=gb (cg.out.trans (dy.mono cg.out.size));have T:=gb dy;clear dy HC;have l:=gb (U.out du d3.out);go_wp2_with fail;refine l.out.mono ?_;rintro e cW ⟨rfl,⟨cc,bX⟩,N,E⟩;have ed:=gb ((cA.out.trans (d3.out.mono cA.out.size)).trans (E.mono (cA.out.trans (d3.out.mono cA.out.size)).size));have HT:=gb (BW _ (g b a) (i b a) (d b a) cW cc bX (λC=>⟨⟨(K.out.1.below T.out).below E,K.out.2⟩,N C⟩) (B.out cW ed.out));clear cc bX N E l;generalize (if d b a=0 then ji (g b a)++32::Lib.itoa (i b a)else iJ (d b a))=AT at*;exact Pl
 ·have HC:=gb (qY (f b a) Oa bX R);exact Mo
def od(c:Nat->gA->Int)(f:Nat->gA->Int)(d:Nat->gA->Int)(g:Nat->gA->gP)(e:j9):iF:=((gX (e.getD 0 [])).bind λa=>(jq (e.getD 1 [])).bind λb=>some (if c a b=0 then(if d a b=0 then Lib.itoa (f a b)++32::ji (g a b)else iJ (d a b))else iJ (c a b))).getD badT
def Ld(E:Nat->gA->Int)(X:Nat->gA->Int):Prop:=∀(b:Nat)(a:gA)(d:Value)(c:World),jO c->b<1000000000->Sl c d (gr a)/\(∀x∈a,x<1000000000)/\a.length<=10001->Calls prog 208 #[.int .i64 b,d] c λe f=>e= .returned (.tuple #[.int .i64 (X b a),.int .i64 (E b a)])/\(0<=E b a/\E b a<=6)/\(E b a=0->ja (X b a))/\gm c f
def Le(E:Nat->gA->Int)(X:Nat->gA->gP):Prop:=∀(b:Nat)(a:gA)(e:Value)(c:World),jO c->b<1000000000->Sl c e (gr a)/\(∀x∈a,x<1000000000)/\a.length<=10001->Calls prog 209 #[.int .i64 b,e] c λg f=>∃d:Value,g= .returned (.tuple #[d,.int .i64 (E b a)])/\(0<=E b a/\E b a<=6)/\(E b a=0->(Sl f d (X b a)/\(∀x∈X b a,ja x)/\(X b a).length<=10000))/\(∃h j i,d= .slice h j i)/\gm c f
theorem aiJ(f:Nat->gA->Int)(g:Nat->gA->Int)(d:Nat->gA->Int)(i:Nat->gA->gP)(B:Ld f g)(C:Le d i)(c:j9)(aa:c.length=2)(v:Value)(w:World)(r:jO w)(hv:SS w v c)(I:∀ac∈c,ac.length<=10000):
 Calls prog 122 #[v] w (TE (od f g d i c) w):=by
 have B:=gb B;have C:=gb C;have D:=gb (λ(Z:World)(J:gm w Z)=>r.below J);obtain⟨n,q,W,rfl,O,G⟩:=hv;rw[aa];have bv:=gd (∀Z:World,gm w Z->Z.cell? ⟨n,q,none⟩=some (.string (gJ (c.getD 0 [])))) (λZ J=>(J.cell (p:=⟨n,q+0,none⟩) O).trans (G 0 Oa));have eq:=gb (λ(Z:World)(J:gm w Z)=>Kd.reads .n (c.getD 0 []) Z (js I 0) (r.below J));have bZ:=gd (∀Z:World,gm w Z->Z.cell? ⟨n,q+1,none⟩=some (.string (gJ (c.getD 1 [])))) (λZ J=>(J.cell (p:=⟨n,q+1,none⟩) O).trans (G 1 Oa));have dX:=gb (λ(Z:World)(J:gm w Z)=>Kd.reads .l (c.getD 1 []) Z (js I 1) (r.below J));have HA:=gd (od f g d i c=((gX (c.getD 0 [])).bind λb=>(jq (c.getD 1 [])).bind λa=>some (if f b a=0 then(if d b a=0 then Lib.itoa (g b a)++32::ji (i b a)else iJ (d b a))else iJ (f b a))).getD badT) rfl;generalize c.getD 0 []=y at*;generalize c.getD 1 []=z at*;have aQ:=gd (gX y=none->od f g d i c=badT) (λh=>Uh)
 have aO:=gd (jq z=none->od f g d i c=badT) (λh=>by
  rw[HA.out,h];cases gX y<;>rfl)
 have T:=gd (∀(b:Nat)(a:gA),gX y=some b->jq z=some a->od f g d i c=if f b a=0 then(if d b a=0 then Lib.itoa (g b a)++32::ji (i b a)else iJ (d b a))else iJ (f b a)) (λb a E X=>by rw[HA.out,E,X];rfl);have bd:=gd (∀k,od f g d i c=badT->gm w k->TE (od f g d i c) w (mA [98,97,100]) k) (λk h J=>by grind [TE.bad,badT]);have cZ:=gb (λL e Z k (h:od f g d i c=L) (J:gm w Z) (Y:TE L Z e k)=>(show TE (od f g d i c) w e k by rw[h];exact Y.pre J));clear G I r;generalize TE (od f g d i c) w=ad at*;go_enter func122,ntmps122;go_wp2;refine qm [.n,.l] 8 0 [8,9,10,11,12,13,14,15] (λH=>[y,z].getD H []) n q 2 W rfl rfl Ob Ob rfl rfl Oc (λH Z hi J=> ?_) (λH a aj hi hn bP J=> ?_) (λK w8 F o=> ?_)
 ·exact K8
 ·exact PJ
 obtain⟨b,s,_,Q⟩:∃j:Nat,gX y=some j/\j<1000000000/\K 3= .int .i64 j:=F 0 Oc;obtain⟨a,t,x,_⟩:∃j,jq z=some j/\Sl w8 (K 7) (gr j)/\_:=F 1 Oc;clear F;simp only[j7,Act.put,gU,io,iC,kf,lH,iP,jk,Nat.reduceAdd,Nat.reduceMul];rw[Q];clear Q;obtain⟨A,R⟩:∃A,K 7=A:=⟨_,rfl⟩;rw[R]at x⊢;clear R;have bI:=gb (T.out b a s t);have cA:=gb o;have l:=gb (B.out b a A w8 (D.out w8 o) (jJ s) ⟨x,rp t,by omega⟩);have V:=gb (λZ (J:gm w8 Z)=>C.out b a A Z (D.out Z (o.trans (J.mono o.size))) (jJ s) ⟨x.below J,rp t,by omega⟩);clear o s t x;go_wp2_with fail;refine l.out.mono ?_;rintro e S ⟨rfl,⟨cc,bX⟩,e5,N⟩;have cg:=gb N;clear N l;by_cases hE:f b a=0
 ·rw[hE];have U:=gb (e5 hE);have HC:=gb (pX S);have ew:=gb (bI.out.trans (gl hE));clear bI cc bX e5 hE;go_wp2_with fail;refine HC.out.mono ?_;rintro e du ⟨rfl,dy⟩;have d3:=gb (cg.out.trans (dy.mono cg.out.size));clear dy HC;have l:=gb (V.out du d3.out);go_wp2_with fail;refine l.out.mono ?_;rintro e cW ⟨u2,rfl,⟨cc,bX⟩,P,⟨ae,ag,af,ab⟩,M⟩;subst ab;have ed:=gb ((cA.out.trans (d3.out.mono cA.out.size)).trans (M.mono (cA.out.trans (d3.out.mono cA.out.size)).size));have HT:=gb (uL (g b a) _ (i b a) (d b a) cW cc bX (λE=>⟨U.out,P E⟩) (D.out cW ed.out));clear cc bX P M l;generalize (if d b a=0 then Lib.itoa (g b a)++32::ji (i b a)else iJ (d b a))=AT at*;exact Pl
 ·have HC:=gb (qY (f b a) Oa bX S);exact Mo
theorem zg(p:Int)(a:Option Addr)(n c:Nat):(#[Value.int .i64 p,Value.slice a n c]:Array Value).all (·.oneCell')=true:=SO
def ZJ(E:Nat->Int)(X:Nat->lO):Prop:=∀(a:Nat)(b:World),jO b->a<1000000000->Calls prog 120 #[.int .i64 a] b λg f=>∃(P:Int)(c:Option Addr)(e d:Nat),g= .returned (.tuple #[.agg #[.int .i64 P,.slice c e d],.int .i64 (E a)])/\(0<=E a/\E a<=6)/\(E a=0->RL f (.slice c e d) (X a)/\(∀m∈X a,(∀x∈m,ja x)/\m.length<=1000)/\(X a).length<=1000)/\gm b f
def pU(E:Nat->Int)(X:Nat->lO)(b:j9):iF:=((gX (b.getD 0 [])).bind λa=>some (if E a=0 then kL (X a)else iJ (E a))).getD badT
theorem aiU(E:Nat->Int)(X:Nat->lO)(S:ZJ E X)(d:j9)(W:d.length=1)(v:Value)(w:World)(p:jO w)(Y:SS w v d)(J:∀ab∈d,ab.length<=10000):
 Calls prog 49 #[v] w (TE (pU E X d) w):=by
 have R:=gb S;have y:=gb (λ(Z:World)(l:gm w Z)=>p.below l);obtain⟨T,aa,ad,rfl,hg,F⟩:=Y;rw[W];have af:w.cell? ⟨T,aa,none⟩=some (.string (gJ (d.getD 0 []))):=F 0 Oa;have s:=gb (nE (d.getD 0 []) w (js J 0) p);have n:=gd (pU E X d=((gX (d.getD 0 [])).bind λc=>some (if E c=0 then kL (X c)else iJ (E c))).getD badT) rfl;generalize d.getD 0 []=N at*;have Q:=gd (∀c,gX N=some c->pU E X d=if E c=0 then kL (X c)else iJ (E c)) (λc i=>by rw[n.out,i];rfl);have bd:=gd (∀j,gX N=none->gm w j->TE (pU E X d) w (mA [98,97,100]) j) (λj i l=>by rw[n.out,i];grind [TE.bad,badT]);have cZ:=gb (λA e Z j (i:pU E X d=A) (l:gm w Z) (V:TE A Z e j)=>(show TE (pU E X d) w e j by rw[i];exact V.pre l));have i3:(prog.info? 103).map (·.size)=some 2:=Ob;clear F J p n;generalize TE (pU E X d) w=ac at*;go_enter func49,ntmps49;go_wp2_with fail;refine s.out.mono ?_;rintro e Z ⟨U,B⟩;have aO:=gb B;clear B s;rcases U with⟨c,hn,rfl⟩|⟨hn,rfl⟩
 ·have x:=gb (R.out c Z (y.out Z aO.out) (jJ hn));have bI:=gb (Q.out c hn);clear hn;go_wp2_with fail;refine x.out.mono ?_;rintro e a ⟨P,f,h,g,rfl,⟨G,H⟩,K,D⟩;have o:hU (a.alloc (.cells #[.int .i64 0,.slice none 0 0] 103)) a.heap.size 103 ([]++[.int .i64 0,.slice none 0 0]):=hU.new a _ _;have O:(a.alloc (.cells #[.int .i64 0,.slice none 0 0] 103)).there a.heap.size 0 (#[Value.int .i64 P,.slice f h g]).size:=o.there;have M:hU ((a.alloc (.cells #[.int .i64 0,.slice none 0 0] 103)).setCells a.heap.size 0 [Value.int .i64 P,.slice f h g]) a.heap.size 103 [Value.int .i64 P,.slice f h g]:=hU.setCells _ [] [.int .i64 0,.slice none 0 0] _ o rfl;have I:=iu (b:=a.heap.size) [Value.int .i64 P,.slice f h g] 0 (a.alloc (.cells #[.int .i64 0,.slice none 0 0] 103));have C:=((f0 a.heap.size a).alloc (fZ _) (.cells #[.int .i64 0,.slice none 0 0] 103)).grown I On (λag i=>by grind);have k:=gR M C;have t:=gb K;have q:=gb (aO.out.trans (D.mono aO.out.size));have r:=gR G H;have L:=zg P f h g;clear o M I C K D x G H
  go_wp2_with (first
   |(refine iA rfl 103 _ _ rfl a.heap.size 0 #[Value.int .i64 P,.slice f h g] rfl rfl O i3 L ?_;show wpList _ _ _ _ _ ((a.alloc (.cells #[.int .i64 0,.slice none 0 0] 103)).setCells a.heap.size 0 [Value.int .i64 P,.slice f h g]);generalize ((a.alloc (.cells #[.int .i64 0,.slice none 0 0] 103)).setCells a.heap.size 0 [Value.int .i64 P,.slice f h g])=du at k⊢;have ae:du.cell? ⟨a.heap.size,1,none⟩=some (.slice f h g):=k.out.1.cell 1;clear O L))
  have d3:=gb (q.out.trans (k.out.2.mono q.out.size));have HT:=gb (Ep (.slice f h g) (X c) (E c) du r.out.1 r.out.2 (λz=>⟨(t.out z).1.below k.out.2,(t.out z).2⟩) (y.out du d3.out));generalize (if E c=0 then kL (X c)else iJ (E c))=AT at*;exact Rc
 ·exact K7
def nz(E e f:Nat->kl->Nat->Int)(d:j9):iF:=((gX (d.getD 0 [])).bind λa=>(jK (d.getD 1 [])).bind λb=>(gX (d.getD 2 [])).bind λc=>some (if E a b c=0 then Lib.itoa (e a b c)++32::Lib.itoa (f a b c)else iJ (E a b c))).getD badT
def ZD(E e f:Nat->kl->Nat->Int):Prop:=∀(a:Nat)(b:kl)(c:Nat)(g:Value)(d:World),jO d->a<1000000000->RL d g (b.map gr)/\(∀m∈b,∀x∈m,x<1000000000)->c<1000000000->Calls prog 119 #[.agg #[.int .i64 a,g],.int .i64 c] d λh i=>h= .returned (.tuple #[.int .i64 (e a b c),.int .i64 (f a b c),.int .i64 (E a b c)])/\(0<=E a b c/\E a b c<=6)/\(E a b c=0->ja (e a b c)/\ja (f a b c))/\gm d i
def akI(s0 f:iF)(v:Value)(w':World):Prop:=∃(a:Nat)(b:kl)(c:Option Addr)(e d:Nat),gX s0=some a/\jK f=some b/\RT w' (.slice c e d) (b.map gr)/\v= .agg #[.int .i64 a,.slice c e d]
def ZK(E d e:Nat->kl->Nat->Int)(b:Nat)(c:kl)(f:iF)(v:Value):Prop:=∃a:Nat,gX f=some a/\v= .tuple #[.int .i64 (d b c a),.int .i64 (e b c a),.int .i64 (E b c a)]/\(0<=E b c a/\E b c a<=6)/\(E b c a=0->ja (d b c a)/\ja (e b c a))
def akJ(E d e:Nat->kl->Nat->Int)(b:Nat)(c:kl)(f:iF)(v:Value):Prop:=∃a:Nat,gX f=some a/\v= .int .i64 (E b c a)/\(0<=E b c a/\E b c a<=6)/\(E b c a=0->ja (d b c a)/\ja (e b c a))
theorem aiO(ae X1 X2:Nat->kl->Nat->Int)(aO:ZD ae X1 X2)(b:j9)(a6:b.length=3)(v:Value)(w:World)(E:jO w)(hv:SS w v b)(F:∀a7∈b,a7.length<=10000):
 Calls prog 48 #[v] w (TE (nz ae X1 X2 b) w):=by
 have HP:=gb aO;have ac:=gb (λ(a:World)(J:gm w a)=>E.below J);obtain⟨g,o,z,rfl,X,P⟩:=hv;rw[a6];have aG:=gd (∀a:World,gm w a->a.cell? ⟨g,o,none⟩=some (.string (gJ (b.getD 0 [])))) (λa J=>(J.cell (p:=⟨g,o+0,none⟩) X).trans (P 0 Oa));have aL:=gb (λ(a:World)(J:gm w a)=>nE (b.getD 0 []) a (js F 0) (E.below J));have aH:=gd (∀a:World,gm w a->a.cell? ⟨g,o+1,none⟩=some (.string (gJ (b.getD 1 [])))) (λa J=>(J.cell (p:=⟨g,o+1,none⟩) X).trans (P 1 Oa));have aM:=gb (λ(a:World)(J:gm w a)=>I6 (b.getD 1 []) a (js F 1) (E.below J));have aI:=gd (∀a:World,gm w a->a.cell? ⟨g,o+2,none⟩=some (.string (gJ (b.getD 2 [])))) (λa J=>(J.cell (p:=⟨g,o+2,none⟩) X).trans (P 2 Oa));have aN:=gb (λ(a:World)(J:gm w a)=>nE (b.getD 2 []) a (js F 2) (E.below J));have aK:=gb (js F 1);have HA:=gd (nz ae X1 X2 b=((gX (b.getD 0 [])).bind λad=>(jK (b.getD 1 [])).bind λaf=>(gX (b.getD 2 [])).bind λaq=>some (if ae ad af aq=0 then Lib.itoa (X1 ad af aq)++32::Lib.itoa (X2 ad af aq)else iJ (ae ad af aq))).getD badT) rfl;have i3:(prog.info? 103).map (·.size)=some 2:=Ob;generalize b.getD 0 []=B at*;generalize b.getD 1 []=C at*;generalize b.getD 2 []=bc at*;have aD:=gd (gX B=none->nz ae X1 X2 b=badT) (λh=>Uh)
 have aE:=gd (jK C=none->nz ae X1 X2 b=badT) (λh=>by
  rw[HA.out,h]
  grind [gX])
 have aF:=gd (gX bc=none->nz ae X1 X2 b=badT) (λh=>Pp);have aB:=gd (∀(ad:Nat)(af:kl)(aq:Nat),gX B=some ad->jK C=some af->gX bc=some aq->nz ae X1 X2 b=if ae ad af aq=0 then Lib.itoa (X1 ad af aq)++32::Lib.itoa (X2 ad af aq)else iJ (ae ad af aq)) (λad af aq D q r=>by rw[HA.out,D,q,r];rfl);have S:=gd (∀V,nz ae X1 X2 b=badT->gm w V->TE (nz ae X1 X2 b) w (mA [98,97,100]) V) (λV h J=>by grind [TE.bad,badT]);have aJ:=gb (λZ l a V (h:nz ae X1 X2 b=Z) (J:gm w a) (ht:TE Z a l V)=>(show TE (nz ae X1 X2 b) w l V by rw[h];exact ht.pre J));clear P F E;generalize TE (nz ae X1 X2 b) w=ba at*;go_enter func48,ntmps48;go_wp2;refine pB [4,5,6,7,8,9,10,11,12,3] [λv _=>v= .slice (some ⟨g,o,none⟩) 3 z,λv _=>v= .pointer (some ⟨g,o,none⟩),λv _=>v= .string (gJ B),λv _=>∃n:Nat,gX B=some n/\v= .int .i64 n,λv _=>v= .slice (some ⟨g,o,none⟩) 3 z,λv _=>v= .pointer (some ⟨g,o+1,none⟩),λv _=>v= .string (gJ C),λv V=>∃t,jK C=some t/\RT V v (t.map gr),λv V=>akI B C v V,λv V=>∃c,v= .pointer (some ⟨c,0,none⟩)/\w.heap.size<=c/\hU V c 103 [.int .i64 0,.slice none 0 0]] Ob Ob rfl rfl ⟨m8 _,m8 _,m8 _,λv a i h _ J=>h,m8 _,m8 _,m8 _,λv a i ⟨t,q,r⟩ _ J=>⟨t,q,r.below J⟩,λv a i ⟨ad,af,d,f,e,D,q,r,h3⟩ _ J=>⟨ad,af,d,f,e,D,q,r.below J,h3⟩,λv a i ⟨c,D,q,r⟩ _ J=>⟨c,D,q,r.below J⟩,trivial⟩ ⟨?_,?_,?_,?_,?_,?_,?_,?_,?_,?_,trivial⟩ ?_
 ·exact Sx
 ·intro O V K J hf bP hd hK;have h3:O.tmps[4]?.getD undef= .slice (some ⟨g,o,none⟩) 3 z:=iW (hd 0 Oc Ob);exact OD
 ·intro O V K J hf bP hd hK;have h3:O.tmps[5]?.getD undef= .pointer (some ⟨g,o,none⟩):=iW (hd 1 Oc Ob);have aj:=aG.out V J;exact OD
 ·intro O V K J hf bP hd hK;have h3:O.eval (.tmp 6)=_:=hd 2 Oc Ob;refine nJ _ _ _ #[_] rfl Ui _ func33 Ob Ob ?_;refine(aL.out V J).mono ?_;rintro l i ⟨h,j⟩;rcases h with⟨L,k,rfl⟩|⟨k,rfl⟩
  ·exact .inl ⟨_,rfl,hK _ _ ⟨L,k,rfl⟩ j⟩
  ·exact .inr ⟨_,rfl,bP,S.out i (aD.out k) (J.trans (j.mono J.size))⟩
 ·exact Sx
 ·intro O V K J hf bP hd hK;have h3:O.tmps[8]?.getD undef= .slice (some ⟨g,o,none⟩) 3 z:=iW (hd 4 Oc Ob);exact OD
 ·intro O V K J hf bP hd hK;have h3:O.tmps[9]?.getD undef= .pointer (some ⟨g,o+1,none⟩):=iW (hd 5 Oc Ob);have aj:=aH.out V J;exact OD
 ·intro O V K J hf bP hd hK;have h3:O.eval (.tmp 10)=_:=hd 6 Oc Ob;refine nJ _ _ _ #[_] rfl Ui _ func44 Ob Ob ?_;refine(aM.out V J).mono ?_;rintro l i ⟨h,j⟩;rcases h with⟨L,u,a9,bb,k,rfl,hu,a3⟩|⟨k,rfl⟩
  ·exact .inl ⟨_,rfl,hK _ _ ⟨L,k,RT.own a3 aK.out k⟩ j⟩
  ·exact .inr ⟨_,rfl,bP,S.out i (aE.out k) (J.trans (j.mono J.size))⟩
 ·intro O V K J hf bP hd hK;obtain⟨ad,G,au⟩:=(show∃n:Nat,gX B=some n/\O.tmps.getD 7 undef= .int .i64 n from hd 3 Oc Ob);obtain⟨af,H,s⟩:=(show∃t,jK C=some t/\RT V (O.tmps.getD 11 undef) (t.map gr)from hd 7 Oc Ob);obtain⟨v1,A⟩:∃v1,O.tmps.getD 11 undef=v1:=⟨_,rfl⟩;rw[A]at s;obtain⟨d,e,f,rfl,_,_,_⟩:=s.1.open;replace au:=iW au;replace A:=iW A;have T:=ju G H s;clear hf hd bP G H s;refine ?_;go_simp;exact hK _ _ ⟨ad,af,d,f,e,T.out.1,T.out.2.1,T.out.2.2,rfl⟩ (f0 _ _)
 ·intro O V K J hf bP hd hK;clear hf hd bP;refine ?_;go_simp;exact hK _ _ ⟨V.heap.size,rfl,J.size,hU.new V _ _⟩ ((f0 _ _).alloc (fZ _) _)
 rintro bh I ⟨aV,aW,aX,aY,aZ,a0,a1,a2,am,an,_⟩ W;clear aV aW aX aY aZ a0 a1 a2;simp only[Nat.reduceAdd]at am an;simp only[j7,Act.put,gU,io,iC,kf,lH,iP,jk,Nat.reduceAdd];obtain⟨ad,af,d,f,e,G,H,s,av⟩:=am;obtain⟨c,aw,bd,N⟩:=an;rw[av,aw];clear av aw;have t1:I.there c 0 (#[Value.int .i64 ad,.slice d f e]).size:=N.there;have ar:hU (I.setCells c 0 [Value.int .i64 ad,.slice d f e]) c 103 [Value.int .i64 ad,.slice d f e]:=hU.setCells _ [] [.int .i64 0,.slice none 0 0] _ N rfl;have Y:=iu (b:=c) [Value.int .i64 ad,.slice d f e] 0 I;have ai:=W.grown Y W.size (λbg h=>by grind);have x:=ju ar ai (s.2 c _ 103 Oc Oc N _ Y);have M:=gR G H;have ap:=zg ad d f e;clear ar Y ai W s G H N
 go_wp2_with (first
  |(refine iA rfl 103 _ _ rfl c 0 #[Value.int .i64 ad,.slice d f e] rfl rfl t1 i3 ap ?_;show wpList _ _ _ _ _ (I.setCells c 0 [Value.int .i64 ad,.slice d f e]);generalize (I.setCells c 0 [Value.int .i64 ad,.slice d f e])=w9 at x⊢;clear t1 ap))
 have y:=gb (λ(V:World)(J:gm w9 V)=>x.out.2.1.trans (J.mono x.out.2.1.size));refine pB [13,14,15,16,17,18,19,20,21] [λv _=>v= .agg #[.int .i64 ad,.slice d f e],λv _=>v= .slice (some ⟨g,o,none⟩) 3 z,λv _=>v= .pointer (some ⟨g,o+2,none⟩),λv _=>v= .string (gJ bc),λv _=>∃n:Nat,gX bc=some n/\v= .int .i64 n,λv _=>ZK ae X1 X2 ad af bc v,λv _=>∃aq:Nat,gX bc=some aq/\v= .int .i64 (X1 ad af aq),λv _=>∃aq:Nat,gX bc=some aq/\v= .int .i64 (X2 ad af aq),λv _=>akJ ae X1 X2 ad af bc v] Ob Ob rfl rfl ⟨m8 _,m8 _,m8 _,m8 _,λv a i h _ J=>h,λv a i h _ J=>h,λv a i h _ J=>h,λv a i h _ J=>h,λv a i h _ J=>h,trivial⟩ ⟨?_,?_,?_,?_,?_,?_,?_,?_,?_,trivial⟩ ?_
 ·intro O V K J hf bP hd hK;have h3:O.tmps[3]?.getD undef= .pointer (some ⟨c,0,none⟩):=iW (hf 3 rfl);have be:V.cell? ⟨c,0,none⟩=some (.int .i64 ad):=(x.out.1.below J).cell 0;have bf:V.cell? ⟨c,1,none⟩=some (.slice d f e):=(x.out.1.below J).cell 1;exact OD
 ·exact Sx
 ·intro O V K J hf bP hd hK;have h3:O.tmps[14]?.getD undef= .slice (some ⟨g,o,none⟩) 3 z:=iW (hd 1 Oc Ob);exact OD
 ·intro O V K J hf bP hd hK;have h3:O.tmps[15]?.getD undef= .pointer (some ⟨g,o+2,none⟩):=iW (hd 2 Oc Ob);have aj:=aI.out V (y.out V J);exact OD
 ·intro O V K J hf bP hd hK;have h3:O.eval (.tmp 16)=_:=hd 3 Oc Ob;refine nJ _ _ _ #[_] rfl Ui _ func33 Ob Ob ?_;refine(aN.out V (y.out V J)).mono ?_;rintro l i ⟨h,j⟩;rcases h with⟨L,k,rfl⟩|⟨k,rfl⟩
  ·exact .inl ⟨_,rfl,hK _ _ ⟨L,k,rfl⟩ j⟩
  ·exact .inr ⟨_,rfl,bP,S.out i (aF.out k) ((y.out V J).trans (j.mono (y.out V J).size))⟩
 ·intro O V K J hf bP hd hK;have a4:O.eval (.tmp 13)=(.agg #[.int .i64 ad,.slice d f e]):=hd 0 Oc Ob;obtain⟨aq,b9,Q⟩:=(show∃n:Nat,gX bc=some n/\O.tmps.getD 17 undef= .int .i64 n from hd 4 Oc Ob);have a5:O.eval (.tmp 17)= .int .i64 aq:=Q;refine nJ _ _ _ #[_,_] rfl (by rw[lD,jG,jG,mR,a4,a5]) _ func119 Ob Ob ?_;refine(HP.out ad af aq (.slice d f e) V (ac.out V (y.out V J)) (jJ M.out.1) ⟨x.out.2.2.below J,Bb M.out.2⟩ (jJ b9)).mono ?_;rintro l i ⟨rfl,hz,hk,j⟩;exact .inl ⟨_,rfl,hK _ _ ⟨aq,b9,rfl,hz,hk⟩ j⟩
 ·exact PC
 ·exact PC
 ·intro O V K J hf bP hd hK;obtain⟨aq,b9,h3,hz,hk⟩:=(show ZK ae X1 X2 ad af bc (O.tmps.getD 18 undef)from hd 5 Oc Ob);replace h3:=iW h3;have ab:=gR hz hk;have cQ:=gb b9;clear hf hd bP hz hk b9;refine ?_;go_simp;exact hK _ _ ⟨aq,cQ.out,rfl,ab.out.1,ab.out.2⟩ (f0 _ _)
 rintro bi R ⟨aP,aQ,aR,aS,aT,aU,ay,az,aA,_⟩ ah;clear aP aQ aR aS aT aU;simp only[Nat.reduceAdd]at ay az aA;simp only[j7,Act.put,gU,io,iC,kf,lH,iP,jk,Nat.reduceAdd];obtain⟨aq,b9,ax,⟨ak,al⟩,ao⟩:=aA;obtain⟨b1,ag,A⟩:=ay;cases b9.symm.trans ag;obtain⟨b2,j,Q⟩:=az;cases b9.symm.trans j;rw[A,Q,ax];have aa:=gb (y.out R ah);have HT:=gb (EJ (X1 ad af aq) (X2 ad af aq) (ae ad af aq) R ak al ao (ac.out R aa.out));have aC:=gb (aB.out ad af aq M.out.1 M.out.2 b9);clear ag j b9 A Q ax ak al ao ah;generalize (if ae ad af aq=0 then Lib.itoa (X1 ad af aq)++32::Lib.itoa (X2 ad af aq)else iJ (ae ad af aq))=AT at*;go_wp2_with fail;refine HT.out.mono ?_;intro l a8 U;have HZ:=gb (aJ.out _ l R a8 aC.out aa.out U);rcases U.1 with rfl|rfl
 ·clear U;exact OO
 ·exact O1
def Gq(n:Nat)(l:gP):lO:=(List.range n).map λi=>(l.drop (i*n)).take n
theorem xL{t n:Nat}(h:t<n):t*n+n<=n*n:=by
 have:=iB n (show t+1<=n by omega)
 grind
def Eh(b a c n:Nat)(m:Nat):np:=(List.range m).map λi=> .slice (some ⟨b,a+i*n,none⟩) n (c-i*n)
theorem Jh(b a c n m:Nat):Eh b a c n (m+1)=Eh b a c n m++[.slice (some ⟨b,a+m*n,none⟩) n (c-m*n)]:=by simp[Eh,jc]
theorem adK{w:World}{B:Nat}{v:Value}{b a c n:Nat}{l:gP}(h:Ow 45 B w v (Eh b a c n n))(p:Sl w (.slice (some ⟨b,a,none⟩) (n*n) c) l)(t:l.length=n*n)(y:1<=n)(q:n<=1000):RL w v (Gq n l):=by
 obtain⟨g,e,rfl,s,f⟩:=h.form (by grind [Eh]);have x:(Eh b a c n n).length=n:=by simp[Eh]
 have k:(Gq n l).length=n:=by simp[Gq]
 refine⟨some ⟨g,0,none⟩,e,by grind,⟨by omega,by have:=h.cap.1;omega⟩,λz=>⟨g,0,rfl,f,λi d=> ?_⟩⟩;rw[k]at d;refine⟨.slice (some ⟨b,a+i*n,none⟩) n (c-i*n),?_,?_⟩
 ·rw[iL,h.cell i Oa];simp[Eh,d]
 ·have o:=xL d;have r:=p.mid (i:=i*n) (j:=i*n+n) Oa o
  grind [Gq]
def ZA(E:Nat->kl->Int)(C:Nat->kl->gP):Prop:=∀(a:Nat)(b:kl)(g:Value)(c:World),jO c->a<1000000000->RL c g (b.map gr)/\(∀m∈b,∀x∈m,x<1000000000)->Calls prog 117 #[.int .i64 a,g] c λi h=>∃(P:Int)(d:Option Addr)(f e:Nat),i= .returned (.tuple #[.agg #[.int .i64 P,.slice d f e],.int .i64 (E a b)])/\(0<=E a b/\E a b<=6)/\(E a b=0->P=a/\(1<=a/\a<=1000)/\Sl h (.slice d f e) (C a b)/\(∀x∈C a b,ja x)/\(C a b).length=a*a)/\gm c h
def oe(E:Nat->kl->Int)(C:Nat->kl->gP)(c:j9):iF:=((gX (c.getD 0 [])).bind λa=>(jK (c.getD 1 [])).bind λb=>some (if E a b=0 then kL (Gq a (C a b))else iJ (E a b))).getD badT
theorem aiK(E:Nat->kl->Int)(C:Nat->kl->gP)(aJ:ZA E C)(b:j9)(aY:b.length=2)(v:Value)(w:World)(G:jO w)(hv:SS w v b)(r:∀t∈b,t.length<=10000):
 Calls prog 47 #[v] w (TE (oe E C b) w):=by
 have HP:=gb aJ;have ak:=gb (λ(Z:World)(J:gm w Z)=>G.below J);obtain⟨y,z,aN,rfl,hg,U⟩:=hv;rw[aY];have bv:=gd (∀Z:World,gm w Z->Z.cell? ⟨y,z,none⟩=some (.string (gJ (b.getD 0 [])))) (λZ J=>(J.cell (p:=⟨y,z+0,none⟩) hg).trans (U 0 Oa));have eq:=gb (λ(Z:World)(J:gm w Z)=>Kd.reads .n (b.getD 0 []) Z (js r 0) (G.below J));have bZ:=gd (∀Z:World,gm w Z->Z.cell? ⟨y,z+1,none⟩=some (.string (gJ (b.getD 1 [])))) (λZ J=>(J.cell (p:=⟨y,z+1,none⟩) hg).trans (U 1 Oa));have dX:=gb (λ(Z:World)(J:gm w Z)=>Kd.reads .r (b.getD 1 []) Z (js r 1) (G.below J));have HA:=gd (oe E C b=((gX (b.getD 0 [])).bind λa=>(jK (b.getD 1 [])).bind λd=>some (if E a d=0 then kL (Gq a (C a d))else iJ (E a d))).getD badT) rfl;have i3:(prog.info? 99).map (·.size)=some 2:=Ob;generalize b.getD 0 []=M at*;generalize b.getD 1 []=N at*;have aQ:=gd (gX M=none->oe E C b=badT) (λh=>Uh);have aO:=gd (jK N=none->oe E C b=badT) (λh=>Pp);have aG:=gd (∀(a:Nat)(d:kl),gX M=some a->jK N=some d->oe E C b=if E a d=0 then kL (Gq a (C a d))else iJ (E a d)) (λa d h0 h1=>by rw[HA.out,h0,h1];rfl);have bd:=gd (∀s,oe E C b=badT->gm w s->TE (oe E C b) w (mA [98,97,100]) s) (λs h J=>by grind [TE.bad,badT]);have ai:=gb (λag i Z s (h:oe E C b=ag) (J:gm w Z) (ht:TE ag Z i s)=>(show TE (oe E C b) w i s by rw[h];exact ht.pre J));clear U r G;generalize TE (oe E C b) w=a3 at*;go_enter func47,ntmps47;go_wp2;refine qm [.n,.r] 9 0 [9,10,11,12,13,14,15,16] (λH=>[M,N].getD H []) y z 2 aN rfl rfl Ob Ob rfl rfl Oc (λH Z hi J=> ?_) (λH d aj hi hn bP J=> ?_) (λaf w8 S T=> ?_)
 ·exact K8
 ·exact PJ
 obtain⟨a,ab,_,aB⟩:∃n:Nat,gX M=some n/\n<1000000000/\af 3= .int .i64 n:=S 0 Oc;obtain⟨d,ac,ae,_⟩:∃n,jK N=some n/\RL w8 (af 7) (n.map gr)/\_:=S 1 Oc;clear S;simp only[j7,Act.put,gU,io,iC,kf,lH,iP,jk,Nat.reduceAdd,Nat.reduceMul];rw[aB];clear aB;obtain⟨v1,aC⟩:∃v1,af 7=v1:=⟨_,rfl⟩;rw[aC]at ae⊢;clear aC;have HQ:=gb (HP.out a d v1 w8 (ak.out w8 T) (jJ ab) ⟨ae,Bb ac⟩);have ah:=gb T;have B:=gb (aG.out a d ab ac);clear T ab ac ae;go_wp2_with fail;refine HQ.out.mono ?_;rintro i c ⟨P,j,k,e,rfl,⟨au,V⟩,aw,ar⟩;have R:hU (c.alloc (.cells #[.int .i64 0,.slice none 0 0] 99)) c.heap.size 99 ([]++[.int .i64 0,.slice none 0 0]):=hU.new c _ _;have t1:(c.alloc (.cells #[.int .i64 0,.slice none 0 0] 99)).there c.heap.size 0 (#[Value.int .i64 P,.slice j k e]).size:=R.there;have ay:hU ((c.alloc (.cells #[.int .i64 0,.slice none 0 0] 99)).setCells c.heap.size 0 [Value.int .i64 P,.slice j k e]) c.heap.size 99 [Value.int .i64 P,.slice j k e]:=hU.setCells _ [] [.int .i64 0,.slice none 0 0] _ R rfl;have av:=iu (b:=c.heap.size) [Value.int .i64 P,.slice j k e] 0 (c.alloc (.cells #[.int .i64 0,.slice none 0 0] 99));have aq:=((f0 c.heap.size c).alloc (fZ _) (.cells #[.int .i64 0,.slice none 0 0] 99)).grown av On (λba h=>by grind);have l:=gR ay aq;have Q:=gb aw;have D:=gb (ah.out.trans (ar.mono ah.out.size));have ax:=zg P j k e;clear R ay av aq aw ar HQ
 go_wp2_with (first
  |(refine iA rfl 99 _ _ rfl c.heap.size 0 #[Value.int .i64 P,.slice j k e] rfl rfl t1 i3 ax ?_;show wpList _ _ _ _ _ ((c.alloc (.cells #[.int .i64 0,.slice none 0 0] 99)).setCells c.heap.size 0 [Value.int .i64 P,.slice j k e]);generalize ((c.alloc (.cells #[.int .i64 0,.slice none 0 0] 99)).setCells c.heap.size 0 [Value.int .i64 P,.slice j k e])=aE at l⊢;clear t1 ax))
 by_cases o:E a d=0
 ·rw[o];obtain⟨rfl,⟨Y,aa⟩,az,al,W⟩:=Q.out o;have F:=gb (pX aE);have O:=gb (B.out.trans (gl o));have aA:=az.below l.out.2;clear Q B au V az o;go_wp2_with fail;refine F.out.mono ?_;rintro i x ⟨rfl,q⟩;have K:=aA.below q;have am:=l.out.1.below q;have ao:=l.out.2.trans (q.mono l.out.2.size);have f:=gb (D.out.trans (ao.mono D.out.size));clear q ao aA F;generalize C a d=aM at*;obtain⟨bc,be,he,⟨aP,aR⟩,aS⟩:=K.out;simp only[iU]at he;obtain⟨rfl,rfl,rfl⟩:=he;have a8:0<a*a:=aku Y Y;obtain⟨g,A,rfl,a5,aT⟩:=aS Oa;rw[W]at K am aR⊢;have HL:=gb W;have aF:=gb al;have aK:=gb K;have HA:=gb am;clear aT K W al aP;have q0:x.cell? ⟨c.heap.size,0,none⟩=some (.int .i64 a):=HA.out.cell 0;obtain⟨N2,a4⟩:∃N2,a*a=N2:=⟨_,rfl⟩;go_wp2;go_loopw [7,8,27] (λlv _ iv wr=>∃t:Nat,iv= .int .i64 t/\t<=a/\Ow 45 x.heap.size wr lv (Eh g A e a t)/\gm x wr) (λ_ _ iv _=>a-(intOf iv).toNat)
  case atStart=>exact⟨0,rfl,ge _,Ow.nil _ _ _,f0 _ _⟩
  case round=>
   clear q0;obtain⟨t,rfl,ht,I,J⟩:=hrel;have aD:=J.size;by_cases aX:t<a
   ·have aW:(t:Int)<a:=(by omega);have hm:=xL aX;obtain⟨L,X⟩:∃L,t*a=L:=⟨_,rfl⟩;have m1:(t:Int)*a=L:=Oa;have m2:((t:Int)+1)*(a:Int)=L+a:=(by grind);rw[X]at hm;have a9:a*a<=1000000:=gE aa aa;have q0:wr.cell? ⟨c.heap.size,0,none⟩=some (.int .i64 a):=(HA.out.below J).cell 0;have q1:wr.cell? ⟨c.heap.size,1,none⟩=some (.slice (some ⟨g,A,none⟩) (a*a) e):=(HA.out.below J).cell 1;have aI:=gb X;have HB:=gb J;have a0:(Eh g A e a t).length<=1000000000000:=(by grind [Eh]);have aZ:(Eh g A e a t).length=t:=(by simp[Eh]);clear X J;go_wp2_with (at_builtin;refine jt wr _ _ 46 45 (.slice none 0 0) 24 rfl rfl underlying46 info45 rfl Oc x.heap.size _ (Eh g A e a t) rfl I rfl rfl a0 aD ?_;intro g3 c3 bf aV aU a6 a7);go_roundw
    case rel=>
     have h9:=aV;rw[aZ]at h9;refine⟨t+1,by go_num,by omega,?_,HB.out.grown aU aD (λg i=>(I.lt g i).1)⟩;rw[Jh,aI.out];exact Oa
    case measure=>exact gQ
   ·obtain rfl:t=a:=(by omega);have aW:¬(t:Int)<t:=Oa;have ad:=adK I (aK.out.below J) HL.out Y aa;obtain⟨ra,rc,rn,rfl,_,_,_⟩:=ad.open
    have HT:=gb (λ(Z:World)(an:gm wr Z)=>En _ (Gq t aM) Z (ad.below an) (λbb r=>by
     simp only[Gq,gK,gC]at r;obtain⟨H,hi,rfl⟩:=r
     refine⟨λa2 hx=>aF.out a2 (nU (nV hx)),by grind⟩) (by grind [Gq]) (ak.out Z ((f.out.trans (J.mono f.out.size)).trans (an.mono (f.out.trans (J.mono f.out.size)).size))))
    have aH:=gb (f.out.trans (J.mono f.out.size));have aL:=gb (HT.out wr (f0 _ _));clear I ad J HT;go_wp2_with fail;refine aL.out.mono ?_;rintro i a1 ⟨rfl,ap⟩;have HZ:=gb (ai.out _ _ wr a1 O.out aH.out (TE.ret ap));clear ap;exact OO
 ·have F:=gb (qY (E a d) Oa V aE);have O:=gb (B.out.trans (gh o));clear Q B au V o;go_wp2_with fail;refine F.out.mono ?_;rintro i x ⟨rfl,q⟩;have f:=gb (D.out.trans ((l.out.2.trans (q.mono l.out.2.size)).mono D.out.size));exact⟨rfl,ai.out _ _ w x O.out (f0 _ _) (TE.bad f.out)⟩
end Go.Proofs.YtnnaadmegeeinaaGreatDoor
