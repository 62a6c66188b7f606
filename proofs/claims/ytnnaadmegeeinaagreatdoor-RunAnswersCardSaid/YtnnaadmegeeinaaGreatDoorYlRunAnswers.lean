/-
  The law parterrelaw4.RunAnswers: for every input it returns true, and what it was handed reads afterwards as before. Condition: the listed variables hold what the program's text lays.
-/
import Derived.Test.YtnnaadmegeeinaaGreatDoorYy
import Derived.Test.YtnnaadmegeeinaaGreatDoorCards
import Derived.Test.YtnnaadmegeeinaaGreatDoorTie
import Derived.SevenTiedAt
import Derived.ChangeMaps5
set_option linter.all false
set_option maxHeartbeats 8000000
set_option maxRecDepth 100000
namespace Go.Proofs.YtnnaadmegeeinaaGreatDoor
open Tryz Go.Proofs.Tryz
open Go.RowKit
def jm:=@List.getD_cons_succ
theorem Ov{p:Prop}(h:p:=by
 clear hc hx hy hz;go_enter func21,ntmps21;go_wp2;go_quiet (fail);go_wp2
 exact HZ.out nq):p:=h
theorem MH{p:Prop}(h:p:=by cases e0:gX aE<;>cases e1:gX t1<;>(simp[qi,Zf,e0,e1];try rfl)):p:=h
theorem SE{p:Prop}(h:p:=by
 refine iM.opt λx hx=> ?_;simp only[g6,gH]at hx;obtain⟨O,h0,rfl⟩:=hx
 grind [iM.ite,iM.bool]):p:=h
theorem Ur{p:Prop}(h:p:=by cases e0:jq aE<;>(simp[qi,Zf,e0];try rfl)):p:=h
theorem Uw{p:Prop}(h:p:=by cases e0:gX aE<;>(simp[qi,Zf,e0];try rfl)):p:=h
theorem Uz{p:Prop}(h:p:=by cases e0:gX aE<;>cases e1:gX t1<;>cases e2:gX aW<;>(simp[qi,Zf,e0,e1,e2];try rfl)):p:=h
theorem UZ{p:Prop}(h:p:=by cases e0:gX aE<;>cases e1:jq t1<;>(simp[qi,Zf,e0,e1];try rfl)):p:=h
theorem U0{p:Prop}(h:p:=by cases e0:gX aE<;>cases e1:jK t1<;>(simp[qi,Zf,e0,e1];try rfl)):p:=h
theorem U5{p:Prop}(h:p:=by rw[<-HA.out,hE];rfl):p:=h
theorem Dt{p:Prop}(h:p:=by have:=mK e0;omega):p:=h
theorem Du{p:Prop}(h:p:=by have:=mK e1;omega):p:=h
theorem DM{p:Prop}(h:p:=by rw[<-bF];exact gM (f0 _ _) nq):p:=h
theorem D9{p:Prop}(h:p:=by rw[<-iN,<-lu];rfl):p:=h
theorem KF{p:Prop}(h:p:=by
 go_enter func21,ntmps21;go_wp2_with fail;go_quiet (fail);obtain⟨aj,bF⟩:∃aj,w.drewN nq=aj:=⟨_,rfl⟩;have bq:gm w aj:=DM;have d0:aj.cell? ⟨g,0,none⟩=some (.int .i64 x):=by rw[<-bF];exact bH
 have d1:aj.cell? ⟨g,1,none⟩=some (.int .i64 y):=by rw[<-bF];exact k1
 have d2:aj.cell? ⟨g,2,none⟩=some (.int .i64 al):=by rw[<-bF];exact bM
 have a7:=gb bq;rw[bF];clear bF bq bH k1 bM;go_wp2_with fail;go_still_tail 9,Ob;go_wp2_with fail;refine(HK.out _).mono ?_;rintro e w3 ⟨rfl,J⟩;have bf:gm w w3:=(a7.out.drew).trans (J.mono a7.out.size);rcases hT with⟨hneg,hE⟩|⟨cC,hE,hX⟩
 ·have HZ:=gb (HG.out [] 3 w3 bf Oc U5);clear J bf HG HA hE;exact OO
 ·have HD:=gb (nK D cC HI.out w3);have HZ:=gb (HG.out (Lib.itoa D) 0 w3 bf Oc (by rw[<-HA.out,hE,hX];try rfl));clear J bf HG HA hE hX;go_wp2_with fail;refine HD.out.mono ?_;rintro e aN ⟨rfl,rfl⟩
  exact OO):p:=h
theorem Q6{p:Prop}(h:p:=by
 intro O V K J hf hd hK;have h3:=hd 7 Oc Ob rfl;have h4:O.tmps[187]?.getD undef= .tuple #[.slice none 0 0,.int .i64 ae]:=iW h3
 exact Rx):p:=h
theorem Rt{p:Prop}(h:p:=by
 intro O V K J hf hd hK;have h3:O.tmps[189]?.getD undef= .pointer (some ⟨g,0,none⟩):=iW (hd 1 Oc Ob rfl)
 exact Rz):p:=h
theorem Ru{p:Prop}(h:p:=by
 intro O V K J hf hd hK;have h3:O.tmps[192]?.getD undef= .pointer (some ⟨g,1,none⟩):=iW (hd 4 Oc Ob rfl);have aV:=bZ.out V J
 exact QZ):p:=h
theorem Rv{p:Prop}(h:p:=by
 intro O V K J hf hd hK;have h3:O.tmps[188]?.getD undef= .slice (some ⟨g,0,none⟩) 2 aa:=iW (hd 0 Oc Ob rfl)
 exact QZ):p:=h
theorem Rw{p:Prop}(h:p:=by
 intro O V K J hf hd hK;have h3:O.tmps[191]?.getD undef= .slice (some ⟨g,0,none⟩) 2 aa:=iW (hd 3 Oc Ob rfl)
 exact QZ):p:=h
noncomputable def pi:nr where
 LstE:=_
 LstX:=_
 hLst:=alD
 MulE:=_
 MulX:=_
 hMul:=alE _ _
 RowE:=_
 RowX:=_
 hRow:=alH
 LeaE:=_
 LeaX:=_
 LeaY:=_
 hLea:=alB
 CycE:=_
 CycX:=_
 hCyc:=aly
 OrdE:=_
 OrdX:=_
 hOrd:=alF
 BeaE:=_
 BeaX:=_
 hBea:=alt
 ExtE:=_
 ExtX:=_
 hExt:=alz
 LevE:=_
 LevX:=_
 LevY:=_
 hLev:=alC
 TriE:=_
 TriX:=_
 hTri:=alJ
 DifE:=_
 DifX:=_
 hDif1:=ajN
 MtpE:=_
 MtpX:=_
 hDif2:=ajO
 RulE:=_
 RulX:=_
 hRul:=alI
 GauE:=_
 GauX:=_
 hGau:=alA
 BenE:=_
 BenX:=_
 hBen:=alu
 RaoE:=_
 RaoX:=_
 hRao:=alG
 CirE:=_
 CirX:=_
 hCir:=alw
 CouE:=_
 CouX:=_
 hCou:=alx
 BruE:=_
 BruX:=_
 hBru:=alv
 CasE:=_
 CasX:=_
 hCas1:=ajL
 CslE:=_
 CslX:=_
 hCas2:=ajM
theorem akZ:∀n:Nat,n<=16->(!(x1 (n:Int))||(Ts n==cfA (n-1) (n-1)))=true:=OH
theorem aaq(a:Nat)(o:a<1000000000)(w:World):Calls prog 86 #[.int .i64 a] w λe d=>(∃(b:Option Addr)(j c:Nat)(X:lO)(E:Int),e= .returned (.tuple #[.slice b j c,.int .i64 E])/\RL d (.slice b j c) X/\(∀l∈X,BQ l/\l.length<=1000)/\X.length<=1000/\(0<=E/\E<=6)/\(if(if x1 a=true then(0:Int)else 1)=0 then kL (Ts a)else iJ (if x1 a=true then 0 else 1))=if E=0 then kL X else iJ E)/\gm w d:=by
 by_cases h:x1 a=true
 ·have i:=akZ a (RP h);rw[h,qJ,kS,kz]at i;have f:=G3 a (RP h);simp only[ia,iK,gF]at f;refine(Gv a w h).mono ?_;rintro e d ⟨⟨s,rfl,g⟩,k⟩;rw[<-i]at g;obtain⟨b,c,rfl⟩:=g.len;refine⟨⟨b,_,c,Ts a,0,rfl,g.rl Oa (λr p=> ?_),λl n=>⟨λx q=> ?_,(f.1 l n).2⟩,f.2,by decide,by grind⟩,k⟩
  ·grind
  grind
 ·refine(Ex a (by grind [ja]) w (by grind)).mono ?_;rintro e d ⟨rfl,rfl⟩;exact⟨⟨none,0,0,[],1,rfl,⟨none,0,rfl,by simp,λh=>by simp at h⟩,by simp,by simp,by decide,by grind⟩,f0 _ _⟩
theorem W4(a:Nat)(l t:Value)(B:Nat)(w:World)(k:OI B w l (gr [a]))(s:a<1000000000):
 Calls prog 21 #[.string (gJ [99,105,114,99,108,101]),l,t] w (oE (if(if x1 a=true then(0:Int)else 1)=0 then kL (Ts a)else iJ (if x1 a=true then 0 else 1)) w):=by
 obtain⟨A,b⟩:∃A,(if(if x1 a=true then(0:Int)else 1)=0 then kL (Ts a)else iJ (if x1 a=true then 0 else 1))=A:=⟨_,rfl⟩;have c:=gb (aaq a s w);rw[b]at c⊢;clear b;have p:=oE.g A w;generalize oE A w=G at*;obtain⟨x,v,rfl,d⟩:=k.nums (n:=1) rfl Oc;have c0:=d.out w (f0 _ _) 0 Oc;clear k d;have D:((gJ [99,105,114,99,108,101]).toList==[103,97,117,115,115])=false:=Ol;have F:((gJ [99,105,114,99,108,101]).toList==[98,101,110,116])=false:=Ol;have H:((gJ [99,105,114,99,108,101]).toList==[114,97,111])=false:=Ol;have I:((gJ [99,105,114,99,108,101]).toList==[99,105,114,99,108,101])=true:=Ol;generalize gJ [99,105,114,99,108,101]=J at*;go_enter func21,ntmps21;go_wp2_with fail;refine c.out.mono ?_;rintro r o ⟨⟨y,C,z,X,E,rfl,i,f,g,h,b⟩,j⟩;have q:=gb (sj _ X o i f g);have e:=gb (p.out _ E o j h b);clear i f g h b j c;go_wp2_with fail;refine q.out.mono ?_;rintro r K ⟨rfl,rfl⟩;go_wp2
 first|exact e.out|(go_ret2;exact e.out)
theorem abs(l:gA)(z i:Value)(B U:Nat)(w:World)(g:OL B U w i ([l].map gr))(H:l.length<=10001):
 Calls prog 21 #[.string (gJ [99,111,117,108,100]),z,i] w (oE (if(BB (gr l)).2=0 then nn (BB (gr l)).1 else iJ (BB (gr l)).2) w):=by
 obtain⟨A,c⟩:∃A,(if(BB (gr l)).2=0 then nn (BB (gr l)).1 else iJ (BB (gr l)).2)=A:=⟨_,rfl⟩;have f:0<=(BB (gr l)).2/\(BB (gr l)).2<=6:=by
  grind [BB]
 have b:=gb (λ(v:Value)(B:Nat)(k:World)(y:OI B k v (gr l))=>Gw v (gr l) k (y.sl (by grind [gr])));rw[<-aat]at b;rw[c];have q:=oE.g A w;generalize oE A w=G at*;have s:=gb (λD a=>q.out _ _ D a f c.symm);obtain⟨F,E,rfl,d⟩:=g.lists (n:=1) rfl Oc;obtain⟨C,h⟩:=d.out 0 Oc;obtain⟨c0,j⟩:=h w (f0 _ _);have p:=gb (b.out C B w j);clear g d h j f c b;generalize BB (gr l)=t at*;obtain⟨c1,c2⟩:=t;have I:((gJ [99,111,117,108,100]).toList==[103,97,117,115,115])=false:=Ol;have J:((gJ [99,111,117,108,100]).toList==[98,101,110,116])=false:=Ol;have K:((gJ [99,111,117,108,100]).toList==[114,97,111])=false:=Ol;have L:((gJ [99,111,117,108,100]).toList==[99,105,114,99,108,101])=false:=Ol;have M:((gJ [99,111,117,108,100]).toList==[99,111,117,108,100])=true:=Ol;generalize gJ [99,111,117,108,100]=N at*;go_enter func21,ntmps21;go_wp2_with fail;refine p.out.mono ?_;rintro x o ⟨rfl,a⟩;have e:=gb (s.out o a);have r:=gb (wQ c1 o);clear a;go_wp2_with fail;refine r.out.mono ?_;rintro x O ⟨rfl,rfl⟩;go_wp2
 first|exact e.out|(go_ret2;exact e.out)
theorem aae(k n:Nat)(w:World):Calls prog 88 #[.int .i64 k,.int .i64 n] w λe b=>e= .returned (.int .i64 (mH k n))/\w=b:=by
 by_cases a:k<1\/10<k\/n<1
 ·rw[show mH k n=1 from gl a];exact vQ k n w Oa
 by_cases c:12<n
 ·rw[show mH k n=3 by unfold mH;omega];exact xf k n w Oa Oa Oa
 have h:=vR k n w Oa Oa Oa Oa
 rwa [show(if 4096<k^n then(3:Int)else 0)=mH k n by unfold mH;omega]at h
theorem W3(k n:Nat)(G M:Value)(B:Nat)(w:World)(D:OI B w G (gr [k,n])):
 Calls prog 21 #[.string (gJ [98,114,117,105,106,110]),G,M] w (oE (if mH k n=0 then ji (nM k n)else iJ (mH k n)) w):=by
 obtain⟨A,s⟩:∃A,(if mH k n=0 then ji (nM k n)else iJ (mH k n))=A:=⟨_,rfl⟩;have y:0<=mH k n/\mH k n<=6:=by
  grind [mH]
 have H:=gb (λa=>aae k n a)
 have p:=gd (mH k n=0->∀a,Calls prog 89 #[.int .i64 k,.int .i64 n] a λe l=>(∃b,e= .returned b/\OI a.heap.size l b (nM k n))/\gm a l) (λh a=>by
  unfold mH at h;split at h
  ·exact Sb
  ·split at h
   ·exact Sb
   ·exact EK k n a Oa Oa Oa Oa Oa)
 have r:=gb (λ(b:Value)(a:World)(h:mH k n=0)(K:OI w.heap.size a b (nM k n))=>(by
  have S:=tV (k:=k) (n:=n) (by
   grind [mH])
  exact lW b _ a (K.sl Oa) (λN L=>by
   have:=xz N L
   grind [mH]) Oa))
 rw[s];have I:=oE.g A w;generalize oE A w=O at*;have d:=gb (λT l i (h:A=if mH k n=0 then T else iJ (mH k n))=>I.out T _ l i y h);obtain⟨g,P,rfl,q⟩:=D.nums (n:=2) rfl Oc;have c0:w.cell? ⟨g,0,none⟩=some (.int .i64 k):=q.out w (f0 _ _) 0 Oc;have c1:w.cell? ⟨g,1,none⟩=some (.int .i64 n):=q.out w (f0 _ _) 1 Oc;clear D q y;have v:=gb s;clear s;generalize nM k n=X at*;generalize mH k n=E at*;have V:((gJ [98,114,117,105,106,110]).toList==[103,97,117,115,115])=false:=Ol;have W:((gJ [98,114,117,105,106,110]).toList==[98,101,110,116])=false:=Ol;have Y:((gJ [98,114,117,105,106,110]).toList==[114,97,111])=false:=Ol;have Z:((gJ [98,114,117,105,106,110]).toList==[99,105,114,99,108,101])=false:=Ol;have q4:((gJ [98,114,117,105,106,110]).toList==[99,111,117,108,100])=false:=Ol;have q5:((gJ [98,114,117,105,106,110]).toList==[98,114,117,105,106,110])=true:=Ol;generalize gJ [98,114,117,105,106,110]=aa at*;go_enter func21,ntmps21;go_wp2_with fail;go_still_tail 6,Ob;go_wp2_with fail;refine(H.out _).mono ?_;rintro e o ⟨rfl,j⟩;have C:gm w o:=by rw[<-j];exact(f0 _ _).drew
 have Q:o.cell? ⟨g,0,none⟩=some (.int .i64 k):=by rw[<-j];exact c0
 have R:o.cell? ⟨g,1,none⟩=some (.int .i64 n):=by rw[<-j];exact c1
 have c:=gb C;clear c0 c1 C j;by_cases f:E=0
 ·subst f;have x:=gb (λa=>p.out rfl a);clear p;go_wp2_with fail;go_still_tail 6,Ob;go_wp2_with fail;refine(x.out _).mono ?_;rintro e t ⟨⟨b,rfl,F⟩,i⟩;have z:gm w t:=(c.out.drew).trans (i.mono c.out.size);have J:=gb (r.out b t (by grind) (F.mono c.out.size));have bo:=gb (d.out (ji X) t z v.out.symm);clear i z F x r d;go_wp2_with fail;refine J.out.mono ?_;rintro e w4 ⟨rfl,rfl⟩;exact Ot
 ·have U:(E !=0)=true:=iT.2 f;have bo:=gb (d.out [] o c.out (by rw[<-v.out,gh f,gh f]));clear p r d;exact Ot
theorem abt(a b c:Nat)(p r:Value)(B:Nat)(w:World)(l:OI B w p (gr [a,b,c])):
 Calls prog 21 #[.string (gJ [103,97,117,115,115]),p,r] w (oE (if qZ a b c=0 then Lib.itoa (yD a b c)else iJ (qZ a b c)) w):=by
 refine oE.in λA G HA HG=> ?_;obtain⟨g,z,rfl,e⟩:=l.nums (n:=3) rfl Oc;have bH:w.cell? ⟨g,0,none⟩=some (.int .i64 a):=e.out w (f0 _ _) 0 Oc;have k1:w.cell? ⟨g,1,none⟩=some (.int .i64 b):=e.out w (f0 _ _) 1 Oc;have bM:w.cell? ⟨g,2,none⟩=some (.int .i64 c):=e.out w (f0 _ _) 2 Oc;clear l e;by_cases d:sA a b c
 ·have hE:qZ a b c=1:=gl d;have HZ:=gb (λn=>HG.out [] 1 (w.drewN n) (gM (f0 _ _) n) Oc U5);unfold sA at d;clear hE HA HG;have i:(30<a)\/(¬30<a/\a<b)\/(¬30<a/\¬a<b/\c<2)\/(¬30<a/\¬a<b/\¬c<2/\64<c):=Oa;clear d;have s:((gJ [103,97,117,115,115]).toList==[103,97,117,115,115])=true:=Ol;generalize gJ [103,97,117,115,115]=t at*;generalize hx:(a:Int)=x at*;generalize hy:(b:Int)=y at*;generalize hz:(c:Int)=al at*;rcases i with hc|hc|hc|hc
  ·have f:decide ((30:Int)<x)=true:=gy Oa;exact Ov
  ·have f:decide ((30:Int)<x)=false:=gp Oa;have j:decide (x<y)=true:=gy Oa;exact Ov
  ·have f:decide ((30:Int)<x)=false:=gp Oa;have j:decide (x<y)=false:=gp Oa;have o:decide (al<2)=true:=gy Oa;exact Ov
  ·have f:decide ((30:Int)<x)=false:=gp Oa;have j:decide (x<y)=false:=gp Oa;have o:decide (al<2)=false:=gp Oa;have q:decide ((64:Int)<al)=true:=gy Oa;exact Ov
 ·have HK:=gb (λv=>Nb a b c v (by grind [sA]) (by grind [sA]) (by grind [sA]) (by grind [sA]));have i:¬30<a/\¬a<b/\¬c<2/\¬64<c:=(by grind [sA]);have hT:=ak7 d;obtain⟨D,h⟩:∃D,dT (gT c a b)=D:=⟨_,rfl⟩;rw[h]at HK hT;have k:ja D:=by
   rw[<-h];have:=z8 (gT c a b)
   grind [ja]
  have HI:=gb k;clear d h k;generalize hx:(a:Int)=x at*;generalize hy:(b:Int)=y at*;generalize hz:(c:Int)=al at*;have f:decide ((30:Int)<x)=false:=gp Oa;have j:decide (x<y)=false:=gp Oa;have o:decide (al<2)=false:=gp Oa;have q:decide ((64:Int)<al)=false:=gp Oa;clear i hx hy hz;have s:((gJ [103,97,117,115,115]).toList==[103,97,117,115,115])=true:=Ol;generalize gJ [103,97,117,115,115]=t at*;exact KF
theorem ajl(a b c:Nat)(q s:Value)(B:Nat)(w:World)(o:OI B w q (gr [a,b,c])):
 Calls prog 21 #[.string (gJ [114,97,111]),q,s] w (oE (if rt a b c=0 then Lib.itoa (yL a b c)else iJ (rt a b c)) w):=by
 refine oE.in λE G HA HG=> ?_;obtain⟨g,F,rfl,f⟩:=o.nums (n:=3) rfl Oc;have bH:w.cell? ⟨g,0,none⟩=some (.int .i64 a):=f.out w (f0 _ _) 0 Oc;have k1:w.cell? ⟨g,1,none⟩=some (.int .i64 b):=f.out w (f0 _ _) 1 Oc;have bM:w.cell? ⟨g,2,none⟩=some (.int .i64 c):=f.out w (f0 _ _) 2 Oc;clear o f;by_cases d:sb a b c
 ·have hE:rt a b c=1:=gl d;have HZ:=gb (λn=>HG.out [] 1 (w.drewN n) (gM (f0 _ _) n) Oc U5);unfold sb at d;clear hE HA HG;have j:(a<1)\/(¬a<1/\30<a)\/(¬a<1/\¬30<a/\b<2)\/(¬a<1/\¬30<a/\¬b<2/\64<b)\/(¬a<1/\¬30<a/\¬b<2/\¬64<b/\a<c):=Oa;clear d;have t:((gJ [114,97,111]).toList==[103,97,117,115,115])=false:=Ol;have v:((gJ [114,97,111]).toList==[98,101,110,116])=false:=Ol;have z:((gJ [114,97,111]).toList==[114,97,111])=true:=Ol;generalize gJ [114,97,111]=A at*;generalize hx:(a:Int)=x at*;generalize hy:(b:Int)=y at*;generalize hz:(c:Int)=al at*;rcases j with hc|hc|hc|hc|hc
  ·have e:decide (x<1)=true:=gy Oa;exact Ov
  ·have e:decide (x<1)=false:=gp Oa;have h:decide ((30:Int)<x)=true:=gy Oa;exact Ov
  ·have e:decide (x<1)=false:=gp Oa;have h:decide ((30:Int)<x)=false:=gp Oa;have k:decide (y<2)=true:=gy Oa;exact Ov
  ·have e:decide (x<1)=false:=gp Oa;have h:decide ((30:Int)<x)=false:=gp Oa;have k:decide (y<2)=false:=gp Oa;have p:decide ((64:Int)<y)=true:=gy Oa;exact Ov
  ·have e:decide (x<1)=false:=gp Oa;have h:decide ((30:Int)<x)=false:=gp Oa;have k:decide (y<2)=false:=gp Oa;have p:decide ((64:Int)<y)=false:=gp Oa;have r:decide (x<al)=true:=gy Oa;exact Ov
 ·have HK:=gb (λC=>ade a b c C (by grind [sb]) (by grind [sb]) (by grind [sb]) (by grind [sb]) (by grind [sb]));have j:¬a<1/\¬30<a/\¬b<2/\¬64<b/\¬a<c:=(by grind [sb]);have hT:=alN d;obtain⟨D,i⟩:∃D,dT (rT a b c)=D:=⟨_,rfl⟩;rw[i]at HK hT;have l:ja D:=by
   rw[<-i];have:=z8 (rT a b c)
   grind [ja]
  have HI:=gb l;clear d i l;generalize hx:(a:Int)=x at*;generalize hy:(b:Int)=y at*;generalize hz:(c:Int)=al at*;have e:decide (x<1)=false:=gp Oa;have h:decide ((30:Int)<x)=false:=gp Oa;have k:decide (y<2)=false:=gp Oa;have p:decide ((64:Int)<y)=false:=gp Oa;have r:decide (x<al)=false:=gp Oa;clear j hx hy hz;have t:((gJ [114,97,111]).toList==[103,97,117,115,115])=false:=Ol;have v:((gJ [114,97,111]).toList==[98,101,110,116])=false:=Ol;have z:((gJ [114,97,111]).toList==[114,97,111])=true:=Ol;generalize gJ [114,97,111]=A at*;exact KF
theorem ai2(l:gP)(a:Nat)(h:l.length<=256): -256<=xr l a/\xr l a<=256:=by
 have:=EZ l a l.length;have e:xr l a=Ag l a l.length:=rfl;exact Oa
theorem afT(l:gA)(Z N:Value)(B U:Nat)(w:World)(I:OL B U w N ([l].map gr))(h0:l.length<=10001):
 Calls prog 21 #[.string (gJ [98,101,110,116]),Z,N] w (oE (if me (gr l)=0 then nn (Y7 (gr l))else iJ (me (gr l))) w):=by
 obtain⟨A,p⟩:∃A,(if me (gr l)=0 then nn (Y7 (gr l))else iJ (me (gr l)))=A:=⟨_,rfl⟩;have q:=GI (gr l);have J:(gr l).length=l.length:=Uy;rw[p];have e:=gb p;clear p;have f:=oE.g A w;generalize oE A w=ad at*;obtain⟨S,af,rfl,D⟩:=I.lists (n:=1) rfl Oc;obtain⟨j,c⟩:=D.out 0 Oc;have c:∀d,gm w d->d.cell? ⟨S,0,none⟩=some j/\OI B d j (gr l):=c;obtain⟨c0,O⟩:=c w (f0 _ _);have k:=gb (Bl j (gr l) w (O.sl Oa) Oa);have n:=gb c;clear I D c O;by_cases a:me (gr l)=0
 ·obtain⟨⟨Y,X,K⟩,G⟩:=tP a;have r:(gr l).length<=256:=by
   rw[K];exact gt (gN Oc X) Oc
  have E:=gb (Bh j (gr l) w ((n.out w (f0 _ _)).2.sl Oa) r G)
  have C:=gb (λ(v:Value)(P:World)(o:OI w.heap.size P v (sy (gr l) (gr l).length))=>Lr v _ P (o.sl (by rw[Ah];omega)) (λai M=>by
   unfold sy at M;obtain⟨i,_,rfl⟩:=gK.1 M
   exact ai2 _ _ r))
  have F:=gd (∀z:Bool,(z=true↔∀i,i<(sy (gr l) (gr l).length).length->(sy (gr l) (gr l).length).getD i 0=(sy (gr l) (gr l).length).getD 0 0\/(sy (gr l) (gr l).length).getD i 0= -((sy (gr l) (gr l).length).getD 0 0))->Y7 (gr l)=z) (λz h=>by
   have hg:∀i,i<(gr l).length->(sy (gr l) (gr l).length).getD i 0=xr (gr l) i:=λi hi=>by
    grind [sy]
   have ah:0<(gr l).length:=(by grind);rw[lh,ae6 a,h,Ah]
   grind)
  rw[a]at k;have b:=gb (λT d V (o:A=T)=>f.out T 0 d V Oc o);have x:=gd (A=nn (Y7 (gr l))) (by rw[<-e.out,a];rfl);clear q J K G r a e f n;generalize sy (gr l) (gr l).length=ab at*;generalize Y7 (gr l)=bx at*;generalize gr l=ae at*;have q0:((gJ [98,101,110,116]).toList==[103,97,117,115,115])=false:=Ol;have q1:((gJ [98,101,110,116]).toList==[98,101,110,116])=true:=Ol;generalize gJ [98,101,110,116]=aa at*;go_enter func21,ntmps21;go_wp2_with fail;refine k.out.mono ?_;rintro g w2 ⟨rfl,rfl⟩;go_wp2_with fail;refine E.out.mono ?_;rintro g t ⟨⟨v,rfl,L⟩,H⟩;have Q:=gb H;have y:=gb (C.out v t L);clear L H C E;go_wp2_with fail;refine y.out.mono ?_;rintro g w4 ⟨W,s,rfl⟩;obtain⟨z,rfl,h⟩:=W;have bo:=gb (b.out (nn z) (t.drewN s) (gM Q.out s) (by rw[x.out,F.out z h]));have R:=gb (wQ z (t.drewN s));clear h F b x y;go_wp2_with fail;refine R.out.mono ?_;rintro g w5 ⟨rfl,rfl⟩;exact Ot
 ·have ag:(me (gr l) !=0)=true:=iT.2 a;have b:=gb (f.out [] (me (gr l)) w (f0 _ _) q (by rw[<-e.out,gh a,gh a]));clear q a e f n J;generalize me (gr l)=ac at*;have q0:((gJ [98,101,110,116]).toList==[103,97,117,115,115])=false:=Ol;have q1:((gJ [98,101,110,116]).toList==[98,101,110,116])=true:=Ol;generalize gJ [98,101,110,116]=aa at*;go_enter func21,ntmps21;go_wp2_with fail;refine k.out.mono ?_;rintro g w2 ⟨rfl,rfl⟩;go_wp2
  first|exact b.out|(go_ret2;exact b.out)
theorem Nm(m k:Nat)(nv lv:Value)(B:Nat)(w:World)(hn:OI B w nv (gr [m,k])):
 Calls prog 21 #[.string (gJ [99,97,115,99,97,100,101]),nv,lv] w (oE (if mn m k=0 then ji (mp (jr k m))++32::Lib.itoa (if mn m k=0 then((BF k (jr k m) (jr k m).length:Nat):Int)else 0)else iJ (mn m k)) w):=by
 obtain⟨A,C⟩:∃A,(if mn m k=0 then ji (mp (jr k m))++32::Lib.itoa (if mn m k=0 then((BF k (jr k m) (jr k m).length:Nat):Int)else 0)else iJ (mn m k))=A:=⟨_,rfl⟩;have D:=zX m k;rw[C];have p:=gb C;clear C;have r:=oE.g A w;generalize oE A w=ay at*;obtain⟨g,aa,rfl,x⟩:=hn.nums (n:=2) rfl Oc;have bZ:=gd (∀V,gm w V->V.cell? ⟨g,1,none⟩=some (.int .i64 k)) (λV J=>x.out V J 1 Oc);have bv:=gd (∀V,gm w V->V.cell? ⟨g,0,none⟩=some (.int .i64 m)) (λV J=>x.out V J 0 Oc);clear hn x;by_cases J:mn m k=0
 ·have f:1<=k/\k<=30/\m<=1000000000:=by
   grind [mn]
  have hl:=pW k m;have aq:(mp (jr k m)).length=(jr k m).length:=Ka;have ad:BQ (mp (jr k m)):=λaA hx=>by
   obtain⟨aB,hy,rfl⟩:=gK.1 hx;obtain⟨aw,hi,rfl⟩:=je hy;have:=(oK k m aw Oa Oa hi).2.2.2
   grind
  have au:=CW (k:=k) (m:=m) Oa Oa _ (fZ _);have an:(jr k m).length*30000000000<=30*30000000000:=iB _ Oa;have HF:=gb (λa (_:gm w a)=>V1 m k a f.1 f.2.1 f.2.2);have U:=gb (λ(v:Value)(B:Nat)(a:World)(h:OI B a v (mp (jr k m)))=>GC v m k a f.1 f.2.1 f.2.2 (h.sl Oa));have y:=gb (λ(v:Value)(B:Nat)(a:World)(h:OI B a v (mp (jr k m)))=>lW v _ a (h.sl Oa) ad Oa);have E:ja ((BF k (jr k m) (jr k m).length:Nat):Int):=(by grind [ja]);have t:=gb (λa=>oY (BF k (jr k m) (jr k m).length) E a);have av:(ji (mp (jr k m))).length<=1000:=by
   grind [ji,tu]
  have ap:=mf E;have q:=gd (A=ji (mp (jr k m))++32::Lib.itoa ((BF k (jr k m) (jr k m).length:Nat):Int)) (by rw[<-p.out,gl J,gl J]);have j:=gb (λZ V F (h:A=Z)=>r.out Z 0 V F Oc h);clear D J p r hl aq ad au an E f;generalize mp (jr k m)=X at*;generalize BF k (jr k m) (jr k m).length=sl at*;obtain⟨b,ab⟩:∃b,ji X=b:=⟨_,rfl⟩;rw[ab]at y av q;obtain⟨c,ac⟩:∃c,Lib.itoa ((sl:Nat):Int)=c:=⟨_,rfl⟩;rw[ac]at t ap q;have z1:=iw b;have z2:=iw c;have z3:=iw (b++[32]);rw[gz,jQ]at z3;have et:=gd (gJ b++(⟨#[32]⟩:ByteArray)=gJ (b++[32])) Uj;have db:=gd (gJ (b++[32])++gJ c=gJ (b++32::c)) Do;clear ab ac;generalize gJ b=s1 at*;generalize gJ c=s2 at*;generalize gJ (b++[32])=s3 at*;have q0:((gJ [99,97,115,99,97,100,101]).toList==[103,97,117,115,115])=false:=Ol;have q1:((gJ [99,97,115,99,97,100,101]).toList==[98,101,110,116])=false:=Ol;have q2:((gJ [99,97,115,99,97,100,101]).toList==[114,97,111])=false:=Ol;have q3:((gJ [99,97,115,99,97,100,101]).toList==[99,105,114,99,108,101])=false:=Ol;have q4:((gJ [99,97,115,99,97,100,101]).toList==[99,111,117,108,100])=false:=Ol;have q5:((gJ [99,97,115,99,97,100,101]).toList==[98,114,117,105,106,110])=false:=Ol;generalize gJ [99,97,115,99,97,100,101]=ax at*;go_enter func21,ntmps21;go_wp2_with fail;refine ky [188,189,190,191,192,193,194,187,195,196,25,26] [λv _=>v= .slice (some ⟨g,0,none⟩) 2 aa,λv _=>v= .pointer (some ⟨g,0,none⟩),λv _=>v= .int .i64 (m:Int),λv _=>v= .slice (some ⟨g,0,none⟩) 2 aa,λv _=>v= .pointer (some ⟨g,1,none⟩),λv _=>v= .int .i64 (k:Int),λv V=>∃ag,v= .tuple #[ag,.int .i64 0]/\OI w.heap.size V ag X,λv V=>∃ag,v= .tuple #[ag,.int .i64 0]/\OI w.heap.size V ag X,λv V=>OI w.heap.size V v X,λv _=>v= .int .i64 0,λv V=>OI w.heap.size V v X,λv _=>v= .int .i64 0] (λV=>gm w V) (λa aj=>gm a aj) (100,0) Ob Ob rfl ⟨g5 _,g5 _,g5 _,g5 _,g5 _,g5 _,λv a aj h _ _ J=>h.elim λag h=>⟨ag,h.1,h.2.below J⟩,λv a aj h _ _ J=>h.elim λag h=>⟨ag,h.1,h.2.below J⟩,λv a aj h _ _ J=>OI.below h J,g5 _,λv a aj h _ _ J=>OI.below h J,g5 _,trivial⟩ ((f0 _ _).drew) ⟨?_,?_,?_,?_,?_,?_,?_,?_,?_,?_,?_,?_,trivial⟩ ?_
  ·exact KG
  ·exact Rv
  ·exact Rt
  ·exact KG
  ·exact Rw
  ·exact Ru
  ·intro O V K J hf hd hK;have al:O.eval (.tmp 190)= .int .i64 (m:Int):=hd 2 Oc Ob rfl;have am:O.eval (.tmp 193)= .int .i64 (k:Int):=hd 5 Oc Ob rfl;refine nf _ _ _ #[.int .i64 (m:Int),.int .i64 (k:Int)] rfl (by grind) _ func90 Ob Ob ?_;exact Po
  ·exact KS
  ·intro O V K J hf hd hK;have h3:=hd 7 Oc Ob rfl;obtain⟨ag,h3,hu⟩:=h3;have h4:O.tmps[187]?.getD undef= .tuple #[ag,.int .i64 0]:=iW h3;exact Qf
  ·intro O V K J hf hd hK;have h3:=hd 7 Oc Ob rfl;obtain⟨ag,h3,hu⟩:=h3;have h4:O.tmps[187]?.getD undef= .tuple #[ag,.int .i64 0]:=iW h3;exact Rx
  ·exact Q4
  ·exact Q7
  rintro ah aj ⟨G,H,I,L,M,N,P,Q,o,R,i,d,_⟩ l S;clear S G H I L M N P Q o R;simp only[Nat.reduceAdd]at i d;simp only[j7,Act.put,gU,io,iC,Nat.reduceAdd];rw[d];generalize ah 10=v at*;have o:=i;clear i d;have d1:=bZ.out aj l;have W:=gb (U.out v _ aj o);have z:=gR o l;clear o l HF U;go_wp2_with fail;refine W.out.mono ?_;rintro e s ⟨rfl,af,T⟩;have Y:=gb (y.out v _ s (show OI _ s v X by rw[T];exact z.out.1.drewN af));have ai:=gb (show gm w s by rw[T];exact gM z.out.2 af);have ak:=gb (t.out s);clear T z W y t;go_wp2_with fail;refine Y.out.mono ?_;rintro e w4 ⟨rfl,rfl⟩;have bo:=gb (j.out (b++32::c) w4 ai.out q.out);clear j q Y;go_wp2_with fail;refine ak.out.mono ?_;rintro e w5 ⟨rfl,rfl⟩;exact P7
 ·have az:(mn m k !=0)=true:=iT.2 J
  have HF:=gd (∀a,gm w a->Calls prog 90 #[.int .i64 m,.int .i64 k] a λe V=>e= .returned (.tuple #[.slice none 0 0,.int .i64 (mn m k)])/\gm a V) (λa _=>by
   by_cases a1:k<1\/30<k
   ·rw[show mn m k=1 from gl a1];exact JU m k a Oa
   ·by_cases a2:1000000000<m
    ·rw[show mn m k=3 by unfold mn;omega];exact Gu m k a Oa Oa
    ·exact absurd (by unfold mn;omega) J)
  have j:=gb (λV F=>r.out [] (mn m k) V F D (by rw[<-p.out,gh J,gh J]));clear D J p r;generalize mn m k=ae at*;have q0:((gJ [99,97,115,99,97,100,101]).toList==[103,97,117,115,115])=false:=Ol;have q1:((gJ [99,97,115,99,97,100,101]).toList==[98,101,110,116])=false:=Ol;have q2:((gJ [99,97,115,99,97,100,101]).toList==[114,97,111])=false:=Ol;have q3:((gJ [99,97,115,99,97,100,101]).toList==[99,105,114,99,108,101])=false:=Ol;have q4:((gJ [99,97,115,99,97,100,101]).toList==[99,111,117,108,100])=false:=Ol;have q5:((gJ [99,97,115,99,97,100,101]).toList==[98,114,117,105,106,110])=false:=Ol;generalize gJ [99,97,115,99,97,100,101]=ax at*;go_enter func21,ntmps21;go_wp2_with fail;refine ky [188,189,190,191,192,193,194,187,195,196,25,26] [λv _=>v= .slice (some ⟨g,0,none⟩) 2 aa,λv _=>v= .pointer (some ⟨g,0,none⟩),λv _=>v= .int .i64 (m:Int),λv _=>v= .slice (some ⟨g,0,none⟩) 2 aa,λv _=>v= .pointer (some ⟨g,1,none⟩),λv _=>v= .int .i64 (k:Int),λv V=>v= .tuple #[.slice none 0 0,.int .i64 ae],λv V=>v= .tuple #[.slice none 0 0,.int .i64 ae],λv _=>v= .slice none 0 0,λv _=>v= .int .i64 ae,λv _=>v= .slice none 0 0,λv _=>v= .int .i64 ae] (λV=>gm w V) (λa aj=>gm a aj) (100,0) Ob Ob rfl ⟨g5 _,g5 _,g5 _,g5 _,g5 _,g5 _,g5 _,g5 _,g5 _,g5 _,g5 _,g5 _,trivial⟩ ((f0 _ _).drew) ⟨?_,?_,?_,?_,?_,?_,?_,?_,?_,?_,?_,?_,trivial⟩ ?_
  ·exact KG
  ·exact Rv
  ·exact Rt
  ·exact KG
  ·exact Rw
  ·exact Ru
  ·intro O V K J hf hd hK;have al:O.eval (.tmp 190)= .int .i64 (m:Int):=hd 2 Oc Ob rfl;have am:O.eval (.tmp 193)= .int .i64 (k:Int):=hd 5 Oc Ob rfl;refine nf _ _ _ #[.int .i64 (m:Int),.int .i64 (k:Int)] rfl (by grind) _ func90 Ob Ob ?_;refine(HF.out V J).mono ?_;exact KL
  ·exact KS
  ·exact Q6
  ·exact Q6
  ·exact Q4
  ·exact Q7
  rintro ah aj ⟨G,H,I,L,M,N,P,Q,ao,R,i,d,_⟩ l S;clear S G H I L M N P Q ao R;simp only[Nat.reduceAdd]at i d;simp only[j7,Act.put,gU,io,iC,Nat.reduceAdd];rw[i,d];clear i d;have bo:=gb (j.out aj l);clear j;exact Ot
def Gy(f:Nat)(e:Bool)(T:iF)(g:j9)(c:mw):Prop:=∀(B U:Nat)(w:World)(b a d:Value),OI B w b (gr c.1)->OL B U w a (c.2.1.map gr)->OL B U w d (c.2.2.map gr)->Calls prog f (cond e #[.string (gJ T),b,a,d] #[.string (gJ T),b,a]) w (oE (pi.A T g) w)
theorem abu{a:Type}{c:Prop}[Decidable c](x y z:a):(if c then(if c then x else y)else z)=if c then x else z:=by
 grind
def Ln(f:Nat)(d:Bool)(T b:iF)(a:j9):Prop:=
 (qi (b.zip a) ([],[],[])=none->pi.A T a=badT)/\∀c,qi (b.zip a) ([],[],[])=some c->Gy f d T a c
theorem ab3(aE t1:iF)(j:aE.length<=10000)(k:t1.length<=10000):Ln 19 true [102,105,101,108,100] [110,110] [aE,t1]:=by
 have c:=nr.A_field pi [aE,t1];unfold oh at c;simp only[iq,jm]at c;have d:qi (([110,110]:iF).zip [aE,t1]) ([],[],[])=(gX aE).bind λa=>(gX t1).bind λb=>some ((([a,b],[],[]):mw)):=MH;unfold Ln;rw[d];rcases e0:gX aE with _|a
 ·grind
 rcases e1:gX t1 with _|b
 ·grind
 refine⟨λh=>Sb,λo h=> ?_⟩;cases h;intro B U w g f i e l n;rw[c,e0,e1];exact acb a b g f i B w e (jJ e0) (jJ e1)
theorem ab9(a b c d:iF)(v:a.length<=10000)(x:b.length<=10000)(y:c.length<=10000)(z:d.length<=10000):Ln 19 true [116,105,109,101,115] [110,110,110,110] [a,b,c,d]:=by
 have o:=nr.A_times pi [a,b,c,d];unfold mX at o;simp only[iq,jm]at o;have p:qi (([110,110,110,110]:iF).zip [a,b,c,d]) ([],[],[])=(gX a).bind λj=>(gX b).bind λk=>(gX c).bind λl=>(gX d).bind λn=>some ((([j,k,l,n],[],[]):mw)):=by
  cases e:gX a<;>cases f:gX b<;>cases g:gX c<;>cases i:gX d<;>(simp[qi,Zf,e,f,g,i];try rfl)
 unfold Ln;rw[p];rcases e:gX a with _|j
 ·exact OK
 rcases f:gX b with _|k
 ·exact OK
 rcases g:gX c with _|l
 ·grind
 rcases i:gX d with _|n
 ·grind
 refine⟨λh=>Sb,λD h=> ?_⟩;cases h;intro B U w s r t q A C;rw[o,e,f,g,i];exact ace j k l n s r t B w q (jJ e) (jJ f) (jJ g) (jJ i)
theorem ajv(a b c d:iF)(v:a.length<=10000)(x:b.length<=10000)(y:c.length<=10000)(z:d.length<=10000):Ln 19 true [114,111,119] [110,108,108,110] [a,b,c,d]:=by
 have n:=nr.A_row pi [a,b,c,d];unfold s9 at n;simp only[iq,jm]at n;have o:qi (([110,108,108,110]:iF).zip [a,b,c,d]) ([],[],[])=(gX a).bind λf=>(jq b).bind λg=>(jq c).bind λi=>(gX d).bind λj=>some ((([f,j],[g,i],[]):mw)):=by
  cases k:gX a<;>cases e1:jq b<;>cases e:jq c<;>cases l:gX d<;>(simp[qi,Zf,k,e1,e,l];try rfl)
 unfold Ln;rw[o];rcases k:gX a with _|f
 ·grind
 rcases e1:jq b with _|g
 ·grind
 rcases e:jq c with _|i
 ·grind
 rcases l:gX d with _|j
 ·grind
 refine⟨λh=>Sb,λC h=> ?_⟩;cases h;intro B U w s r t q p A;rw[n,k,e1,e,l];exact ajw f j g i s r t B U w q p Du (by have:=mK e;omega)
theorem ab5(aE t1:iF)(k:aE.length<=10000)(l:t1.length<=10000):Ln 19 true [108,101,97,115,116] [110,108] [aE,t1]:=by
 have c:=nr.A_least pi [aE,t1];unfold sY at c;simp only[iq,jm]at c;have d:qi (([110,108]:iF).zip [aE,t1]) ([],[],[])=(gX aE).bind λa=>(jq t1).bind λb=>some ((([a],[b],[]):mw)):=UZ;unfold Ln;rw[d];rcases e0:gX aE with _|a
 ·grind
 rcases e1:jq t1 with _|b
 ·grind
 refine⟨λh=>Sb,λo h=> ?_⟩;cases h;intro B U w i g j f e n;rw[c,e0,e1];exact acc a b i g j B U w f e Du
theorem Xr(aE:iF)(i:aE.length<=10000):Ln 19 true [99,121,99,108,101,115] [108] [aE]:=by
 have b:=nr.A_cycles pi [aE];unfold pS at b;simp only[iq]at b;have c:qi (([108]:iF).zip [aE]) ([],[],[])=(jq aE).bind λa=>some ((([],[a],[]):mw)):=Ur;unfold Ln;rw[c];rcases e0:jq aE with _|a
 ·grind
 refine⟨λh=>Sb,λl h=> ?_⟩;cases h;intro B U w f e g j d k;rw[b,e0];exact Xu a f e g B U w d Dt
theorem ab7(aE t1:iF)(l:aE.length<=10000)(d:t1.length<=10000):Ln 19 true [111,114,100,101,114] [110,114] [aE,t1]:=by
 have c:=nr.A_order pi [aE,t1];unfold sZ at c;simp only[iq,jm]at c;have e:qi (([110,114]:iF).zip [aE,t1]) ([],[],[])=(gX aE).bind λa=>(jK t1).bind λb=>some ((([a],[],b):mw)):=U0;unfold Ln;rw[e];rcases e0:gX aE with _|a
 ·grind
 rcases e1:jK t1 with _|b
 ·grind
 refine⟨λh=>Sb,λo h=> ?_⟩;cases h;intro B U w j i k f n g;rw[c,e0,e1];exact acd a b j i k B w f (RT.own g d e1).1 (by have:=(xV e1).1;omega)
theorem ab1(aE t1:iF)(j:aE.length<=10000)(k:t1.length<=10000):Ln 19 true [98,101,97,100,115] [110,110] [aE,t1]:=by
 have c:=nr.A_beads pi [aE,t1];unfold sV at c;simp only[iq,jm]at c;have d:qi (([110,110]:iF).zip [aE,t1]) ([],[],[])=(gX aE).bind λa=>(gX t1).bind λb=>some ((([a,b],[],[]):mw)):=MH;unfold Ln;rw[d];rcases e0:gX aE with _|a
 ·grind
 rcases e1:gX t1 with _|b
 ·grind
 refine⟨λh=>Sb,λo h=> ?_⟩;cases h;intro B U w g f i e l n;rw[c,e0,e1];exact aca a b g f i B w e (jJ e0) (jJ e1)
theorem Xt(aE t1:iF)(l:aE.length<=10000)(d:t1.length<=10000):Ln 20 true [101,120,116,101,110,100] [110,114] [aE,t1]:=by
 have c:=nr.A_extend pi [aE,t1];unfold oe at c;simp only[iq,jm]at c;have e:qi (([110,114]:iF).zip [aE,t1]) ([],[],[])=(gX aE).bind λa=>(jK t1).bind λb=>some ((([a],[],b):mw)):=U0;unfold Ln;rw[e];rcases e0:gX aE with _|a
 ·grind
 rcases e1:jK t1 with _|b
 ·grind
 refine⟨λh=>Sb,λo h=> ?_⟩;cases h;intro B U w j i k f n g;rw[c,e0,e1];exact Xz a b j i k B w f (RT.own g d e1).1
theorem ab6(a b c:iF)(t:a.length<=10000)(l:b.length<=10000)(v:c.length<=10000):Ln 20 true [108,101,118,101,108] [110,114,110] [a,b,c]:=by
 have k:=nr.A_level pi [a,b,c];unfold nz at k;simp only[iq,jm]at k;have n:qi (([110,114,110]:iF).zip [a,b,c]) ([],[],[])=(gX a).bind λe=>(jK b).bind λf=>(gX c).bind λg=>some ((([e,g],[],f):mw)):=by
  cases i:gX a<;>cases d:jK b<;>cases j:gX c<;>(simp[qi,Zf,i,d,j];try rfl)
 unfold Ln;rw[n];rcases i:gX a with _|e
 ·grind
 rcases d:jK b with _|f
 ·grind
 rcases j:gX c with _|g
 ·grind
 refine⟨λh=>Sb,λy h=> ?_⟩;cases h;intro B U w r q s o x p;rw[k,i,d,j];exact acy e g f r q s B w o (RT.own p l d).1
theorem NA(aE:iF)(i:aE.length<=10000):Ln 20 true [116,114,105,112,108,101,115] [110] [aE]:=by
 have b:=nr.A_triples pi [aE];unfold pU at b;simp only[iq]at b;have c:qi (([110]:iF).zip [aE]) ([],[],[])=(gX aE).bind λa=>some ((([a],[],[]):mw)):=Uw;unfold Ln;rw[c];rcases e0:gX aE with _|a
 ·grind
 refine⟨λh=>Sb,λl h=> ?_⟩;cases h;intro B U w f e g d j k;rw[b,e0];exact NO a f e g B w d
theorem Xs(aE t1:iF)(k:aE.length<=10000)(l:t1.length<=10000):Ln 20 true [100,105,102,102,101,114] [110,108] [aE,t1]:=by
 have c:=nr.A_differ pi [aE,t1];unfold od at c;simp only[iq,jm]at c;have d:qi (([110,108]:iF).zip [aE,t1]) ([],[],[])=(gX aE).bind λa=>(jq t1).bind λb=>some ((([a],[b],[]):mw)):=UZ;unfold Ln;rw[d];rcases e0:gX aE with _|a
 ·grind
 rcases e1:jq t1 with _|b
 ·grind
 refine⟨λh=>Sb,λo h=> ?_⟩;cases h;intro B U w i g j f e n;rw[c,e0,e1];exact Xy a b i g j B U w f e Du
theorem ab8(aE:iF)(i:aE.length<=10000):Ln 20 true [114,117,108,101,114] [110] [aE]:=by
 have b:=nr.A_ruler pi [aE];unfold pT at b;simp only[iq]at b;have c:qi (([110]:iF).zip [aE]) ([],[],[])=(gX aE).bind λa=>some ((([a],[],[]):mw)):=Uw;unfold Ln;rw[c];rcases e0:gX aE with _|a
 ·grind
 refine⟨λh=>Sb,λl h=> ?_⟩;cases h;intro B U w f e g d j k;rw[b,e0];exact acz a f e g B w d
theorem ab4(aE t1 aW:iF)(j:aE.length<=10000)(k:t1.length<=10000)(l:aW.length<=10000):Ln 21 false [103,97,117,115,115] [110,110,110] [aE,t1,aW]:=by
 have d:=nr.A_gauss pi [aE,t1,aW];unfold sX at d;simp only[iq,jm]at d;have e:qi (([110,110,110]:iF).zip [aE,t1,aW]) ([],[],[])=(gX aE).bind λa=>(gX t1).bind λb=>(gX aW).bind λc=>some ((([a,b,c],[],[]):mw)):=Uz;unfold Ln;rw[e];rcases e0:gX aE with _|a
 ·grind
 rcases e1:gX t1 with _|b
 ·grind
 rcases e2:gX aW with _|c
 ·grind
 refine⟨λh=>Sb,λq h=> ?_⟩;cases h;intro B U w i g p f n o;rw[d,e0,e1,e2];exact abt a b c i g B w f
theorem af5(aE:iF)(g:aE.length<=10000):Ln 21 false [98,101,110,116] [108] [aE]:=by
 have b:=nr.A_bent pi [aE];unfold pP at b;simp only[iq]at b;have c:qi (([108]:iF).zip [aE]) ([],[],[])=(jq aE).bind λa=>some ((([],[a],[]):mw)):=Ur;unfold Ln;rw[c];rcases e0:jq aE with _|a
 ·grind
 refine⟨λh=>Sb,λl h=> ?_⟩;cases h;intro B U w f e k i d j;rw[b,e0];exact afT a f e B U w d Dt
theorem aju(aE t1 aW:iF)(j:aE.length<=10000)(k:t1.length<=10000)(l:aW.length<=10000):Ln 21 false [114,97,111] [110,110,110] [aE,t1,aW]:=by
 have d:=nr.A_rao pi [aE,t1,aW];unfold s8 at d;simp only[iq,jm]at d;have e:qi (([110,110,110]:iF).zip [aE,t1,aW]) ([],[],[])=(gX aE).bind λa=>(gX t1).bind λb=>(gX aW).bind λc=>some ((([a,b,c],[],[]):mw)):=Uz;unfold Ln;rw[e];rcases e0:gX aE with _|a
 ·grind
 rcases e1:gX t1 with _|b
 ·grind
 rcases e2:gX aW with _|c
 ·grind
 refine⟨λh=>Sb,λq h=> ?_⟩;cases h;intro B U w i g p f n o;rw[d,e0,e1,e2];exact ajl a b c i g B w f
theorem Xq(aE:iF)(g:aE.length<=10000):Ln 21 false [99,105,114,99,108,101] [110] [aE]:=by
 have b:=nr.A_circle pi [aE];unfold pQ at b;simp only[iq]at b;have c:qi (([110]:iF).zip [aE]) ([],[],[])=(gX aE).bind λa=>some ((([a],[],[]):mw)):=Uw;unfold Ln;rw[c];rcases e0:gX aE with _|a
 ·grind
 refine⟨λh=>Sb,λl h=> ?_⟩;cases h;intro B U w f e k d i j;rw[b,e0];exact W4 a f e B w d (jJ e0)
theorem ab2(aE:iF)(g:aE.length<=10000):Ln 21 false [99,111,117,108,100] [108] [aE]:=by
 have b:=nr.A_could pi [aE];unfold pR at b;simp only[iq]at b;have c:qi (([108]:iF).zip [aE]) ([],[],[])=(jq aE).bind λa=>some ((([],[a],[]):mw)):=Ur;unfold Ln;rw[c];rcases e0:jq aE with _|a
 ·grind
 refine⟨λh=>Sb,λl h=> ?_⟩;cases h;intro B U w f e k i d j;rw[b,e0];exact abs a f e B U w d Dt
theorem Xp(aE t1:iF)(i:aE.length<=10000)(j:t1.length<=10000):Ln 21 false [98,114,117,105,106,110] [110,110] [aE,t1]:=by
 have c:=nr.A_bruijn pi [aE,t1];unfold sW at c;simp only[iq,jm]at c;have d:qi (([110,110]:iF).zip [aE,t1]) ([],[],[])=(gX aE).bind λa=>(gX t1).bind λb=>some ((([a,b],[],[]):mw)):=MH;unfold Ln;rw[d];rcases e0:gX aE with _|a
 ·grind
 rcases e1:gX t1 with _|b
 ·grind
 refine⟨λh=>Sb,λo h=> ?_⟩;cases h;intro B U w g f n e k l;rw[c,e0,e1];exact W3 a b g f B w e
theorem Nz(aE t1:iF)(i:aE.length<=10000)(j:t1.length<=10000):Ln 21 false [99,97,115,99,97,100,101] [110,110] [aE,t1]:=by
 have c:=nr.A_cascade pi [aE,t1];unfold nY at c;simp only[iq,jm]at c;have d:qi (([110,110]:iF).zip [aE,t1]) ([],[],[])=(gX aE).bind λb=>(gX t1).bind λa=>some ((([b,a],[],[]):mw)):=MH;unfold Ln;rw[d];rcases e0:gX aE with _|b
 ·grind
 rcases e1:gX t1 with _|a
 ·grind
 refine⟨λh=>Sb,λo h=> ?_⟩;cases h;intro B U w g f n e k l;rw[c,e0,e1];show Calls _ _ _ _ (oE (if mn b a=0 then(if mn b a=0 then ji (mp (jr a b))++32::Lib.itoa (if mn b a=0 then((BF a (jr a b) (jr a b).length:Nat):Int)else 0)else iJ (mn b a))else iJ (mn b a)) w);rw[abu];exact Nm b a g f B w e
noncomputable def pV(T:iF)(a:j9):iF:=
 match oX T with
 |some (k,_)=>if a.length=k then pi.A T a else badT
 |none=>badT
theorem ail{s T:iF}{a:j9}(h:pj 32 s=T::a):oV pi.A s=pV T a:=by
 unfold oV pV
 grind
def loF(T:iF):Bool:=((((((decide ([102,105,101,108,100]=T)||decide ([116,105,109,101,115]=T))||decide ([114,111,119]=T))||decide ([108,101,97,115,116]=T))||decide ([99,121,99,108,101,115]=T))||decide ([111,114,100,101,114]=T))||decide ([98,101,97,100,115]=T))
def miF(T:iF):Bool:=((((decide ([101,120,116,101,110,100]=T)||decide ([108,101,118,101,108]=T))||decide ([116,114,105,112,108,101,115]=T))||decide ([100,105,102,102,101,114]=T))||decide ([114,117,108,101,114]=T))
theorem oq{f k F:Nat}{d:Bool}{T b:iF}(q:rj T=some b)(p:b.length=k)(o:oX T=some (k,F))(H:∀a:j9,a.length=k->(∀t∈a,t.length<=10000)->Ln f d T b a)(a:j9)(e:∀t∈a,t.length<=10000):
 (lE T a=none/\pV T a=badT)\/∃c,lE T a=some c/\pV T a=pi.A T a/\Gy f d T a c:=by
 by_cases h:a.length=k
 ·have i:lE T a=qi (b.zip a) ([],[],[]):=by
   unfold lE
   grind
  have j:pV T a=pi.A T a:=by
   unfold pV
   grind
  obtain⟨l,n⟩:=H a h e;cases g:qi (b.zip a) ([],[],[])with
  |none=>grind
  |some c=>grind
 ·refine .inl ⟨?_,?_⟩
  ·unfold lE
   grind
  ·unfold pV
   grind
theorem acH:∀c∈zZ++yg,c.1∈AX.map (·.1):=Oc
theorem aar{T:iF}(h:rj T=none):oX T=none:=by
 unfold rj at h;unfold oX;rw[Option.map_eq_none_iff,sJ]at h⊢;intro c b a
 grind [acH]
def LkR(T:iF)(b:j9)(a:mw):Prop:=(loF T=true/\Gy 19 true T b a)\/(loF T=false/\miF T=true/\Gy 20 true T b a)\/(loF T=false/\miF T=false/\Gy 21 false T b a)
theorem AE{T:iF}{a:j9}(h:loF T=true)(H:(lE T a=none/\pV T a=badT)\/∃b,lE T a=some b/\pV T a=pi.A T a/\Gy 19 true T a b):(lE T a=none/\pV T a=badT)\/∃b,lE T a=some b/\pV T a=pi.A T a/\LkR T a b:=
 H.imp id λ⟨b,c,d,e⟩=>⟨b,c,d,.inl ⟨h,e⟩⟩
theorem Iv{T:iF}{a:j9}(h:loF T=false)(c:miF T=true)(H:(lE T a=none/\pV T a=badT)\/∃b,lE T a=some b/\pV T a=pi.A T a/\Gy 20 true T a b):(lE T a=none/\pV T a=badT)\/∃b,lE T a=some b/\pV T a=pi.A T a/\LkR T a b:=
 H.imp id λ⟨b,d,e,f⟩=>⟨b,d,e,.inr (.inl ⟨h,c,f⟩)⟩
theorem AD{T:iF}{a:j9}(h:loF T=false)(c:miF T=false)(H:(lE T a=none/\pV T a=badT)\/∃b,lE T a=some b/\pV T a=pi.A T a/\Gy 21 false T a b):(lE T a=none/\pV T a=badT)\/∃b,lE T a=some b/\pV T a=pi.A T a/\LkR T a b:=
 H.imp id λ⟨b,d,e,f⟩=>⟨b,d,e,.inr (.inr ⟨h,c,f⟩)⟩
theorem Xk{a:j9}(h:a.length=1):∃b,a=[b]:=by
 match a,h with
 |[b],_=>grind
theorem Ij{a:j9}(h:a.length=2):∃b c,a=[b,c]:=by
 match a,h with
 |[b,c],_=>grind
theorem ajt{a:j9}(h:a.length=3):∃b c d,a=[b,c,d]:=by
 match a,h with
 |[b,c,d],_=>grind
theorem alf{a:j9}(h:a.length=4):∃b c d e,a=[b,c,d,e]:=by
 match a,h with
 |[b,c,d,e],_=>grind
theorem XT(T:iF)(a:j9)(b:∀t∈a,t.length<=10000):(lE T a=none/\pV T a=badT)\/∃l,lE T a=some l/\pV T a=pi.A T a/\LkR T a l:=by
 cases j:rj T with
 |none=>
  grind [lE,pV,aar]
 |some q=>
  obtain⟨r,k,p⟩:=wZ.1 (show(AX.find? λg=>g.1==T).map (·.2)=some q from j);have i:=tO k;have o:r.1=T:=(by grind);subst o;clear j p k;unfold AX at i;simp only[m9,List.not_mem_nil,or_false]at i;rcases i with rfl|rfl|rfl|rfl|rfl|rfl|rfl|rfl|rfl|rfl|rfl|rfl|rfl|rfl|rfl|rfl|rfl|rfl|rfl
  ·refine AE rfl (oq rfl rfl rfl (λe h d=> ?_) a b);obtain⟨c,f,rfl⟩:=Ij h
   grind [ab3]
  ·refine AE rfl (oq rfl rfl rfl (λe h d=> ?_) a b);obtain⟨c,f,rfl⟩:=Ij h
   grind [ab1]
  ·refine AD rfl rfl (oq rfl rfl rfl (λe h d=> ?_) a b);obtain⟨c,f,rfl⟩:=Ij h
   grind [Xp]
  ·refine AD rfl rfl (oq rfl rfl rfl (λe h d=> ?_) a b);obtain⟨c,f,rfl⟩:=Ij h
   grind [Nz]
  ·refine AE rfl (oq rfl rfl rfl (λe h d=> ?_) a b);obtain⟨c,f,g,n,rfl⟩:=alf h
   grind [ab9]
  ·refine AE rfl (oq rfl rfl rfl (λe h d=> ?_) a b);obtain⟨c,f,g,n,rfl⟩:=alf h
   grind [ajv]
  ·refine AE rfl (oq rfl rfl rfl (λe h d=> ?_) a b);obtain⟨c,f,rfl⟩:=Ij h
   grind [ab5]
  ·refine Iv rfl rfl (oq rfl rfl rfl (λe h d=> ?_) a b);obtain⟨c,f,rfl⟩:=Ij h
   grind [Xs]
  ·refine AE rfl (oq rfl rfl rfl (λe h d=> ?_) a b);obtain⟨c,rfl⟩:=Xk h
   grind [Xr]
  ·refine AD rfl rfl (oq rfl rfl rfl (λe h d=> ?_) a b);obtain⟨c,rfl⟩:=Xk h
   grind [af5]
  ·refine AD rfl rfl (oq rfl rfl rfl (λe h d=> ?_) a b);obtain⟨c,rfl⟩:=Xk h
   grind [ab2]
  ·refine AE rfl (oq rfl rfl rfl (λe h d=> ?_) a b);obtain⟨c,f,rfl⟩:=Ij h
   grind [ab7]
  ·refine Iv rfl rfl (oq rfl rfl rfl (λe h d=> ?_) a b);obtain⟨c,f,rfl⟩:=Ij h
   grind [Xt]
  ·refine Iv rfl rfl (oq rfl rfl rfl (λe h d=> ?_) a b);obtain⟨c,f,g,rfl⟩:=ajt h
   grind [ab6]
  ·refine Iv rfl rfl (oq rfl rfl rfl (λe h d=> ?_) a b);obtain⟨c,rfl⟩:=Xk h
   grind [NA]
  ·refine Iv rfl rfl (oq rfl rfl rfl (λe h d=> ?_) a b);obtain⟨c,rfl⟩:=Xk h
   grind [ab8]
  ·refine AD rfl rfl (oq rfl rfl rfl (λe h d=> ?_) a b);obtain⟨c,rfl⟩:=Xk h
   grind [Xq]
  ·refine AD rfl rfl (oq rfl rfl rfl (λe h d=> ?_) a b);obtain⟨c,f,g,rfl⟩:=ajt h
   grind [ab4]
  ·refine AD rfl rfl (oq rfl rfl rfl (λe h d=> ?_) a b);obtain⟨c,f,g,rfl⟩:=ajt h
   grind [aju]
theorem Nx(s:iF)(w:World)(hs:s.length<=8000):
 Calls prog 11 #[.string (gJ s)] w λe k=>e= .returned (.string (gJ (oV pi.A s)))/\gm w k:=by
 have C:=gb (vn s 32 w Oa);have G:=um 32 s;have lM:∀t∈pj 32 s,t.length<=10000:=λt j=>gt (oO 32 s t j) Oa;have V:(pj 32 s).length<=10000:=gt (sf 32 s) Oa;cases z:pj 32 s with
 |nil=>rw[z]at G;simp at G
 |cons T b=>
  rw[ail z];rw[z]at C lM V;clear G z;have N:=gb (λ(K g p:Nat)(X:World)(d:Ow 9 K X (.slice (some ⟨g,0,none⟩) (b.length+1) p) (wN (T::b)))=>adi T b K g p X d (lM T On) (λt j=>lM t (by simp[j])) (by grind));have i:=gb (XT T b (λt j=>lM t (by simp[j])));clear lM V;obtain⟨A,R⟩:∃A,pV T b=A:=⟨_,rfl⟩;rw[R]at i⊢;clear R;go_enter func11,ntmps11;go_wp2_with fail;refine C.out.mono ?_;rintro e Y ⟨ai,rfl,d,y⟩;have L:=gb y;obtain⟨g,p,rfl,ac,ad⟩:=d.form Ki;rw[ot,iP]at d⊢;have P:=gd (∀k,gm Y k->k.cell? ⟨g,0,none⟩=some (.string (gJ T))) (λk y=>((d.below y).cell 0 Ki).trans (by grind [tH]));have O:=gb (N.out _ g p Y d);clear y d ac ad C N;go_wp2_with fail;refine O.out.mono ?_;rintro e f ⟨h,F⟩;have l:=gb (L.out.trans (F.mono L.out.size));have c0:=P.out f F;clear O P;rcases h with⟨st,J,I,W,H,rfl,q,r,v⟩|⟨H,rfl⟩
  ·obtain⟨D,x⟩:A=pi.A T b/\LkR T b st:=by
    rcases i.out with⟨e,_⟩|⟨ae,e,a,h5⟩
    ·grind
    grind
   subst D
   have B:=gd (loF T=true->Calls prog 19 #[.string (gJ T),J,I,W] f (oE (pi.A T b) f)) (λh=>by
    rcases x with⟨_,g⟩|⟨a,_⟩|⟨a,_⟩
    ·exact g _ _ _ _ _ _ q r v
    ·rw[h]at a;cases a
    ·rw[h]at a;cases a)
   have o:=gd (loF T=false->miF T=true->Calls prog 20 #[.string (gJ T),J,I,W] f (oE (pi.A T b) f)) (λh c=>by
    rcases x with⟨a,_⟩|⟨_,_,g⟩|⟨_,a,_⟩
    ·rw[h]at a;cases a
    ·exact g _ _ _ _ _ _ q r v
    ·rw[c]at a;cases a)
   have n:=gd (loF T=false->miF T=false->Calls prog 21 #[.string (gJ T),J,I] f (oE (pi.A T b) f)) (λh c=>by
    rcases x with⟨a,_⟩|⟨_,a,_⟩|⟨_,_,g⟩
    ·rw[h]at a;cases a
    ·rw[c]at a;cases a
    ·exact g _ _ _ _ _ _ q r v)
   clear i H x q r v F;unfold loF at B o n;unfold miF at o n;have q0:=nH T [102,105,101,108,100];have q1:=nH T [116,105,109,101,115];have q2:=nH T [114,111,119];have q3:=nH T [108,101,97,115,116];have q4:=nH T [99,121,99,108,101,115];have q5:=nH T [111,114,100,101,114];have q6:=nH T [98,101,97,100,115];have q7:=nH T [101,120,116,101,110,100];have q8:=nH T [108,101,118,101,108];have q9:=nH T [116,114,105,112,108,101,115];have ag:=nH T [100,105,102,102,101,114];have ah:=nH T [114,117,108,101,114];generalize decide ([102,105,101,108,100]=T)=b0 at*;generalize decide ([116,105,109,101,115]=T)=b1 at*;generalize decide ([114,111,119]=T)=b2 at*;generalize decide ([108,101,97,115,116]=T)=b3 at*;generalize decide ([99,121,99,108,101,115]=T)=b4 at*;generalize decide ([111,114,100,101,114]=T)=b5 at*;generalize decide ([98,101,97,100,115]=T)=b6 at*;generalize decide ([101,120,116,101,110,100]=T)=b7 at*;generalize decide ([108,101,118,101,108]=T)=b8 at*;generalize decide ([116,114,105,112,108,101,115]=T)=b9 at*;generalize decide ([100,105,102,102,101,114]=T)=aa at*;generalize decide ([114,117,108,101,114]=T)=ab at*;generalize gJ T=sT at*;cases b0
   case' false=>cases b1
   case' false=>cases b2
   case' false=>cases b3
   case' false=>cases b4
   case' false=>cases b5
   case' false=>cases b6
   case' false=>cases b7
   case' false=>cases b8
   case' false=>cases b9
   case' false=>cases aa
   case' false=>cases ab
   all_goals
    go_wp2_with fail
    first
     |refine(B.out rfl).mono ?_
     |refine(o.out rfl rfl).mono ?_
     |refine(n.out rfl rfl).mono ?_
    rintro e w4 ⟨⟨af,E,rfl,hE,S⟩,U⟩;have M:=gb (l.out.trans (U.mono l.out.size));have Q:=gb S;clear S U B o n l;by_cases c:E=0
    ·subst c;go_wp2;go_ret;exact⟨by rw[Q.out];rfl,M.out⟩
    ·have hz:(E !=0)=true:=iT.2 c;have Z:=gb (B8 E Oa w4);go_wp2_with fail;refine Z.out.mono ?_;rintro e w5 ⟨rfl,rfl⟩;go_wp2;go_ret;exact⟨by rw[Q.out,gh c];rfl,M.out⟩
  ·have D:A=badT:=by
    rcases i.out with⟨_,e⟩|⟨ae,e,_,_⟩
    ·exact e
    grind
   subst D;clear i H;go_wp2;go_ret;exact⟨rfl,l.out⟩
def iM(l:iF):Prop:=l.length<=100000000
theorem iM.opt{o:Option iF}(h:∀x,o=some x->iM x):iM (o.getD badT):=by
 cases o with
 |none=>unfold iM badT;decide
 |some x=>grind
theorem iM.err(E:Int):iM (iJ E):=by
 unfold iM iJ
 repeat' split
 all_goals decide
theorem iM.ite{E:Int}{x:iF}(h:E=0->iM x):iM (if E=0 then x else iJ E):=by
 by_cases e:E=0
 ·grind
 ·rw[gh e];exact iM.err E
theorem iM.ints{l:gP}(h:∀x∈l,ja x)(a:l.length<=10000):iM (ji l):=by
 have:=rA h a;unfold iM;exact Oa
theorem iM.int{n:Int}(h:ja n):iM (Lib.itoa n):=by
 have:=mf h;unfold iM;exact Oa
theorem iM.bool(b:Bool):iM (nn b):=by
 unfold iM nn
 grind
theorem T5{B:Nat}:∀{ws:j9},(∀x∈ws,x.length<=B)->Lib.lens ws<=ws.length*B
 |[],_=>by simp[Lib.lens]
 |x::ws,h=>by
  have b:=T5 (ws:=ws) λy a=>h y (kW _ a);have c:=h x sN;rw[iP,Gg];have:Lib.lens (x::ws)=x.length+Lib.lens ws:=(by simp[Lib.lens]);exact Oa
theorem iM.rows{ll:lO}(h:∀m∈ll,(∀x∈m,ja x)/\m.length<=1000)(g:ll.length<=1000):iM (kL ll):=by
 unfold kL iM;split
 ·exact Oc
 ·rename_i b;obtain⟨a,r,rfl⟩:=List.exists_cons_of_ne_nil b;rw[jG,Lib.join_length];have e:=T5 (B:=21000) (ws:=(a::r).map kb) λx c=>by
   obtain⟨y,d,rfl⟩:=gK.1 c;have f:=tX (h y d).1
   grind
  grind
theorem iM.two{a b:iF}{c:UInt8}(d:a.length<=1000000)(e:b.length<=1000000):iM (a++c::b):=by
 unfold iM
 grind
theorem Yn(c:j9):iM (s9 sF N7 c):=by
 refine iM.opt λx b=> ?_;simp only[g6,gH]at b;obtain⟨ad,d,af,e,aq,f,aX,g,rfl⟩:=b;refine iM.ite λh=> ?_;unfold sF at h;split at h
 ·exact Oa
 ·rename_i a;split at h
  ·exact Sb
  ·have a:m6 ad (gr af) (gr aq)=0:=(by omega);have ax:=wL a;refine iM.ints (λx cB=> ?_) (by grind [N7,kJ]);exact PG
theorem Yj(b:j9):iM (sY (λp l=>ku p (gr l)) yI xE b):=by
 refine iM.opt λx a=> ?_;simp only[g6,gH]at a;obtain⟨c,e,d,f,rfl⟩:=a
 grind [iM.ite,Ff,iM.two,qB,rA]
theorem Yi(b:j9):iM (sX qZ yD b):=by
 refine iM.opt λx a=> ?_;simp only[g6,gH]at a;obtain⟨c,f,d,g,e,h,rfl⟩:=a
 grind [iM.ite,iM.int,E8]
theorem Ym(b:j9):iM (s8 rt yL b):=by
 refine iM.opt λx a=> ?_;simp only[g6,gH]at a;obtain⟨c,f,d,g,e,h,rfl⟩:=a
 grind [iM.ite,iM.int,FG]
theorem Yl(b:j9):iM (sZ (λad af=>lF ad (af.map gr)) NT b):=by
 refine iM.opt λx hx=> ?_;simp only[g6,gH]at hx;obtain⟨ad,c,af,h1,rfl⟩:=hx;refine iM.ite λa=>iM.int ?_;have hx:NT ad af=((GL ad (qd ad (af.map gr))).length:Nat):=gl a;have d:=Nj a;exact UQ
theorem X7(e:j9):iM (sV (λa b=>kB a b) (λa b=>if kB a b=0 then mm a b else 0) e):=by
 refine iM.opt λx c=> ?_;simp only[g6,gH]at c;obtain⟨a,f,b,g,rfl⟩:=c;refine iM.ite λd=>iM.int ?_;rw[gl d]
 grind [kB,EG]
theorem X9(c:j9):iM (sW mH nM c):=by
 refine iM.opt λx a=> ?_;simp only[g6,gH]at a;obtain⟨k,d,n,e,rfl⟩:=a;refine iM.ite λh=> ?_;unfold mH at h;split at h
 ·exact Sb
 ·split at h
  ·exact Sb
  ·have f:=tV (k:=k) (n:=n) Oa;refine iM.ints (λx b=> ?_) Oa;have:=xz x b
   grind [ja]
theorem Yo(b:j9):iM (pT vp qO b):=by
 refine iM.opt λx a=> ?_;simp only[g6,gH]at a;obtain⟨c,d,rfl⟩:=a
 grind [iM.ite,iM.ints,FN]
theorem X8{E:gA->Int}{X:gA->Bool}(a:j9):iM (pP E X a):=SE
theorem Yc{E:gA->Int}{X:gA->Bool}(a:j9):iM (pR E X a):=SE
theorem Yb(c:j9):iM (pQ (λa=>if x1 a=true then 0 else 1) Ts c):=by
 refine iM.opt λx b=> ?_;simp only[g6,gH]at b;obtain⟨a,d,rfl⟩:=b;refine iM.ite λh=> ?_;have f:x1 a=true:=gx λe=>by
  grind
 grind [iM.rows,aao]
theorem Yq(b:j9):iM (pU oC qQ b):=by
 refine iM.opt λx a=> ?_;simp only[g6,gH]at a;obtain⟨c,d,rfl⟩:=a
 grind [iM.ite,iM.rows,VT]
theorem Ye(b:j9):iM (od qp sC kH Fu b):=by
 refine iM.opt λx a=> ?_;simp only[g6,gH]at a;obtain⟨c,e,d,f,rfl⟩:=a
 grind [iM.ite,iM.two,qB,Fh,rA,Fv]
theorem Yk(b:j9):iM (nz uD qb pu b):=by
 refine iM.opt λx a=> ?_;simp only[g6,gH]at a;obtain⟨c,f,d,g,e,i,rfl⟩:=a;refine iM.ite λh=> ?_;obtain⟨⟨j,k⟩,l,n⟩:=NE h
 grind [iM.two,qB,ja]
theorem Ya(e:j9):iM (nY mn (λm k=>mp (jr k m)) mn (λm k=>if mn m k=0 then((BF k (jr k m) (jr k m).length:Nat):Int)else 0) e):=by
 refine iM.opt λx b=> ?_;simp only[g6,gH]at b;obtain⟨m,f,k,g,rfl⟩:=b;refine iM.ite λh=>iM.ite λj=> ?_;rw[gl h];have o:(1<=k/\k<=30)/\m<=1000000000:=by
  grind [mn]
 have p:=pW k m;have q:(mp (jr k m)).length=(jr k m).length:=Ka;have l:=CW (k:=k) (m:=m) Oa Oa _ (fZ _);have n:(jr k m).length*30000000000<=30*30000000000:=iB _ Oa;refine iM.two (rA (λx c=> ?_) Oa) (qB (by grind [ja]));obtain⟨y,d,rfl⟩:=gK.1 c;obtain⟨i,a,rfl⟩:=je d;have:=(oK k m i Oa Oa a).2.2.2;rw[gc,gn a,iQ]at this;unfold ja;exact Oa
theorem Yg(c:j9):iM (oh kI mZ c):=by
 refine iM.opt λx a=> ?_;simp only[g6,gH]at a;obtain⟨P,i,K,j,rfl⟩:=a;refine iM.ite λh=> ?_;have b:¬jp P K=0:=λk=>by
  unfold kI at h;exact Oa
 obtain⟨e,d,f,g,_,o,p,_,n,_,_⟩:=lU b;have l:(nZ (jo P (p9 P K) K)).length=K:=by rw[nZ,gv,kg]
 refine iM.ints (λx cB=> ?_) (by grind [mZ]);exact Pz
theorem Yp(f:j9):iM (mX kI (λa b c d=>x2 a b (mZ a b) [(c:Int),(d:Int)]) (λa b c d=>AU a b (mZ a b) c d) f):=by
 refine iM.opt λx e=> ?_;simp only[g6,gH]at e;obtain⟨c,i,d,j,a,g,b,h,rfl⟩:=e
 grind [iM.ite,iM.int,acF]
theorem Yf(e:j9):iM (oe nh (λn d=>jj (tg n d)) e):=by
 refine iM.opt λx a=> ?_;simp only[g6,gH]at a;obtain⟨n,f,d,g,rfl⟩:=a;refine iM.ite λh=> ?_;obtain⟨i,j,k,l⟩:=xw h;refine iM.rows (λm b=> ?_) (by grind [Gq]);unfold Gq at b;obtain⟨q,o,rfl⟩:=gK.1 b;refine⟨λx a=> ?_,by grind⟩;have c:=nU (nV a);unfold jj at c;obtain⟨y,p,rfl⟩:=gK.1 c
 grind [ja]
theorem ahh{N:Nat}{f:Nat->Nat}(a:N<=12)(P:Pm N f):(YS f N).length<=2000:=by
 have h:=xH a P N (fZ _)
 grind [YS,aij]
theorem Yd(c:j9):iM (pS (λa=>jV (gr a)) (λa=>if jV (gr a)=0 then YS (fL (gr a)) (gr a).length else[]) c):=by
 refine iM.opt λx b=> ?_;simp only[g6,gH]at b;obtain⟨a,d,rfl⟩:=b;refine iM.ite λh=> ?_;rw[gl h];have P:=IQ h;have:=ahh P.n12 P.pm
 grind [iM]
theorem iM.cond{c:Prop}[Decidable c]{x y:iF}(a:iM x)(b:iM y):iM (if c then x else y):=by
 grind
theorem iM.badT:iM badT:=by
 unfold iM Go.Proofs.YtnnaadmegeeinaaGreatDoor.badT;exact Oc
theorem DJ:Lh pi.A:=λT a=>by
 have h:iM (pi.A T a):=iM.cond (Yg a) <|iM.cond (Yp a) <|iM.cond (Yn a) <|iM.cond (Yj a) <|iM.cond (Yd a) <|iM.cond (Yl a) <|iM.cond (X7 a) <|iM.cond (Yf a) <|iM.cond (Yk a) <|iM.cond (Yq a) <|iM.cond (Ye a) <|iM.cond (Yo a) <|iM.cond (Yi a) <|iM.cond (X8 a) <|iM.cond (Ym a) <|iM.cond (Yb a) <|iM.cond (Yc a) <|iM.cond (X9 a) <|iM.cond (Ya a) <|iM.badT
 grind [iM]
theorem aih(s:iF)(w:World)(a:jO w)(b:s.length<=140737488355328):
 Calls prog 5 #[.string (gJ s)] w λe c=>e= .returned (.string (gJ (FO pi.A s)))/\gm w c:=
 agT pi.A pi.cmds DJ s w a b
def rrL(A:iF->j9->iF)(t:iF):iF:=vq A t.length t
theorem agQ(A:iF->j9->iF){t:iF}{k:Nat}(g:k<t.length)(f:t.getD k 0=10)(b:(10:UInt8)∉t.take k):rrL A t=(oV A (t.take k)++[10])++rrL A (t.drop (k+1)):=by
 have d:t≠[]:=λe=>by grind
 have c:t=t.take k++10::t.drop (k+1):=by
  grind [List.take_append_drop,List.drop_eq_getElem_cons]
 have a:Lib.cut t [10]=(t.take k,t.drop (k+1),true):=(jA (λx=>Lib.cut x [10]) c).trans (aiV b);unfold rrL;rw[ry A (fZ _) d,a,Ee A _ (t.drop (k+1)) (t.length-1) (t.drop (k+1)).length (fZ _) (by grind) (fZ _)]
theorem aax{c:UInt8}{a:iF}(h:c∉a):Lib.cut a [c]=(a,[],false):=by
 unfold Lib.cut;rw[As h,gh Oc]
theorem agP(A:iF->j9->iF){t:iF}(c:t≠[])(b:(10:UInt8)∉t):rrL A t=oV A t++[10]:=by
 have a:(Lib.cut t [10]).1=t/\(Lib.cut t [10]).2.1=[]:=by
  have h:Lib.cut t [10]=(t,[],false):=aax b
  grind
 unfold rrL;rw[ry A (fZ _) c,a.1,a.2,Bc,jb]
def amu:Value->Nat
 | .string s=>s.size
 |_=>0
theorem acK{t:iF}{k:Nat}(b:k<t.length)(a:t.getD k 0≠10)(c:(10:UInt8)∉t.take k):(10:UInt8)∉t.take (k+1):=by
 grind [List.take_add_one]
theorem X3(T:iF)(w:World)(hT:T.length<=140737488355328):
 Calls prog 6 #[.string (gJ T)] w λG w'=>G= .returned (.string (gJ (FO pi.A T)))/\gm w w':=by
 have L:=iw T;by_cases K:8000<T.length
 ·have i:=gd (FO pi.A T=[116,111,111,32,108,111,110,103,10]) (gl K);have n:(8000:Int)<T.length:=Oa;rw[i.out];clear i;generalize gJ T=al at*;go_enter func6,ntmps6;go_wp2;go_ret;exact Mq
 have S:=gb (λ(s:iF)(o:World)(hs:s.length<=8000)=>Nx s o hs);have U:=gb (λs=>GE DJ s);have ae:=gb (λ(t:iF)(k:Nat) Y r e=>agQ pi.A (t:=t) (k:=k) Y r e);have ad:=gb (λ(t:iF) M e=>agP pi.A (t:=t) M e);have af:=gd (rrL pi.A []=[]) rfl;obtain⟨R,J⟩:∃R,FO pi.A T=R:=⟨_,rfl⟩;have i:=gd (rrL pi.A T=R) (by rw[<-J];exact(gh K).symm);rw[J];clear J;generalize pi.A=A at*;have n:¬(8000:Int)<T.length:=Oa;have W:T.length<=8000:=Oa;clear hT K;go_enter func6,ntmps6;go_wp2_with fail;go_loopw [0,3,4,5] (λP ov _ _ wr=>∃(t O:iF),P= .string (gJ t)/\ov= .string (gJ O)/\t.length<=8000/\O.length+t.length*1000000001<=8000*1000000001/\Hid (O++rrL A t=R)/\gm w wr) (λP _ _ _ _=>amu P)
 case atStart=>exact⟨T,[],rfl,rfl,W,by simp;omega,gb (by rw[ko];exact i.out),f0 _ _⟩
 case round=>
  obtain⟨t,O,rfl,rfl,M,X,c,r⟩:=hrel;have f:=gb r;clear r L n W i;have L:=iw t;have au:=iw O;by_cases H:t=[]
  ·subst H;have HZ:=gd (O=R) (by have:=c.out;rwa [af.out,jb]at this);clear c;generalize gJ []=al at*;go_wp2;go_ret;exact⟨by rw[<-HZ.out];rfl,f.out⟩
  ·have ar:=Bw.2 H;have ab:=gb (FV t);have y:=gb (VK t);go_wp2_with fail;go_loopw [4] (λN w2=>∃k:Nat,N= .int .i64 k/\k<=t.length/\Hid ((10:UInt8)∉t.take k)/\w2=wr) (λN _=>t.length-(intOf N).toNat)
   case atStart=>exact⟨0,rfl,ge _,gb On,rfl⟩
   case round=>
    obtain⟨k,rfl,Y,h,rfl⟩:=hrel;by_cases Z:k<t.length
    ·have aj:(k:Int)<t.length:=(by omega);have ao:=ab.out k Oa;have C:=gb (λq=>acK (t:=t) (k:=k) Z q h.out);have B:=gb (λq=>ae.out t k Z q h.out);generalize t.getD k 0=p at*;by_cases d:p=10
     ·have n:(p.toNat:Int)=10:=(by rw[d];rfl);have I:=B.out d;have b:=gb (y.out 0 k);have F:=gb (y.out (k+1) t.length);have j:(t.drop 0).take (k-0)=t.take k:=On;have V:(t.drop (k+1)).take (t.length-(k+1))=t.drop (k+1):=ie (by grind);rw[j]at b;rw[V]at F;have aq:(t.take k).length=k:=(by grind);have g:=gb (λo=>S.out (t.take k) o Oa);have ai:=U.out (t.take k);have ap:((k:Int)==t.length)=false:=gL.2 Oa;have ak:(t.drop (k+1)).length=t.length-(k+1):=ow;have z:=gd ((O++(oV A (t.take k)++[10]))++rrL A (t.drop (k+1))=R) (by have:=c.out;grind);clear j V I c C B d h;generalize oV A (t.take k)=a at*;generalize t.take k=t1 at*;generalize t.drop (k+1)=v at*;have z1:=iw a;have Q:=iw (O++a);rw[gz]at Q;have D:=gd (gJ O++gJ a=gJ (O++a)) (lu _ _);have E:=gd (gJ (O++a)++(⟨#[10]⟩:ByteArray)=gJ (O++(a++[10]))) D9;have aa:=iB 1000000001 (show v.length+1<=t.length by omega);rw[qS,qU]at aa;have ac:=gd ((O++(a++[10])).length+v.length*1000000001<=8000*1000000001) (by grind);have ag:=gd (v.length<=8000) Oa;have ah:O.length<=8000008000000:=Oa;clear aa X;go_wp2_with fail;rw[b.out];refine(g.out _).mono ?_;rintro G w3 ⟨rfl,l⟩;have x:=gb (f.out.trans (l.mono f.out.size));clear l g b;go_wp2_with fail;refine⟨⟨v,O++(a++[10]),by rw[F.out],by rw[D.out,E.out],ag.out,ac.out,z,x.out⟩,?_⟩;show((gJ t).extract (k+1) t.length).size<(gJ t).size;rw[F.out,L,iw,ak];exact Oa
     ·have n:¬(p.toNat:Int)=10:=λq=>d (xd.1 (by grind));have an:((p.toNat:Int) !=10)=true:=iT.2 n;have am:=gb (C.out d);clear C B d;go_wp2_with fail;exact OR
    ·obtain rfl:k=t.length:=(by omega);have aj:¬(t.length:Int)<t.length:=Oa;have e:(10:UInt8)∉t:=(by have:=h.out;grind);have I:=ad.out t H e;have b:=gb (y.out 0 t.length);have j:(t.drop 0).take (t.length-0)=t:=On;rw[j]at b;have g:=gb (λo=>S.out t o M);have ai:=U.out t;have z:=gd (O++(oV A t++[10])=R) (by have:=c.out;grind);clear j I c h e;generalize oV A t=a at*;have z1:=iw a;have Q:=iw (O++a);rw[gz]at Q;have D:=gd (gJ O++gJ a=gJ (O++a)) (lu _ _);have E:=gd (gJ (O++a)++(⟨#[10]⟩:ByteArray)=gJ (O++(a++[10]))) D9;have ah:O.length<=8000008000000:=Oa;clear X;go_wp2_with fail;rw[b.out];refine(g.out _).mono ?_;rintro G w3 ⟨rfl,l⟩;have x:=gb (f.out.trans (l.mono f.out.size));clear l g b;go_wp2;rw[D.out,E.out,z.out];go_ret;exact⟨rfl,x.out⟩
theorem yM(w:World)(f:jO w)(T:iF)(a:T.length<=140737488355328):
 Calls prog 3 #[.string (gJ T)] w λe j=>e= .returned (.bool true)/\gm w j:=by
 have d:=gb (aih T w f a);have c:=gb (λk=>X3 T k a);generalize FO pi.A T=R at*;have l:((gJ R).toList==(gJ R).toList)=true:=beq_self_eq_true _;clear f a;generalize gJ R=s at*;go_enter func3,ntmps3;go_wp2_with fail;refine d.out.mono ?_;rintro e n ⟨rfl,g⟩;have b:=gb g;clear g d;go_wp2_with fail;refine(c.out _).mono ?_;rintro e o ⟨rfl,h⟩;have i:=gb (b.out.trans (h.mono b.out.size));clear h c;go_wp2;go_ret;exact⟨by first|rfl|simp,i.out⟩
end Go.Proofs.YtnnaadmegeeinaaGreatDoor
namespace Go.Proofs.YtnnaadmegeeinaaGreatDoor.runAnswers
open Tryz Go.Proofs.Tryz
open Go.ChangeShapes Go.WideShapes Go.ChangeAt Go.RowKit Go.ChangeMaps
theorem own:ownKnob prog.godebug=none:=Ob
theorem reads(os:Os){H:Type}(enc:TypeId×Value->H):∃a,DataW.whole enc prog ((World.laidAll prog os Rows.runAnswersRow.laid).forCall (λ_ _=>0) ⟨#[],#[.string ByteArray.empty],[]⟩).memory f3.params.toList Rows.runAnswersSpec.vars false (#[.string ByteArray.empty]:Array Value).toList 8=some ([.lit (.string [])],[],a):=
 ⟨[],by kernel_rfl⟩
theorem lifted(os:Os)(J:os.Started)(H:Type)(enc:TypeId×Value->H)(F:Stop.Interp):
 ReturnsInHanded {} checked os 3 .any ((OpenSpec.ofChange Rows.runAnswersSpec).preRow enc prog f3 Rows.runAnswersRow.domain false Rows.runAnswersRow.laid) (((OpenSpec.ofChange Rows.runAnswersSpec).at F).post enc prog f3 false true false false):=by
 obtain⟨Z,E⟩:=reads os enc
 refine returnsInHanded_of_row (C:=checked) (s:=OpenSpec.ofChange Rows.runAnswersSpec) own J Ob func3
  (Bt (enc:=enc) (C:=checked) false (World.laidAll prog os Rows.runAnswersRow.laid) #[.string ByteArray.empty] (World.laidAll_os _ _ _) (Ih os _) Ob
    (OpenSpec.preRow_of_cond 8 E Ob (λX B=>by cases B) Ob (Fd os _))) ?_
 intro W n a d p N k g S T h w x _;have D:=agU w x;have i:∀(j:Nat) t v,f3.params[j]? =some t->a[j]? =some v->Value.okWide prog W .any n t v:=k;have b:(DataW.weightsEach prog (f3.params.toList++Rows.runAnswersSpec.plain.varTypes prog) (d++p)).all (·<=reachBytes)=true:=h;have z:=g;obtain⟨G,aa,f,y,rfl,U,V⟩:=g;have e:DataW.TrodAll enc prog W 0 (λ_=>true) true f3.params.toList a.toList d G:=f;rw[params3]at e i b;obtain⟨l,ab,O,P,Y,q0,R,rfl,rfl,r,I⟩:=trodAll_cons e;obtain⟨rfl,rfl,rfl⟩:=trodAll_nil I;obtain rfl:a= #[l]:=by cases a;simp_all
 obtain⟨rfl,rfl⟩:=trodVars_none y;obtain⟨c,rfl,rfl,rfl,K⟩:=open_string underlying9 (i 0 9 l rfl rfl) r;have L:c.data.toList.length<=140737488355328:=gt (sized_string b (j:=0) (t:=9) rfl rfl) Oc;clear f k b h;refine(yM W D c.data.toList L).mono λQ M ⟨A,o⟩=> ?_;subst A;exact⟨_,rfl,_,_,_,[],_,[],z,trodAll_mk1 (shut_bool underlying4 _),(trodAll_cons_mk (shut_string underlying9 K) trodAll_mk0),rfl,o.frame _,λq=>by cases q⟩
theorem amq:Rows.runAnswersRow.holds pinned (OpenSpec.ofChange Rows.runAnswersSpec):=
 OpenClaim.holds_of_cond 3 f3 rfl rfl rfl rfl rfl rfl rfl ⟨rfl,rfl,rfl,rfl,rfl⟩ rfl rfl rfl rfl rfl named func3 closed
  amp wrapper
  (λb c H a _ F=>by rw[OpenClaim.pre_eq_preRow];exact lifted b c H a F)
theorem proved:Rows.RunAnswersCardSaid:=
 Claim7.holds_tied_plain_at .later [] _ _ _ _
  amq (λ_ h=>by cases h) Ob (λ_ h=>by cases h) runAnswers_row_tie rfl ⟨rfl,rfl⟩ Ob rfl
  (λf b c d=>by
    obtain rfl:f=3:=gG (named.symm.trans c)|>.symm;obtain rfl:b=f3:=(gG (func3.symm.trans d)).symm
    exact⟨by kernel_rfl,λj t a=>by
     rw[params3]at a;have e:t∈[9]:=(by simpa using Array.mem_of_getElem? a);have lM:([9].all λg=> !prog.wantsStandIn g)=true:=Ob
     exact(show prog.wantsStandIn t=false by simpa using gF.1 lM t e)⟩)
  Ob
#print axioms proved
end Go.Proofs.YtnnaadmegeeinaaGreatDoor.runAnswers
