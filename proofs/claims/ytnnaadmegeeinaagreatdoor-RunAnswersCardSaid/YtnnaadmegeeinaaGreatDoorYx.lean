/-
  Part 24 of a proof: what it proves stands in the last text.
-/
import Derived.Test.YtnnaadmegeeinaaGreatDoorYw
set_option linter.all false
set_option maxHeartbeats 8000000
set_option maxRecDepth 100000
namespace Go.Proofs.YtnnaadmegeeinaaGreatDoor
open Tryz Go.Proofs.Tryz
open Go.RowKit
def kV:=@Eq.trans
theorem MX{p:Prop}(h:p:=by
 unfold nr.A
 grind):p:=h
theorem Su{p:Prop}(h:p:=by exact hK (.pointer (some ⟨b,0,none⟩)) w9 ⟨b,ag,rfl,bJ,eS,hu9⟩ (J.grown cb J.size (λk e=>by grind)) (.inr ⟨b,ag,xs,bJ,ha,cb,eS,hu9⟩) (λ_=>h3.symm)):p:=h
theorem UQ{p:Prop}(h:p:=by
 rw[hx];have h1:(GL ad (qd ad (af.map gr))).length<=lL ad:=by
  grind [GL]
 grind [aja,ja]):p:=h
theorem Dx{p:Prop}(h:p:=by
 unfold qN at hx;obtain⟨H,hi,rfl⟩:=gK.1 hx
 grind [ja]):p:=h
theorem DI{p:Prop}(h:p:=by rw[bF];exact gM ((f0 _ _).drew) m):p:=h
theorem DZ{p:Prop}(h:p:=by
 obtain⟨af,c1,rfl⟩:=hu.len
 rfl):p:=h
theorem KJ{p:Prop}(h:p:=by
 refine ?_;go_simp
 exact hK _ _ rfl J (.inl (f0 _ _)) (λh=>absurd h Oc)):p:=h
theorem KL{p:Prop}(h:p:=by
 rintro e aj ⟨rfl,ar⟩
 exact⟨_,rfl,hK _ _ rfl (J.trans (ar.mono J.size)) ar (λh=>absurd h Oc)⟩):p:=h
theorem KR{p:Prop}(h:p:=by
 intro O V K J hf hd hK
 exact R6 60 _ rfl b 0 (hf 13 rfl) [.int .i64 P,.int .i64 D,ag] _ (HR.out V J).range underlying60 rfl eo (hK _ _ rfl J (f0 _ _) (λh=>absurd h Oc))):p:=h
theorem KT{p:Prop}(h:p:=by
 intro O V K J hf hd hK;obtain⟨b,xs,h3,bJ,ha,hx⟩:=hd 10 Oc Ob rfl;obtain⟨ag,h4,hu⟩:=hd 8 Oc Ob rfl;have di:ag.oneCell'=true:=DZ;refine F6 60 _ _ rfl b [.int .i64 PP,.int .i64 KK,ag] h3 h4 ha Oa eo (by simp[di];exact⟨rfl,rfl⟩) ?_;intro w9 eS cb;have hu9:OI w.heap.size w9 ag am:=Ow.keptK hu ha Oc cb
 exact Su):p:=h
theorem KU{p:Prop}(h:p:=by
 intro O V K J hf hd hK
 exact ng _ rfl (hK _ _ (hf 1 rfl) J (.inl (f0 _ _)) (λh=>absurd h Oc))):p:=h
theorem KZ{p:Prop}(h:p:=by
 refine nf _ _ _ #[.int .i64 (P:Int),.int .i64 (D:Int)] rfl (by grind) _ func55 Ob Ob ?_;refine(HF.out V J).mono ?_;rintro e aj ⟨⟨ag,rfl,hu⟩,ar⟩
 exact⟨_,rfl,hK _ _ ⟨ag,rfl,hu.mono J.size⟩ (J.trans (ar.mono J.size)) (.inl ar) (λh=>absurd h Oc)⟩):p:=h
theorem Pf{p:Prop}(h:p:=by
 unfold nr.A
 exact OK):p:=h
theorem Pj{p:Prop}(h:p:=by
 intro O V K J hf hd hK;refine ?_;go_simp
 exact hK _ _ ⟨_,_,rfl,J.size,hU.new _ _ _,rfl⟩ (J.alloc J.size _) (.inl ((f0 _ _).alloc (fZ _) _)) (λh=>absurd h Oc)):p:=h
theorem PE{p:Prop}(h:p:=by
 intro O V K J hf hd hK;have h3:=hd 9 Oc Ob rfl
 exact uV _ rfl (hK _ _ h3 J (.inl (f0 _ _)) (λh=>absurd h Oc))):p:=h
theorem PG{p:Prop}(h:p:=by
 have p2:=ax.p2;have p7:=ax.p7;have:=wK (p:=(ad:Int)) (taps:=gr af) (seed:=gr aq) Oa ax.fs aX x cB
 grind [ja]):p:=h
theorem PH{p:Prop}(h:p:=by
 intro O V K J hf hd hK;have h3:=hd 6 Oc Ob rfl
 exact ng _ rfl (hK _ _ h3 J (.inl (f0 _ _)) (λh=>absurd h Oc))):p:=h
theorem PW{p:Prop}(h:p:=by
 clear hf hd h3;refine ?_;go_simp
 exact hK _ _ ⟨ag,rfl,hu⟩ J (.inl (f0 _ _)) (λh=>absurd h Oc)):p:=h
theorem P7{p:Prop}(h:p:=by
 go_wp2
 (try rw[et.out])
 (try rw[db.out])
 exact Ox):p:=h
theorem QR{p:Prop}(h:p:=by
 unfold uD
 exact Oa):p:=h
theorem Q8{p:Prop}(h:p:=by
 intro O V K J hf hd hK;have h3:=hd 7 Oc Ob rfl;have h4:O.tmps[130]?.getD undef= .tuple #[.int .i64 am,.int .i64 ae]:=iW h3
 exact Rx):p:=h
theorem Rf{p:Prop}(h:p:=by
 clear hf hd
 exact KJ):p:=h
theorem Rm{p:Prop}(h:p:=by
 intro O V K J hf hd hK;have h3:=hd 7 Oc Ob rfl
 exact KH):p:=h
theorem Rn{p:Prop}(h:p:=by
 intro O V K J hf hd hK;have h3:=hd 4 Oc Ob rfl
 exact KH):p:=h
theorem Ry{p:Prop}(h:p:=by
 have aV:=fp.out V J
 exact QZ):p:=h
def vq(A:iF->j9->iF):Nat->iF->iF
 |0,_=>[]
 |n+1,t=>if t=[]then[]else oV A (Lib.cut t [10]).1++10::vq A n (Lib.cut t [10]).2.1
def Lh(A:iF->j9->iF):Prop:=∀T a,(A T a).length<=1000000000
theorem GE{A:iF->j9->iF}(h:Lh A)(s:iF):(oV A s).length<=1000000000:=by
 unfold oV;split
 ·split
  ·exact h _ _
  ·exact Oc
 ·exact Oc
def FO(A:iF->j9->iF)(t:iF):iF:=if 8000<t.length then[116,111,111,32,108,111,110,103,10]else vq A t.length t
theorem Ww{T e:TypeId}{B b:Nat}{bs:np}{w w':World}(h:Lib.IsBuilder T e B b bs w)(J:gm w w'):Lib.IsBuilder T e B b bs w':=by
 have c:∀p,Lib.BuilderAt T e B b p bs w->Lib.BuilderAt T e B b p bs w':=by
  rintro p ⟨d,v,a,f,g⟩;refine⟨d,v,(J.block b (gZ.1 a).1).trans a,?_,g⟩;obtain⟨i,j⟩:=f;refine⟨i,j.imp id ?_⟩;exact PS
 exact h.imp (c _) (c _)
theorem Hb{t:iF}(a:t≠[]):(Lib.cut t [10]).1.length<=t.length/\(Lib.cut t [10]).2.1.length<t.length:=by
 have h:=aiW a 10;refine⟨h.1,?_⟩;cases e:(Lib.cut t [10]).2.2 with
 |true=>exact h.2 e
 |false=>
  have:(Lib.cut t [10]).2.1=[]:=by
   unfold Lib.cut at e⊢
   grind
  grind [List.length_pos_iff]
theorem YT(b:Nat)(B:Nat)(a:iF)(s:iF)(w:World)(h:Lib.IsBuilder 28 5 B b (Lib.byteCells a) w)(i:a.length+s.length<=140737488355328)(g:B<=w.heap.size):
 Calls prog 8 #[.pointer (some ⟨b,0,none⟩),.string (gJ s)] w λe c=>(∃v,e= .returned v)/\Lib.IsBuilder 28 5 B b (Lib.byteCells (a++s)) c/\Below B w c:=by
 refine(Any.Builder_WriteString {If with} JC B b (Lib.byteCells a) (gJ s) w h (by rw[Lib.byteCells_length,iw];exact i) g).mono ?_;rintro e c ⟨rfl,d,f⟩;refine⟨⟨_,rfl⟩,.inr ?_,f⟩;have:Lib.byteCells a++Lib.strCells (gJ s)=Lib.byteCells (a++s):=by rw[Lib.strCells_eq,kK];simp[Lib.byteCells]
 rw[<-this];exact d
theorem GT(b:Nat)(B:Nat)(a:iF)(w:World)(h:Lib.IsBuilder 28 5 B b (Lib.byteCells a) w)(d:B<=w.heap.size):
 Calls prog 10 #[.pointer (some ⟨b,0,none⟩)] w λe c=>e= .returned (.string (gJ a))/\Below B w c:=by
 refine(Any.Builder_String_any {If with} JC B b a w h d).mono ?_;exact λe c h=>h
theorem ry(A:iF->j9->iF){n:Nat}{t:iF}(h:t.length<=n)(a:t≠[]):vq A n t=(oV A (Lib.cut t [10]).1++[10])++vq A (n-1) (Lib.cut t [10]).2.1:=by
 have:=Bw.2 a;obtain⟨m,rfl⟩:∃m,n=m+1:=⟨n-1,by omega⟩;rw[vq,gh a];exact On
theorem agT(A:iF->j9->iF)(o:JW A)(Y:Lh A)(s:iF)(w:World)(g:jO w)(hs:s.length<=140737488355328):
 Calls prog 5 #[.string (gJ s)] w λe w'=>e= .returned (.string (gJ (FO A s)))/\gm w w':=by
 have ak:(gJ s).size=s.length:=iw s;by_cases J:8000<s.length
 ·have f:=gd (FO A s=[116,111,111,32,108,111,110,103,10]) (gl J);have ab:(8000:Int)<s.length:=Oa;rw[f.out];clear f g o;generalize gJ s=al at*;go_enter func5,ntmps5;go_wp2;go_ret;exact Mq
 ·have ab:¬(8000:Int)<s.length:=(by omega);have f:=gd (FO A s=vq A s.length s) (gh J);have P:=gb (λ(t:iF)(c:World)(F:t.length<=8000)(a:gm w c)=>Lm A o t c F (g.below a));have S:=gb (λ(t:iF)(c:World)(F:t.length<=8000)(a:gm w c)=>aav t c Oa (g.below a).lib 10);have Q:=gb ((f0 w.heap.size w).alloc (fZ _) (.cells #[.pointer none,.slice none 0 0] 28));have U:=gb (Lib.fresh_isBuilder 28 5 w);clear g o;go_enter func5,ntmps5;go_wp2;go_loopw [0,4,5,6,10] (λv _ _ _ _ wr=>∃(n:Nat)(t b:iF),v= .string (gJ t)/\t.length<=n/\n<=s.length/\b++vq A n t=vq A s.length s/\b.length<=(s.length-n)*1000000001/\Lib.IsBuilder 28 5 w.heap.size w.heap.size (Lib.byteCells b) wr/\gm w wr) (λv _ _ _ _ _=>match v with| .string ae=>ae.size|_=>0)
  case atStart=>exact⟨s.length,s,[],rfl,fZ _,fZ _,rfl,by simp,U.out,Q.out⟩
  case round=>
   obtain⟨n,t,b,rfl,ad,ah,i,q,h,a⟩:=hrel;by_cases d:t=[]
   ·have hq:((gJ t).toList==[])=true:=(by rw[d,jB,kK];rfl);have M:b=vq A s.length s:=by
     rw[<-i,d];cases n<;>simp[vq]
    have V:=gb (GT w.heap.size w.heap.size b wr h a.size);have l:=gb a;have p:=gb M;clear M h a i q d;go_wp2_with fail;refine V.out.mono ?_;rintro e w9 ⟨rfl,I⟩;have HZ:=gb (l.out.trans I);have T:=gd (gJ b=gJ (FO A s)) (by rw[p.out,f.out]);rw[T.out];clear I;go_wp2;go_ret;exact O1
   ·have hq:((gJ t).toList==[])=false:=(by rw[jB,kK,gL];exact d);have N:=ry A ad d;obtain⟨ac,L⟩:=Hb d;have B:=gb (S.out t wr Oa a);have y:=gb (λ(c:World)(aa:gm wr c)=>P.out (Lib.cut t [10]).1 c Oa (a.trans (aa.mono a.size)));have aj:=GE Y (Lib.cut t [10]).1;have X:=gb (i.symm.trans (jA (b++ ·) N));have R:=gb h;have l:=gb a;have C:=gb a.size;have ag:0<n:=Oa;have Z:=gb (show(Lib.cut t [10]).2.1.length<=n-1 by omega);have W:=gb L;have ai:(gJ (oV A (Lib.cut t [10]).1)).size<=1000000000:=(by grind [iw]);clear N i h a ac L d;generalize (Lib.cut t [10]).2.1=rest at*;generalize (Lib.cut t [10]).2.2=af at*;generalize (Lib.cut t [10]).1=j at*;go_wp2_with fail;refine B.out.mono ?_;rintro e w4 ⟨rfl,r⟩;have z:=gb r;have x:=gb (y.out w4 r);clear r B y;go_wp2_with fail;refine x.out.mono ?_;rintro e w5 ⟨rfl,G⟩;have k:=gb (z.out.trans (G.mono z.out.size));have p:=gd (gJ (oV A j)++(⟨#[10]⟩:ByteArray)=gJ (oV A j++[10])) (by simp[gJ,ByteArray.ext_iff]);have D:=gb (YT w.heap.size w.heap.size b (oV A j++[10]) w5 (Ww R.out k.out) Oo (gt C.out k.out.size));have O:=gb q;clear G x q;go_wp2_with fail;rw[p.out];refine D.out.mono ?_;rintro e w6 ⟨⟨v6,rfl⟩,K,H⟩;have E:=gR K ((l.out.trans (k.out.mono C.out)).trans H);clear K H D;go_wp2;go_roundw
    case rel=>
     refine⟨n-1,rest,b++(oV A j++[10]),rfl,Z.out,by omega,?_,?_,E.out.1,E.out.2⟩
     ·rw[iN];exact X.out.symm
     ·have:=O.out
      grind
    case measure=>
     have:=W.out
     grind [iw]
structure nr where
 LstE:Nat->Nat->Int
 LstX:Nat->Nat->gP
 hLst:GB LstE LstX
 MulE:Nat->Nat->Nat->Nat->Int
 MulX:Nat->Nat->Nat->Nat->Int
 hMul:ZE LstE LstX MulE MulX
 RowE:Nat->gA->gA->Nat->Int
 RowX:Nat->gA->gA->Nat->gP
 hRow:ZH RowE RowX
 LeaE:Nat->gA->Int
 LeaX:Nat->gA->Int
 LeaY:Nat->gA->gP
 hLea:ZC LeaE LeaX LeaY
 CycE:gA->Int
 CycX:gA->iF
 hCyc:Zz CycE CycX
 OrdE:Nat->kl->Int
 OrdX:Nat->kl->Int
 hOrd:ZF OrdE OrdX
 BeaE:Nat->Nat->Int
 BeaX:Nat->Nat->Int
 hBea:Zu BeaE BeaX
 ExtE:Nat->kl->Int
 ExtX:Nat->kl->gP
 hExt:ZA ExtE ExtX
 LevE:Nat->kl->Nat->Int
 LevX:Nat->kl->Nat->Int
 LevY:Nat->kl->Nat->Int
 hLev:ZD LevE LevX LevY
 TriE:Nat->Int
 TriX:Nat->lO
 hTri:ZJ TriE TriX
 DifE:Nat->gA->Int
 DifX:Nat->gA->Int
 hDif1:Ld DifE DifX
 MtpE:Nat->gA->Int
 MtpX:Nat->gA->gP
 hDif2:Le MtpE MtpX
 RulE:Nat->Int
 RulX:Nat->gP
 hRul:ZI RulE RulX
 GauE:Nat->Nat->Nat->Int
 GauX:Nat->Nat->Nat->Int
 hGau:ZB GauE GauX
 BenE:gA->Int
 BenX:gA->Bool
 hBen:Zv BenE BenX
 RaoE:Nat->Nat->Nat->Int
 RaoX:Nat->Nat->Nat->Int
 hRao:ZG RaoE RaoX
 CirE:Nat->Int
 CirX:Nat->lO
 hCir:Zx CirE CirX
 CouE:gA->Int
 CouX:gA->Bool
 hCou:Zy CouE CouX
 BruE:Nat->Nat->Int
 BruX:Nat->Nat->gP
 hBru:Zw BruE BruX
 CasE:Nat->Nat->Int
 CasX:Nat->Nat->gP
 hCas1:Lb CasE CasX
 CslE:Nat->Nat->Int
 CslX:Nat->Nat->Int
 hCas2:Lc CslE CslX
def nr.A(p:nr)(T:iF)(a:j9):iF:=
 if T=[102,105,101,108,100]then oh p.LstE p.LstX a else
 if T=[116,105,109,101,115]then mX p.LstE p.MulE p.MulX a else
 if T=[114,111,119]then s9 p.RowE p.RowX a else
 if T=[108,101,97,115,116]then sY p.LeaE p.LeaX p.LeaY a else
 if T=[99,121,99,108,101,115]then pS p.CycE p.CycX a else
 if T=[111,114,100,101,114]then sZ p.OrdE p.OrdX a else
 if T=[98,101,97,100,115]then sV p.BeaE p.BeaX a else
 if T=[101,120,116,101,110,100]then oe p.ExtE p.ExtX a else
 if T=[108,101,118,101,108]then nz p.LevE p.LevX p.LevY a else
 if T=[116,114,105,112,108,101,115]then pU p.TriE p.TriX a else
 if T=[100,105,102,102,101,114]then od p.DifE p.DifX p.MtpE p.MtpX a else
 if T=[114,117,108,101,114]then pT p.RulE p.RulX a else
 if T=[103,97,117,115,115]then sX p.GauE p.GauX a else
 if T=[98,101,110,116]then pP p.BenE p.BenX a else
 if T=[114,97,111]then s8 p.RaoE p.RaoX a else
 if T=[99,105,114,99,108,101]then pQ p.CirE p.CirX a else
 if T=[99,111,117,108,100]then pR p.CouE p.CouX a else
 if T=[98,114,117,105,106,110]then sW p.BruE p.BruX a else
 if T=[99,97,115,99,97,100,101]then nY p.CasE p.CasX p.CslE p.CslX a else
 badT
theorem nr.A_field(p:nr)(a:j9):p.A [102,105,101,108,100] a=oh p.LstE p.LstX a:=MX
theorem nr.A_times(p:nr)(a:j9):p.A [116,105,109,101,115] a=mX p.LstE p.MulE p.MulX a:=MX
theorem nr.A_row(p:nr)(a:j9):p.A [114,111,119] a=s9 p.RowE p.RowX a:=MX
theorem nr.A_least(p:nr)(a:j9):p.A [108,101,97,115,116] a=sY p.LeaE p.LeaX p.LeaY a:=MX
theorem nr.A_cycles(p:nr)(a:j9):p.A [99,121,99,108,101,115] a=pS p.CycE p.CycX a:=MX
theorem nr.A_order(p:nr)(a:j9):p.A [111,114,100,101,114] a=sZ p.OrdE p.OrdX a:=MX
theorem nr.A_beads(p:nr)(a:j9):p.A [98,101,97,100,115] a=sV p.BeaE p.BeaX a:=MX
theorem nr.A_extend(p:nr)(a:j9):p.A [101,120,116,101,110,100] a=oe p.ExtE p.ExtX a:=MX
theorem nr.A_level(p:nr)(a:j9):p.A [108,101,118,101,108] a=nz p.LevE p.LevX p.LevY a:=MX
theorem nr.A_triples(p:nr)(a:j9):p.A [116,114,105,112,108,101,115] a=pU p.TriE p.TriX a:=MX
theorem nr.A_differ(p:nr)(a:j9):p.A [100,105,102,102,101,114] a=od p.DifE p.DifX p.MtpE p.MtpX a:=Pf
theorem nr.A_ruler(p:nr)(a:j9):p.A [114,117,108,101,114] a=pT p.RulE p.RulX a:=Pf
theorem nr.A_gauss(p:nr)(a:j9):p.A [103,97,117,115,115] a=sX p.GauE p.GauX a:=Pf
theorem nr.A_bent(p:nr)(a:j9):p.A [98,101,110,116] a=pP p.BenE p.BenX a:=Pf
theorem nr.A_rao(p:nr)(a:j9):p.A [114,97,111] a=s8 p.RaoE p.RaoX a:=Pf
theorem nr.A_circle(p:nr)(a:j9):p.A [99,105,114,99,108,101] a=pQ p.CirE p.CirX a:=Pf
theorem nr.A_could(p:nr)(a:j9):p.A [99,111,117,108,100] a=pR p.CouE p.CouX a:=Pf
theorem nr.A_bruijn(p:nr)(a:j9):p.A [98,114,117,105,106,110] a=sW p.BruE p.BruX a:=Pf
theorem nr.A_cascade(p:nr)(a:j9):p.A [99,97,115,99,97,100,101] a=nY p.CasE p.CasX p.CslE p.CslX a:=Pf
theorem WF{T:iF}(h:∀c∈zZ++yg,T≠c.1):oX T=none:=by
 unfold oX
 grind
theorem nr.cmds(p:nr):JW p.A:=by
 intro T H F a f v w c b e d;by_cases h:T=[102,105,101,108,100]
 ·subst h;obtain⟨rfl,rfl⟩:=jl (gG (kV (show some _=_ from rfl) a));rw[p.A_field];exact aiL p.LstE p.LstX p.hLst f c v w b e d
 by_cases i:T=[116,105,109,101,115]
 ·subst i;obtain⟨rfl,rfl⟩:=jl (gG (kV (show some _=_ from rfl) a));rw[p.A_times];exact aiT p.LstE p.LstX p.MulE p.MulX p.hLst p.hMul f c v w b e d
 by_cases x:T=[114,111,119]
 ·subst x;obtain⟨rfl,rfl⟩:=jl (gG (kV (show some _=_ from rfl) a));rw[p.A_row];exact aiR p.RowE p.RowX p.hRow f c v w b e d
 by_cases y:T=[108,101,97,115,116]
 ·subst y;obtain⟨rfl,rfl⟩:=jl (gG (kV (show some _=_ from rfl) a));rw[p.A_least];exact aiN p.LeaE p.LeaX p.LeaY p.hLea f c v w b e d
 by_cases z:T=[99,121,99,108,101,115]
 ·subst z;obtain⟨rfl,rfl⟩:=jl (gG (kV (show some _=_ from rfl) a));rw[p.A_cycles];exact aiI p.CycE p.CycX p.hCyc f c v w b e d
 by_cases A:T=[111,114,100,101,114]
 ·subst A;obtain⟨rfl,rfl⟩:=jl (gG (kV (show some _=_ from rfl) a));rw[p.A_order];exact aiP p.OrdE p.OrdX p.hOrd f c v w b e d
 by_cases B:T=[98,101,97,100,115]
 ·subst B;obtain⟨rfl,rfl⟩:=jl (gG (kV (show some _=_ from rfl) a));rw[p.A_beads];exact aiC p.BeaE p.BeaX p.hBea f c v w b e d
 by_cases C:T=[101,120,116,101,110,100]
 ·subst C;obtain⟨rfl,rfl⟩:=jl (gG (kV (show some _=_ from rfl) a));rw[p.A_extend];exact aiK p.ExtE p.ExtX p.hExt f c v w b e d
 by_cases D:T=[108,101,118,101,108]
 ·subst D;obtain⟨rfl,rfl⟩:=jl (gG (kV (show some _=_ from rfl) a));rw[p.A_level];exact aiO p.LevE p.LevX p.LevY p.hLev f c v w b e d
 by_cases E:T=[116,114,105,112,108,101,115]
 ·subst E;obtain⟨rfl,rfl⟩:=jl (gG (kV (show some _=_ from rfl) a));rw[p.A_triples];exact aiU p.TriE p.TriX p.hTri f c v w b e d
 by_cases j:T=[100,105,102,102,101,114]
 ·subst j;obtain⟨rfl,rfl⟩:=jl (gG (kV (show some _=_ from rfl) a));rw[p.A_differ];exact aiJ p.DifE p.DifX p.MtpE p.MtpX p.hDif1 p.hDif2 f c v w b e d
 by_cases k:T=[114,117,108,101,114]
 ·subst k;obtain⟨rfl,rfl⟩:=jl (gG (kV (show some _=_ from rfl) a));rw[p.A_ruler];exact aiS p.RulE p.RulX p.hRul f c v w b e d
 by_cases l:T=[103,97,117,115,115]
 ·subst l;obtain⟨rfl,rfl⟩:=jl (gG (kV (show some _=_ from rfl) a));rw[p.A_gauss];exact aiM p.GauE p.GauX p.hGau f c v w b e d
 by_cases n:T=[98,101,110,116]
 ·subst n;obtain⟨rfl,rfl⟩:=jl (gG (kV (show some _=_ from rfl) a));rw[p.A_bent];exact aiD p.BenE p.BenX p.hBen f c v w b e d
 by_cases o:T=[114,97,111]
 ·subst o;obtain⟨rfl,rfl⟩:=jl (gG (kV (show some _=_ from rfl) a));rw[p.A_rao];exact aiQ p.RaoE p.RaoX p.hRao f c v w b e d
 by_cases q:T=[99,105,114,99,108,101]
 ·subst q;obtain⟨rfl,rfl⟩:=jl (gG (kV (show some _=_ from rfl) a));rw[p.A_circle];exact aiG p.CirE p.CirX p.hCir f c v w b e d
 by_cases r:T=[99,111,117,108,100]
 ·subst r;obtain⟨rfl,rfl⟩:=jl (gG (kV (show some _=_ from rfl) a));rw[p.A_could];exact aiH p.CouE p.CouX p.hCou f c v w b e d
 by_cases s:T=[98,114,117,105,106,110]
 ·subst s;obtain⟨rfl,rfl⟩:=jl (gG (kV (show some _=_ from rfl) a));rw[p.A_bruijn];exact aiE p.BruE p.BruX p.hBru f c v w b e d
 by_cases t:T=[99,97,115,99,97,100,101]
 ·subst t;obtain⟨rfl,rfl⟩:=jl (gG (kV (show some _=_ from rfl) a));rw[p.A_cascade];exact aiF p.CasE p.CasX p.CslE p.CslX p.hCas1 p.hCas2 f c v w b e d
 rw[WF ?_]at a
 ·cases a
 ·intro G g;simp only[zZ,yg,jD,ko,m9,List.not_mem_nil,or_false]at g;rcases g with rfl|rfl|rfl|rfl|rfl|rfl|rfl|rfl|rfl|rfl|rfl|rfl|rfl|rfl|rfl|rfl|rfl|rfl|rfl<;>assumption
theorem Bc(A:iF->j9->iF):∀n,vq A n []=[]
 |0=>rfl
 |n+1=>by simp[vq]
theorem Ee(A:iF->j9->iF):∀(k:Nat)(t:iF)(n m:Nat),t.length<=k->t.length<=n->t.length<=m->vq A n t=vq A m t
 |0,t,n,m,h,_,_=>by
  obtain rfl:t=[]:=iX Oa
  grind [Bc]
 |k+1,t,n,m,h,c,b=>by
  by_cases a:t=[]
  ·grind [Bc]
  ·have d:=(Hb a).2;rw[ry A c a,ry A b a,Ee A k (Lib.cut t [10]).2.1 (n-1) (m-1) Oa Oa Oa]
theorem vW(v:Nat)(l:gA):0<=kH v l/\kH v l<=6:=by
 grind [kH]
theorem Az(v:Nat)(l:gA):0<=qp v l/\qp v l<=6:=by
 have:=vW v l
 grind [qp]
theorem Fh(v:Nat)(l:gA)(h:kH v l=0):ja (sC v l):=by
 have e:=td h;obtain⟨b,c,_⟩:=oL h;have d:ES v l 1<=3600:=by
  have b:=lZ (a:=1) (l:=JO v l l.length);rw[ET]at b;have c:l.length*l.length<=60*60:=gE Oa Oa;have:ES v l 1=(JO v l l.length).count 1:=rfl;exact Oa
 grind [sC,ja]
theorem wm{v:Nat}{l:gA}(h:kH v l≠0):qp v l=kH v l:=gl h
theorem abY{v:Nat}{l:gA}(h:kH v l≠0):sC v l=0:=by
 unfold sC;rw[wm h,gh];exact Oa
theorem ajN:Ld qp sC:=by
 intro b c f g l e a;by_cases h:kH b c=0
 ·refine(Zo b f c g e a.1 a.2.1 h).mono ?_;rintro i k ⟨rfl,d⟩;exact⟨rfl,Az _ _,λ_=>Fh _ _ h,d⟩
 ·refine(V9 b f c g e a.1 a.2.1 h).mono ?_;rintro i k ⟨rfl,d⟩;exact⟨by rw[wm h,abY h],Az _ _,λj=>absurd ((wm h).symm.trans j) h,d⟩
theorem Fv(v:Nat)(l:gA):(∀x∈Fu v l,ja x)/\(Fu v l).length<=60:=by
 unfold Fu;split
 ·rename_i h;obtain⟨a,b,_⟩:=oL h;refine⟨λx hx=> ?_,by grind [AS]⟩;exact Dx
 grind
theorem ajO:Le kH Fu:=by
 intro a b i j r g c;have l:=Fv a b;by_cases h:kH a b=0
 ·refine(aeM a i b j g c.1 c.2.1 h).mono ?_;rintro e q ⟨⟨p,rfl,f⟩,d⟩;rw[show qN a b (a-1)=Fu a b from(gl h).symm]at f;obtain⟨n,o,e⟩:=f.len;exact⟨p,by rw[h],vW _ _,λ_=>⟨f.sl Oa,l.1,by omega⟩,⟨n,_,o,e⟩,d⟩
 ·refine(Zt a i b j g c.1 c.2.1 h).mono ?_;rintro e q ⟨rfl,d⟩;exact⟨.slice none 0 0,rfl,vW _ _,λk=>absurd k h,⟨_,_,_,rfl⟩,d⟩
theorem I9(p:Int)(l m:gP):0<=m6 p l m/\m6 p l m<=6:=by
 grind [m6,nm]
def sF(a:Nat)(b c:gA)(d:Nat):Int:=if m6 a (gr b) (gr c)≠0 then m6 a (gr b) (gr c)else if 5000<d then 1 else 0
def N7(a:Nat)(b c:gA)(d:Nat):gP:=kE a (gr b) (gr c) d
theorem alH:ZH sF N7:=by
 intro ad af aq aX g h i w t b c v;have e:=re b.2.1;have f:=re c.2.1;have l:0<=sF ad af aq aX/\sF ad af aq aX<=6:=by
  have:=I9 ad (gr af) (gr aq)
  grind [sF]
 by_cases a:m6 ad (gr af) (gr aq)=0
 ·by_cases z:5000<aX
  ·have d:sF ad af aq aX=1:=(by unfold sF;omega);refine(Wk ad g h _ _ aX i b.1 c.1 e f a (.inr Oa)).mono ?_
   grind
  ·have d:sF ad af aq aX=0:=(by unfold sF;omega);by_cases o:1<=aX
   ·refine(aii ad g h _ _ aX i b.1 c.1 e f a o Oa).mono ?_;rintro j s ⟨⟨r,rfl,n⟩,k⟩;obtain⟨p,q,j⟩:=n.len;have y:(N7 ad af aq aX).length=aX:=kJ _ _ _ _;have ax:=wL a;refine⟨r,by rw[d],l,λ_=>⟨n.sl SB,?_,by omega⟩,⟨p,_,q,j⟩,k⟩;intro x cB;exact PG
   ·obtain rfl:aX=0:=(by omega);refine(ZN ad g h _ _ i b.1 c.1 e f a).mono ?_;rintro j s ⟨rfl,k⟩;exact⟨.slice none 0 0,by rw[d],l,λ_=>⟨Sl.nil' _ _,by simp[N7,kE],by simp[N7,kE]⟩,⟨_,_,_,rfl⟩,k⟩
 ·have d:sF ad af aq aX=m6 ad (gr af) (gr aq):=gl a;refine(Wj ad g h _ _ aX i b.1 c.1 e f a).mono ?_
  grind
theorem alx:Zy (λa=>(BB (gr a)).2) (λa=>(BB (gr a)).1):=by
 intro a v d f b;refine(V3 v (gr a) d b.1 (re b.2.1)).mono ?_;rintro e g ⟨rfl,c⟩;refine⟨rfl,?_,λ_=>trivial,c⟩
 dsimp only
 unfold BB
 repeat' split
 all_goals first|decide|(constructor<;>omega)
theorem agS(n:Nat):∀x∈qO n,0<=x:=λx a=>by
 unfold qO at a;split at a
 ·unfold jj at a
  grind
 ·cases a
theorem acz(n:Nat)(t I J:Value)(B:Nat)(w:World)(r:OI B w t (gr [n])):
 Calls prog 20 #[.string (gJ [114,117,108,101,114]),t,I,J] w (oE (if vp n=0 then ji (qO n)else iJ (vp n)) w):=by
 refine oE.in λA L g j=> ?_;have q:=I7 n;have G:=FN n
 have i:=gd (∀b,Calls prog 79 #[.int .i64 n] b λD a=>(∃(d:Option Addr)(f e:Nat),D= .returned (.tuple #[.slice d f e,.int .i64 (vp n)])/\Sl a (.slice d f e) (qO n))/\gm b a) (λb=>by
  by_cases h:1<=n/\n<=7
  ·rw[show vp n=0 from gl h];exact Wu n b h.1 h.2
  ·rw[show vp n=1 from gh h,show qO n=[]from gh h];refine(Ls n b h).mono ?_;rintro p a ⟨rfl,rfl⟩
   exact⟨⟨none,0,0,rfl,Sl.nil' _ _⟩,f0 _ _⟩)
 have l:=gb (λ(v:Value)(b:World)(h:Sl b v (qO n))=>lW v _ b h (λK H=>by have:=(agS n) K H;grind [ja]) Oa);have y:=gd (A=if vp n=0 then ji (qO n)else iJ (vp n)) g.out.symm;clear g G;obtain⟨F,M,rfl,k⟩:=r.nums (n:=1) rfl Oc;have z:=gd (∀a,gm w a->a.cell? ⟨F,0,none⟩=some (.int .i64 n)) (λa c=>k.out a c 0 Oc);clear r k;have c0:=z.out w (f0 _ _);generalize vp n=E at*;generalize qO n=X at*;have N:((gJ [114,117,108,101,114]).toList==[101,120,116,101,110,100])=false:=Ol;have O:((gJ [114,117,108,101,114]).toList==[108,101,118,101,108])=false:=Ol;have P:((gJ [114,117,108,101,114]).toList==[116,114,105,112,108,101,115])=false:=Ol;have Q:((gJ [114,117,108,101,114]).toList==[100,105,102,102,101,114])=false:=Ol;generalize gJ [114,117,108,101,114]=R at*;go_enter func20,ntmps20;go_wp2_with fail;refine(i.out _).mono ?_;rintro p x ⟨⟨d,f,e,rfl,s⟩,c⟩;have C:=gb (l.out _ x s);have o:=gb (j.out (ji X) E x c q y.out);clear s c l i j q c0;go_wp2_with fail;refine C.out.mono ?_;rintro p S ⟨rfl,rfl⟩;go_wp2
 first|exact o.out|(go_ret2;exact o.out)
theorem Xy(n:Nat)(l:gA)(nv lv rv:Value)(B aq:Nat)(w:World)(hn:OI B w nv (gr [n]))(hl:OL B aq w lv ([l].map gr))(j:l.length<=10001):
 Calls prog 20 #[.string (gJ [100,105,102,102,101,114]),nv,lv,rv] w (oE (if qp n l=0 then(if kH n l=0 then Lib.itoa (sC n l)++32::ji (Fu n l)else iJ (kH n l))else iJ (qp n l)) w):=by
 refine oE.in λA aM o d=> ?_;have ab:=vW n l;have av:=Az n l;have ax:(gr l).length=l.length:=Uy;obtain⟨i,aa,rfl,Z⟩:=hn.nums (n:=1) rfl Oc;have bv:=gd (∀V,gm w V->V.cell? ⟨i,0,none⟩=some (.int .i64 n)) (λV J=>Z.out V J 0 Oc);clear hn Z;obtain⟨g,cl,rfl,X⟩:=hl.lists (n:=1) rfl Oc;obtain⟨u0,ai⟩:=X.out 0 Oc;have p:=gd (∀V,gm w V->V.cell? ⟨g,0,none⟩=some u0/\OI B V u0 (gr l)) ai;clear hl X ai;have q:=gd (∀V,gm w V->Sl V u0 (jj l)) (λV J=>(p.out V J).2.sl Oa);have U:=gb (λa (J:gm w a)=>Ci n u0 l a (q.out a J));have E:=gb (λ(h:kH n l=0) a (J:gm w a)=>FJ n u0 l a (q.out a J) h);have F:=gb (λ(h:kH n l=0) a (J:gm w a)=>XG n u0 l a (q.out a J) h)
 have al:=gd (kH n l≠0->A=iJ (kH n l)) (λh=>by
  have:=wm h
  rw[<-o.out,gh Oa,this])
 have y:=gd (kH n l=0->qp n l≠0->A=iJ (qp n l)) (λ_ h=>by rw[<-o.out,gh h])
 have s:=gd (kH n l=0->qp n l=0->A=Lib.itoa (sC n l)++32::ji (qN n l (n-1))) (λh h2=>by
  have e:Fu n l=qN n l (n-1):=gl h
  rw[<-o.out,gl h2,gl h,e])
 have I:=gd (kH n l=0->0<=sC n l/\ja (sC n l)) (λh=>⟨by grind [sC],Fh n l h⟩)
 have L:=gd (kH n l=0->BQ (qN n l (n-1))/\(qN n l (n-1)).length<=60) (λh=>by
  have J:=Fv n l;have e:Fu n l=qN n l (n-1):=gl h;rw[e]at J;refine⟨λaL hx=> ?_,J.2⟩;have h1:=J.1 aL hx
  exact Dx)
 clear o ax q;have c0:=bv.out w (f0 _ _);have au:=(p.out w (f0 _ _)).1;generalize kH n l=D at*;generalize qp n l=ae at*;generalize sC n l=am at*;generalize qN n l (n-1)=Y at*;have q0:((gJ [100,105,102,102,101,114]).toList==[101,120,116,101,110,100])=false:=Ol;have q1:((gJ [100,105,102,102,101,114]).toList==[108,101,118,101,108])=false:=Ol;have q2:((gJ [100,105,102,102,101,114]).toList==[116,114,105,112,108,101,115])=false:=Ol;have q3:((gJ [100,105,102,102,101,114]).toList==[100,105,102,102,101,114])=true:=Ol;generalize gJ [100,105,102,102,101,114]=aQ at*;go_enter func20,ntmps20;go_wp2_with fail;go_still_tail 6,Ob;go_wp2_with fail;refine(U.out _ ((f0 _ _).drew)).mono ?_;rintro e aj ⟨rfl,m,bF⟩;have ah:gm w aj:=DI;have T:=gb ah;clear c0 au ah bF U;by_cases j:D=0
 ·subst j;have W:=gb (E.out rfl);have G:=gb (F.out rfl);have z:=gb (y.out rfl);have t:=gb (s.out rfl);have k:=I.out rfl;have Q:=L.out rfl;clear E F y s I L;go_wp2_with fail;have ao:=gd (∀V,gm w V->V.cell? ⟨g,0,none⟩=some u0) (λV J=>(p.out V J).1);refine ky [131,132,133,134,135,136,137,130,138,139,25,24] [λv _=>v= .slice (some ⟨i,0,none⟩) 1 aa,λv _=>v= .pointer (some ⟨i,0,none⟩),λv _=>v= .int .i64 (n:Int),λv _=>v= .slice (some ⟨g,0,none⟩) 1 cl,λv _=>v= .pointer (some ⟨g,0,none⟩),λv _=>v=u0,λv _=>v= .tuple #[.int .i64 am,.int .i64 ae],λv _=>v= .tuple #[.int .i64 am,.int .i64 ae],λv _=>v= .int .i64 am,λv _=>v= .int .i64 ae,λv _=>v= .int .i64 am,λv _=>v= .int .i64 ae] (λV=>gm w V) (λa aj=>gm a aj) (100,0) Ob Ob rfl ⟨g5 _,g5 _,g5 _,g5 _,g5 _,g5 _,g5 _,g5 _,g5 _,g5 _,g5 _,g5 _,trivial⟩ (T.out.drew) ⟨?_,?_,?_,?_,?_,?_,?_,?_,?_,?_,?_,?_,trivial⟩ ?_
  ·exact KG
  ·intro O V K J hf hd hK;have h3:O.tmps[131]?.getD undef= .slice (some ⟨i,0,none⟩) 1 aa:=iW (hd 0 Oc Ob rfl);exact QZ
  ·intro O V K J hf hd hK;have h3:O.tmps[132]?.getD undef= .pointer (some ⟨i,0,none⟩):=iW (hd 1 Oc Ob rfl);exact Rz
  ·exact P9
  ·intro O V K J hf hd hK;have h3:O.tmps[134]?.getD undef= .slice (some ⟨g,0,none⟩) 1 cl:=iW (hd 3 Oc Ob rfl);exact QZ
  ·intro O V K J hf hd hK;have h3:O.tmps[135]?.getD undef= .pointer (some ⟨g,0,none⟩):=iW (hd 4 Oc Ob rfl);have aV:=ao.out V J;exact QZ
  ·intro O V K J hf hd hK;have aO:O.eval (.tmp 133)= .int .i64 (n:Int):=hd 2 Oc Ob rfl;have aP:O.eval (.tmp 136)=u0:=hd 5 Oc Ob rfl;refine nf _ _ _ #[.int .i64 (n:Int),u0] rfl (by grind) _ func77 Ob Ob ?_;refine(W.out V J).mono ?_;exact KL
  ·exact KS
  ·exact Q8
  ·exact Q8
  ·exact Q4
  ·exact Q7
  rintro aR R ⟨aB,aC,aD,aE,aF,ak,aG,aH,aI,aJ,N,P,_⟩ af ay;clear aB aC aD aE aF ak aG aH aI aJ;simp only[Nat.reduceAdd]at N P;simp only[j7,Act.put,gU,io,iC,Nat.reduceAdd];rw[N,P];have c:=gb af;clear N P af ay W;by_cases r:ae=0
  ·subst r;have x:=gb (t.out rfl);clear z t;have aw:=mf k.2;have az:(ji Y).length<=2000:=by
    grind [ji,tu]
   have d0:=bv.out R c.out;have aN:=(p.out R c.out).1;have C:=gb (λa=>nK am k.1 k.2 a);have M:=gb (λ(v:Value)(B:Nat)(a:World)(ho:OI B a v Y)=>lW v _ a (ho.sl Oa) Q.1 Oa);obtain⟨b,ac⟩:∃b,Lib.itoa am=b:=⟨_,rfl⟩;obtain⟨f,ad⟩:∃f,ji Y=f:=⟨_,rfl⟩;rw[ac]at x C aw;rw[ad]at x M az;have z1:=iw b;have z2:=iw f;have z3:=iw (b++[32]);rw[gz,jQ]at z3;have et:=gd (gJ b++(⟨#[32]⟩:ByteArray)=gJ (b++[32])) Uj;have db:=gd (gJ (b++[32])++gJ f=gJ (b++32::f)) Do;clear ac ad k Q;generalize gJ b=s1 at*;generalize gJ f=s2 at*;generalize gJ (b++[32])=s3 at*;go_wp2_with fail;go_still_tail 6,Ob;go_wp2_with fail;refine(G.out _ (c.out.drew)).mono ?_;rintro e S ⟨⟨aK,rfl,hr⟩,ag⟩;have ap:=gb (M.out aK _ S hr);have an:=gb (C.out S);have bo:=gb (d.out _ 0 S ((c.out.drew).trans (ag.mono c.out.size)) Oc x.out);clear hr ag M C d G;go_wp2_with fail;refine an.out.mono ?_;rintro e w8 ⟨rfl,aA⟩;subst aA;go_wp2_with fail;refine ap.out.mono ?_;rintro e w9 ⟨rfl,rfl⟩;exact P7
  ·have ak:(ae !=0)=true:=iT.2 r;have bo:=gb (d.out [] ae R c.out av ((z.out r).trans (gh r).symm));clear d z t G k Q;exact Ot
 ·have hz:(D !=0)=true:=iT.2 j;have bo:=gb (d.out [] D aj T.out ab ((al.out j).trans (gh j).symm));clear d E F ab I L y s;exact Ot
theorem act(n:Int)(l:gP):0<=ri n l/\ri n l<=6:=by
 have:=A4 l
 grind [ri]
theorem Aj(n:Int):∀a:lO,0<=mo n a/\mo n a<=6
 |[]=>by grind [mo]
 |l::ls=>by
  have b:=act n l;have c:=Aj n ls
  grind [mo]
theorem Ao(n:Int)(ll:lO):0<=lF n ll/\lF n ll<=6:=by
 have:=Aj n ll
 grind [lF]
theorem Nj{n:Int}{ll:lO}(h:lF n ll=0):1<=n/\n<=7:=by
 grind [lF]
noncomputable def NT(a:Nat)(b:kl):Int:=if lF a (b.map gr)=0 then((GL a (qd a (b.map gr))).length:Nat)else 0
theorem aja:∀n,n<=7->lL n<=5040:=Oc
theorem alF:ZF (λad af=>lF ad (af.map gr)) NT:=by
 intro ad af d e j i c;by_cases a:lF ad (af.map gr)=0
 ·refine(acW ad d (af.map gr) e c.1 a).mono ?_;rintro f g ⟨rfl,b⟩;have hx:NT ad af=((GL ad (qd ad (af.map gr))).length:Nat):=gl a;have k:=Nj a;refine⟨by grind,Ao _ _,λ_=> ?_,b⟩;exact UQ
 ·refine(XO ad d (af.map gr) e c.1 a).mono ?_;rintro f g ⟨rfl,b⟩;have hx:NT ad af=0:=gh a;exact⟨by rw[hx],Ao _ _,λh=>absurd h a,b⟩
theorem zq{P:Nat}{bs:kl}{t:Nat}(h:rC P bs≠0):uD P bs t=rC P bs:=QR
theorem Fl{P:Nat}{bs:kl}{t:Nat}(h:rC P bs=0)(a:4<t\/P<t):uD P bs t=1:=QR
theorem Ix{P:Nat}{bs:kl}{t:Nat}(h:rC P bs=0)(a:¬(4<t\/P<t))(b:bs.length=0):uD P bs t=4:=QR
theorem ach{P:Nat}{bs:kl}{t:Nat}(h:rC P bs=0)(b:¬(4<t\/P<t))(c:¬bs.length=0)(a:oF P t bs):uD P bs t=4:=by
 unfold uD;rw[gh Oa,gh b,gh c];rcases a with a|a
 ·grind
 grind
theorem aci{P:Nat}{bs:kl}{t:Nat}(h:rC P bs=0)(b:¬(4<t\/P<t))(c:¬bs.length=0)(a:¬oF P t bs):uD P bs t=0:=by
 unfold uD;rw[gh Oa,gh b,gh c,gh (λh=>a (.inl h)),gl (gx λh=>a (.inr h))]
theorem ND(P:Nat)(bs:kl)(t:Nat):0<=uD P bs t/\uD P bs t<=6:=by
 have:=TJ P bs
 grind [uD]
theorem af3(all L:gA): -1<=nR all L/\nR all L<=all.length:=by
 grind [nR,xI]
theorem Fm{P:Nat}{bs:kl}{t:Nat}(h:uD P bs t≠0):qb P bs t=0/\pu P bs t=0:=by
 unfold qb pu;exact Oa
theorem LS{P:Nat}{l:gA}(h:kc l=true)(c:∀x∈l,x<P):l.length<=P:=by
 rcases jz l.length with a|a
 ·exact Oa
 ·have b:=xo h (l.length-1) Oa
  grind [List.getElem_mem]
theorem NE{P:Nat}{bs:kl}{t:Nat}(h:uD P bs t=0):(0<=qb P bs t/\qb P bs t<=40)/\(-1<=pu P bs t/\pu P bs t<=200):=by
 have b:rC P bs=0:=gx λa=>a (by grind [zq]);obtain⟨_,g,i,d⟩:=vY b;unfold qb pu;rw[gl h,gl h];refine⟨⟨Int.natCast_nonneg _,?_⟩,?_⟩
 ·have:Iy bs<=P:=by
   unfold Iy;rw[gc];cases e:bs[0]? with
   |none=>simp
   |some f=>
    obtain⟨c,rfl⟩:=lP.1 e;have:=d _ (iH c);exact LS this.2 this.1
  exact Oa
 ·have:=af3 (o5 bs) (oz P t 0 0)
  grind [o5]
theorem alC:ZD uD qb pu:=by
 intro a b c f d A k i r;obtain⟨j,s⟩:=i;have j:RL d f (b.map jj):=j;have w:uD a b c=0->ja (qb a b c)/\ja (pu a b c):=λy=>by
  obtain⟨⟨E,F⟩,G,I⟩:=NE y
  grind [ja]
 have n:∀z:Int,uD a b c=z->z≠0->Calls prog 119 #[.agg #[.int .i64 a,f],.int .i64 c] d (λg h=>g= .returned (.tuple #[.int .i64 0,.int .i64 0,.int .i64 z])/\gm d h)->Calls prog 119 #[.agg #[.int .i64 a,f],.int .i64 c] d λg h=>g= .returned (.tuple #[.int .i64 (qb a b c),.int .i64 (pu a b c),.int .i64 (uD a b c)])/\(0<=uD a b c/\uD a b c<=6)/\(uD a b c=0->ja (qb a b c)/\ja (pu a b c))/\gm d h:=by
  intro z C D H;refine H.mono ?_;rintro g h ⟨rfl,l⟩;have:=Fm (P:=a) (bs:=b) (t:=c) Oa;exact⟨by grind,ND _ _ _,w,l⟩
 by_cases e:rC a b=0
 ·by_cases i:4<c\/a<c
  ·exact n 1 (Fl e i) Oc (Wa a c f b d k r j s e i)
  ·by_cases p:b.length=0
   ·obtain rfl:b=[]:=iX p;exact n 4 (Ix e i p) Oc (J7 a c f d k r j e Oa Oa)
   ·have H:Calls prog 119 #[.agg #[.int .i64 a,f],.int .i64 c] d λg h=>qL a c b g/\gm d h:=by
     cases v:(b.any λx=>decide (x.length≠Iy b))with
     |true=>exact Ey a c f b d k j e Oa Oa Oa v
     |false=>exact J6 a c f b d k j e Oa Oa Oa v
    by_cases o:oF a c b
    ·refine n 4 (ach e i p o) Oc (H.mono ?_);rintro g h ⟨q,l⟩;exact⟨q.1 o,l⟩
    ·refine H.mono ?_;rintro g h ⟨q,l⟩;have B:=aci e i p o;refine⟨?_,ND _ _ _,w,l⟩;rw[q.2 o];unfold qb pu
     grind
 ·exact n _ (zq e) e (JY a c f b d k j s e)
section
def FAl(W:World)(v:Value)(w:World):Prop:=∃(b:Nat)(a:np),v= .pointer (some ⟨b,0,none⟩)/\W.heap.size<=b/\hU w b 60 a/\a.length=3
def FSt(W:World)(p k:Int)(X:gP)(v:Value)(w:World):Prop:=∃(b:Nat)(a:Value),v= .pointer (some ⟨b,0,none⟩)/\W.heap.size<=b/\hU w b 60 [.int .i64 p,.int .i64 k,a]/\OI W.heap.size w a X
def FT(W:World)(p k:Int)(X:gP)(c a:World):Prop:=gm c a\/∃(b:Nat)(d:Value)(e:np),W.heap.size<=b/\hU c b 60 e/\c.grownBy a (some b)/\hU a b 60 [.int .i64 p,.int .i64 k,d]/\OI W.heap.size a d X
section
variable {W w1 w2:World} {p k:Int} {X l:gP} {v:Value} {B:Nat}
theorem FT.oi(t:FT W p k X w1 w2)(h:OI B w1 v l):OI B w2 v l:=by
 rcases t with b|⟨d,e,f,_,a,c,_,_⟩
 ·exact h.below b
 ·exact Ow.keptK h a Oc c
theorem FT.al(t:FT W p k X w1 w2)(h:FAl W v w1):FAl W v w2:=by
 obtain⟨b,f,e,a,c,d⟩:=h;rcases t with j|⟨g,q,r,_,o,n,i,_⟩
 ·exact⟨b,f,e,a,c.below j,d⟩
 ·by_cases l:b=g
  ·subst l;exact⟨b,_,e,a,i,rfl⟩
  ·exact⟨b,f,e,a,c.kept n (by grind),d⟩
theorem FT.st(t:FT W p k X w1 w2)(h:FSt W p k X v w1):FSt W p k X v w2:=by
 obtain⟨b,f,e,a,c,i⟩:=h;have d:=t.oi i;rcases t with l|⟨g,s,w,_,r,o,j,q⟩
 ·exact⟨b,f,e,a,c.below l,d⟩
 ·by_cases n:b=g
  ·subst n;exact⟨b,_,e,a,j,q⟩
  ·exact⟨b,f,e,a,c.kept o (by grind),d⟩
end
theorem F6{P:Program}{c:Oper}{a:Act}{w:World}{K:Act->World->Prop}{Q:Exit->Act->World->Prop}(d:TypeId)(x y:Operand)(g:c.op= .store d x y)
 (b:Nat) (dU:np) (i:a.eval x= .pointer (some ⟨b,0,none⟩)) (j:a.eval y= .agg dU.toArray) {t:TypeId} {xs:np} (hA:hU w b t xs) (hl:xs.length=dU.length)
 (hi:(P.info? d).map (·.size)=some dU.length) (f:dU.toArray.all (·.oneCell')=true)
 (h:∀e,hU e b t dU->w.grownBy e (some b)->K (a.put c.dst undef) e):c.wp P a w K Q:=by
 refine ahZ d x y g b 0 dU.toArray i j ?_ Oa f ?_
 ·have:=hA.there
  grind
 ·exact Dd
theorem acf{P K:Nat}(h:kI P K=0):jp P K≠0:=λa=>by
 have:kI P K=1:=gl a;exact Oa
theorem AC(P K:Nat)(w:World)(f:P<1000000000)(g:K<1000000000):Calls prog 55 #[.int .i64 P,.int .i64 K] w λe V=>(∃c,e= .returned (.tuple #[kq (if kI P K=0 then P else 0:Nat) (if kI P K=0 then K else 0:Nat) c,.int .i64 (kI P K)])/\OI w.heap.size V c (if kI P K=0 then mZ P K else[]))/\gm w V:=by
 by_cases h:jp P K=0
 ·have a:kI P K=1:=gl h;rw[a,gh Oc,gh Oc,gh Oc];refine(zM P K w (by grind [ja]) (by grind [ja]) h).mono ?_;exact D0
 ·have a:kI P K=0:=gh h;rw[a,gl rfl,gl rfl,gl rfl];obtain⟨b,d⟩:=NC h;exact BL P K (p9 P K) w h (by rw[b.ord];exact b.nq) b.ir d
theorem acg{P K:Nat}(h:kI P K=0):(∀x∈mZ P K,0<=x/\x<100)/\(mZ P K).length<=6/\mZ P K=nZ (jo P (p9 P K) K)/\(jo P (p9 P K) K).length=K/\(∀j,(jo P (p9 P K) K).getD j 0<P)/\jp P K=P^K/\2<=P/\P<=61/\1<=K/\K<=6/\P^K<=64:=by
 obtain⟨g,_⟩:=NC (acf h);have a:∀j,(jo P (p9 P K) K).getD j 0<P:=λj=>ph (P:=P) (n:=p9 P K) (by have:=g.p2;omega) K j;refine⟨λx c=> ?_,by rw[mZ,nZ,gv,kg];exact g.k6,rfl,kg _ _ _,a,g.ord,g.p2,g.p61,g.k1,g.k6,g.q64⟩;obtain⟨y,d,rfl⟩:=gK.1 c;obtain⟨i,b,rfl⟩:=je d;have:=a i;rw[gc,gn b,iQ]at this;have:=g.p61;exact Oa
theorem wP{P K x y:Nat}(h:kI P K=0):
 (pg (jp P K) x=true\/pg (jp P K) y=true->x2 P K (mZ P K) [(x:Int),(y:Int)]=1)/\
 (pg (jp P K) x=false->pg (jp P K) y=false->x2 P K (mZ P K) [(x:Int),(y:Int)]=0/\x<P^K/\y<P^K/\AU P K (mZ P K) x y=(sH P K (jo P (p9 P K) K) x y:Nat)/\sH P K (jo P (p9 P K) K) x y<64):=by
 obtain⟨g,_⟩:=NC (acf h);have i:th P K (mZ P K)=0:=g.fa;refine⟨λj=> ?_,λd e=> ?_⟩
 ·unfold x2
  grind
 ·have c:x2 P K (mZ P K) [(x:Int),(y:Int)]=0:=by
   unfold x2
   grind
  have a:x<P^K:=by
   simp only[pg,yN,kw]at d;rw[g.ord]at d;exact Oa
  have b:y<P^K:=by
   simp only[pg,yN,kw]at e;rw[g.ord]at e;exact Oa
  refine⟨c,a,b,?_,by rw[g.tm a b];have:=Fw (P:=P) (K:=K) g.p2 g.k6 (jo P (p9 P K) K) x y;have:=g.q64;omega⟩;unfold AU;rw[gl c,g.tm a b];have:pD (mZ P K)=jo P (p9 P K) K:=by
   unfold pD mZ nZ;rw[jL];exact(jn λf _=>iZ f).trans (J9 _)
  grind
theorem acb(P D:Nat)(G lv rv:Value)(B:Nat)(w:World)(z:OI B w G (gr [P,D]))(o:P<1000000000)(p:D<1000000000):
 Calls prog 19 #[.string (gJ [102,105,101,108,100]),G,lv,rv] w (oE (if kI P D=0 then ji (mZ P D)else iJ (kI P D)) w):=by
 refine oE.in λM al j k=> ?_;have r:0<=kI P D/\kI P D<=6:=by
  grind [kI]
 have eo:(prog.info? 60).map (·.size)=some 3:=Ob;have HF:=gb (λ(a:World)(J:gm w a)=>AC P D a o p)
 have f:=gd (BQ (if kI P D=0 then mZ P D else[])/\(if kI P D=0 then mZ P D else[]).length<=6) (by
  by_cases h:kI P D=0
  ·rw[gl h];obtain⟨g1,T,_⟩:=acg h;exact⟨λak hx=>by grind,T⟩
  ·rw[gh h]
   exact⟨λak hx=>(by cases hx),by decide⟩)
 have N:=gd (M=if kI P D=0 then ji (if kI P D=0 then mZ P D else[])else iJ (kI P D)) (by
  rw[<-j.out]
  grind)
 clear j o p;obtain⟨g,c,rfl,d⟩:=z.nums (n:=2) rfl Oc;have Q:=gd (∀V,gm w V->V.cell? ⟨g,0,none⟩=some (.int .i64 P)) (λV J=>d.out V J 0 Oc);have R:=gd (∀V,gm w V->V.cell? ⟨g,1,none⟩=some (.int .i64 D)) (λV J=>d.out V J 1 Oc);clear z d;generalize (if kI P D=0 then mZ P D else[])=am at*;generalize (if kI P D=0 then P else 0:Nat)=p0 at*;generalize (if kI P D=0 then D else 0:Nat)=k0 at*;generalize kI P D=E at*;generalize (p0:Int)=PP at*;generalize (k0:Int)=KK at*;have q0:((gJ [102,105,101,108,100]).toList==[102,105,101,108,100])=true:=Ol;generalize gJ [102,105,101,108,100]=aq at*;go_enter func19,ntmps19;go_wp2_with fail;refine ky [40,41,42,43,44,45,46,39,47,48,10,999,11] [λv _=>v= .slice (some ⟨g,0,none⟩) 2 c,λv _=>v= .pointer (some ⟨g,0,none⟩),λv _=>v= .int .i64 (P:Int),λv _=>v= .slice (some ⟨g,0,none⟩) 2 c,λv _=>v= .pointer (some ⟨g,1,none⟩),λv _=>v= .int .i64 (D:Int),λv V=>∃ag,v= .tuple #[kq PP KK ag,.int .i64 E]/\OI w.heap.size V ag am,λv V=>∃ag,v= .tuple #[kq PP KK ag,.int .i64 E]/\OI w.heap.size V ag am,λv V=>∃ag,v=kq PP KK ag/\OI w.heap.size V ag am,λv _=>v= .int .i64 E,FAl w,FSt w PP KK am,λv _=>v= .int .i64 E] (λV=>gm w V) (FT w PP KK am) (11,10) Ob Ob rfl ⟨g5 _,g5 _,g5 _,g5 _,g5 _,g5 _,λv a aj h _ _ t=>h.elim λag h=>⟨ag,h.1,t.oi h.2⟩,λv a aj h _ _ t=>h.elim λag h=>⟨ag,h.1,t.oi h.2⟩,λv a aj h _ _ t=>h.elim λag h=>⟨ag,h.1,t.oi h.2⟩,g5 _,λv a aj h _ _ t=>t.al h,λv a aj h _ _ t=>t.st h,g5 _,trivial⟩ ((f0 _ _).drew) ⟨?_,?_,?_,?_,?_,?_,?_,?_,?_,?_,?_,?_,?_,trivial⟩ ?_
 ·exact KU
 ·intro O V K J hf hd hK;have h3:O.tmps[40]?.getD undef= .slice (some ⟨g,0,none⟩) 2 c:=iW (hd 0 Oc Ob rfl);exact Rf
 ·intro O V K J hf hd hK;have h3:O.tmps[41]?.getD undef= .pointer (some ⟨g,0,none⟩):=iW (hd 1 Oc Ob rfl);have U:=Q.out V J;exact Rf
 ·exact KU
 ·intro O V K J hf hd hK;have h3:O.tmps[43]?.getD undef= .slice (some ⟨g,0,none⟩) 2 c:=iW (hd 3 Oc Ob rfl);exact Rf
 ·intro O V K J hf hd hK;have h3:O.tmps[44]?.getD undef= .pointer (some ⟨g,1,none⟩):=iW (hd 4 Oc Ob rfl);have U:=R.out V J;exact Rf
 ·intro O V K J hf hd hK;have an:O.eval (.tmp 42)= .int .i64 (P:Int):=hd 2 Oc Ob rfl;have ao:O.eval (.tmp 45)= .int .i64 (D:Int):=hd 5 Oc Ob rfl;exact KZ
 ·exact PH
 ·intro O V K J hf hd hK;have h3:=hd 7 Oc Ob rfl;obtain⟨ag,h3,hu⟩:=h3;have h4:O.tmps[39]?.getD undef= .tuple #[kq PP KK ag,.int .i64 E]:=iW h3;exact PW
 ·intro O V K J hf hd hK;have h3:=hd 7 Oc Ob rfl;obtain⟨ag,h3,hu⟩:=h3;have h4:O.tmps[39]?.getD undef= .tuple #[kq PP KK ag,.int .i64 E]:=iW h3;clear hf hd h3;exact KJ
 ·exact Pj
 ·exact KT
 ·exact PE
 rintro L aj ⟨W,X,Z,aa,ab,ac,ad,ae,ah,ai,Y,A,i,_⟩ s x;clear W X Z aa ab ac ad ae ah ai Y;simp only[Nat.reduceAdd]at A i;simp only[j7,Act.put,gU,io,iC,Nat.reduceAdd];have y:L 11=L 10:=x Oc;obtain⟨b,ag,F,bJ,q,hu⟩:=A;have C:=y.symm.trans F;rw[C,i];clear x y F C i;obtain⟨H,I,rfl⟩:=hu.len;have ap:aj.cell? ⟨b,2,none⟩=some (.slice H am.length I):=q.cell 2;have S:=gb (lW (.slice H am.length I) am aj (hu.sl (by have:=f.out.2;omega)) f.out.1 (by have:=f.out.2;omega));have l:=gb (k.out (ji am) E aj s r N.out);clear hu q s HF k r;go_wp2_with fail;refine S.out.mono ?_;rintro e w9 ⟨rfl,rfl⟩;go_wp2
 first|exact l.out|(go_ret2;exact l.out)
theorem ace(P D x y:Nat)(nv lv rv:Value)(B:Nat)(w:World)(hn:OI B w nv (gr [P,D,x,y]))(j:P<1000000000)(h1:D<1000000000)(h2:x<1000000000)(h3:y<1000000000):
 Calls prog 19 #[.string (gJ [116,105,109,101,115]),nv,lv,rv] w (oE (if kI P D=0 then(if x2 P D (mZ P D) [(x:Int),(y:Int)]=0 then Lib.itoa (AU P D (mZ P D) x y)else iJ (x2 P D (mZ P D) [(x:Int),(y:Int)]))else iJ (kI P D)) w):=by
 refine oE.in λR aM H i=> ?_;have hE:0<=kI P D/\kI P D<=6:=by
  grind [kI]
 have eo:(prog.info? 60).map (·.size)=some 3:=Ob;have HF:=gb (λ(a:World)(J:gm w a)=>AC P D a j h1);have ah:=gd (kI P D≠0->R=iJ (kI P D)) (λh=>by rw[<-H.out,gh h])
 have ae:=gd (kI P D=0->pg (jp P D) x=true\/pg (jp P D) y=true->R=iJ 1) (λh Z=>by
  have:=(wP h).1 Z;rw[<-H.out,gl h,this]
  rfl)
 have ad:=gd (kI P D=0->pg (jp P D) x=false->pg (jp P D) y=false->R=Lib.itoa (sH P D (jo P (p9 P D) D) x y:Nat)) (λh hx o=>by
  have:=(wP h).2 hx o
  rw[<-H.out,gl h,gl this.1,this.2.2.2.1])
 have L:=gd (∀(G:Nat)(ag:Value)(W a:World),G<1000000000->kI P D=0->OI W.heap.size a ag (mZ P D)->Calls prog 57 #[kq P D ag,.int .i64 G] a λe V=>e= .returned (.bool (!(pg (jp P D) G)))/\gm a V) (λG ag W a Z h hu=>ah8 P D G ag (mZ P D) a (by grind [ja]) (by grind [ja]) (by grind [ja]) (hu.sl (by grind [acg])))
 have S:=gd (∀(ag:Value)(W a:World),kI P D=0->pg (jp P D) x=false->pg (jp P D) y=false->OI W.heap.size a ag (mZ P D)->Calls prog 58 #[kq P D ag,.int .i64 x,.int .i64 y] a λe V=>e= .returned (.int .i64 (sH P D (jo P (p9 P D) D) x y:Nat))/\gm a V) (λag W a h hx o hu=>by
  obtain⟨_,l2,l3,l4,l5,l6,l7,l8,l9,l10,aL⟩:=acg h;obtain⟨_,t2,t3,_,_⟩:=(wP h).2 hx o;have C:=hu.sl Oa;rw[l3]at C
  exact ZQ P D x y ag _ a C l7 Oa l9 l10 aL l4 l5 Oa Oa)
 have aw:=gd (kI P D=0->pg (jp P D) x=false->pg (jp P D) y=false->sH P D (jo P (p9 P D) D) x y<64) (λh hx o=>((wP h).2 hx o).2.2.2.2);have aq:=gd (kI P D=0->((if kI P D=0 then P else 0:Nat):Int)=P/\((if kI P D=0 then D else 0:Nat):Int)=D/\(if kI P D=0 then mZ P D else[])=mZ P D) (λh=>by grind);clear H j h1;obtain⟨g,d,rfl,A⟩:=hn.nums (n:=4) rfl Oc;have ak:=gd (∀V,gm w V->V.cell? ⟨g,0,none⟩=some (.int .i64 P)) (λV J=>A.out V J 0 Oc);have al:=gd (∀V,gm w V->V.cell? ⟨g,1,none⟩=some (.int .i64 D)) (λV J=>A.out V J 1 Oc);have an:=gd (∀V,gm w V->V.cell? ⟨g,2,none⟩=some (.int .i64 x)) (λV J=>A.out V J 2 Oc);have ao:=gd (∀V,gm w V->V.cell? ⟨g,3,none⟩=some (.int .i64 y)) (λV J=>A.out V J 3 Oc);clear hn A;generalize hX:(if kI P D=0 then mZ P D else[])=am at*;generalize ((if kI P D=0 then P else 0:Nat):Int)=PP at*;generalize ((if kI P D=0 then D else 0:Nat):Int)=KK at*;clear hX;generalize mZ P D=X0 at*;generalize kI P D=E at*;generalize sH P D (jo P (p9 P D) D) x y=t at*;generalize jp P D=Q at*;have q0:((gJ [116,105,109,101,115]).toList==[102,105,101,108,100])=false:=Ol;have q1:((gJ [116,105,109,101,115]).toList==[116,105,109,101,115])=true:=Ol;generalize gJ [116,105,109,101,115]=aO at*;go_enter func19,ntmps19;go_wp2_with fail;refine ky [57,58,59,60,61,62,63,56,64,65,13,999,14] [λv _=>v= .slice (some ⟨g,0,none⟩) 4 d,λv _=>v= .pointer (some ⟨g,0,none⟩),λv _=>v= .int .i64 (P:Int),λv _=>v= .slice (some ⟨g,0,none⟩) 4 d,λv _=>v= .pointer (some ⟨g,1,none⟩),λv _=>v= .int .i64 (D:Int),λv V=>∃ag,v= .tuple #[kq PP KK ag,.int .i64 E]/\OI w.heap.size V ag am,λv V=>∃ag,v= .tuple #[kq PP KK ag,.int .i64 E]/\OI w.heap.size V ag am,λv V=>∃ag,v=kq PP KK ag/\OI w.heap.size V ag am,λv _=>v= .int .i64 E,FAl w,FSt w PP KK am,λv _=>v= .int .i64 E] (λV=>gm w V) (FT w PP KK am) (11,10) Ob Ob rfl ⟨g5 _,g5 _,g5 _,g5 _,g5 _,g5 _,λv a aj h _ _ t=>h.elim λag h=>⟨ag,h.1,t.oi h.2⟩,λv a aj h _ _ t=>h.elim λag h=>⟨ag,h.1,t.oi h.2⟩,λv a aj h _ _ t=>h.elim λag h=>⟨ag,h.1,t.oi h.2⟩,g5 _,λv a aj h _ _ t=>t.al h,λv a aj h _ _ t=>t.st h,g5 _,trivial⟩ ((f0 _ _).drew) ⟨?_,?_,?_,?_,?_,?_,?_,?_,?_,?_,?_,?_,?_,trivial⟩ ?_
 ·exact KU
 ·intro O V K J hf hd hK;have h3:O.tmps[57]?.getD undef= .slice (some ⟨g,0,none⟩) 4 d:=iW (hd 0 Oc Ob rfl);exact Rf
 ·intro O V K J hf hd hK;have h3:O.tmps[58]?.getD undef= .pointer (some ⟨g,0,none⟩):=iW (hd 1 Oc Ob rfl);have aV:=ak.out V J;exact Rf
 ·exact KU
 ·intro O V K J hf hd hK;have h3:O.tmps[60]?.getD undef= .slice (some ⟨g,0,none⟩) 4 d:=iW (hd 3 Oc Ob rfl);exact Rf
 ·intro O V K J hf hd hK;have h3:O.tmps[61]?.getD undef= .pointer (some ⟨g,1,none⟩):=iW (hd 4 Oc Ob rfl);have aV:=al.out V J;exact Rf
 ·intro O V K J hf hd hK;have T:O.eval (.tmp 59)= .int .i64 (P:Int):=hd 2 Oc Ob rfl;have U:O.eval (.tmp 62)= .int .i64 (D:Int):=hd 5 Oc Ob rfl;exact KZ
 ·exact PH
 ·intro O V K J hf hd hK;have h3:=hd 7 Oc Ob rfl;obtain⟨ag,h3,hu⟩:=h3;have h4:O.tmps[56]?.getD undef= .tuple #[kq PP KK ag,.int .i64 E]:=iW h3;exact PW
 ·intro O V K J hf hd hK;have h3:=hd 7 Oc Ob rfl;obtain⟨ag,h3,hu⟩:=h3;have h4:O.tmps[56]?.getD undef= .tuple #[kq PP KK ag,.int .i64 E]:=iW h3;clear hf hd h3;exact KJ
 ·exact Pj
 ·exact KT
 ·exact PE
 rintro F aj ⟨l,p,q,r,s,aa,ab,ac,aJ,aK,aI,C,c,_⟩ az k;clear l p q r s aa ab ac aJ aK aI;simp only[Nat.reduceAdd]at C c;simp only[j7,Act.put,gU,io,iC,Nat.reduceAdd];have aA:F 11=F 10:=k Oc;obtain⟨b,ag,aC,bJ,X,hu⟩:=C;have aB:=aA.symm.trans aC;rw[aB,c];clear k aA aC aB c;have f:=gb az;clear az HF bJ;by_cases j:E=0
 ·obtain⟨rfl,rfl,rfl⟩:=aq.out j;subst j;have l:((0:Int) !=0)=false:=rfl;have HR:=gd (∀V,gm aj V->hU V b 60 [.int .i64 P,.int .i64 D,ag]) (λV J=>X.below J);have ap:=gd (∀V,gm aj V->V.cell? ⟨g,2,none⟩=some (.int .i64 x)) (λV J=>an.out V (f.out.trans (J.mono f.out.size)));have fp:=gd (∀V,gm aj V->V.cell? ⟨g,3,none⟩=some (.int .i64 y)) (λV J=>ao.out V (f.out.trans (J.mono f.out.size)));have au:=gb (λV (J:gm aj V)=>L.out x ag w V h2 rfl (hu.below J));have av:=gb (λV (J:gm aj V)=>L.out y ag w V h3 rfl (hu.below J));have N:=gb (λ(hx:pg Q x=false)(o:pg Q y=false) V (J:gm aj V)=>S.out ag w V rfl hx o (hu.below J));have z:=gb (ae.out rfl);have I:=gb (ad.out rfl);have M:=gb (aw.out rfl);clear X hu L S ak al an ao aq ah ae ad aw h2 h3;generalize pg Q x=zx at*;generalize pg Q y=zy at*;go_wp2_with fail;refine ky [69,70,71,72,73,15] [λv _=>v=kq P D ag,λv _=>v= .slice (some ⟨g,0,none⟩) 4 d,λv _=>v= .pointer (some ⟨g,2,none⟩),λv _=>v= .int .i64 (x:Int),λv _=>v= .bool (!zx),λv _=>v= .bool (!zx)] (λV=>gm aj V) (λa aj=>gm a aj) (100,0) Ob Ob rfl ⟨g5 _,g5 _,g5 _,g5 _,g5 _,g5 _,trivial⟩ ((f0 _ _).drew) ⟨?_,?_,?_,?_,?_,?_,trivial⟩ ?_
  ·exact KR
  ·exact KG
  ·intro O V K J hf hd hK;have h3:O.tmps[70]?.getD undef= .slice (some ⟨g,0,none⟩) 4 d:=iW (hd 1 Oc Ob rfl);exact QZ
  ·intro O V K J hf hd hK;have h3:O.tmps[71]?.getD undef= .pointer (some ⟨g,2,none⟩):=iW (hd 2 Oc Ob rfl);have aV:=ap.out V J;exact QZ
  ·intro O V K J hf hd hK;have T:O.eval (.tmp 69)=kq P D ag:=hd 0 Oc Ob rfl;have U:O.eval (.tmp 72)= .int .i64 (x:Int):=hd 3 Oc Ob rfl;refine nf _ _ _ #[kq P D ag,.int .i64 (x:Int)] rfl (by grind) _ func57 Ob Ob ?_;refine(au.out V J).mono ?_;exact KL
  ·exact Rn
  rintro F w3 ⟨l,p,q,r,s,c,_⟩ ax k;clear l p q r s;simp only[Nat.reduceAdd]at c;simp only[j7,Act.put,gU,io,iC,Nat.reduceAdd];rw[c];clear c k;go_wp2_with fail;refine ky [74,75,76,77,78,16] [λv _=>v=kq P D ag,λv _=>v= .slice (some ⟨g,0,none⟩) 4 d,λv _=>v= .pointer (some ⟨g,3,none⟩),λv _=>v= .int .i64 (y:Int),λv _=>v= .bool (!zy),λv _=>v= .bool (!zy)] (λV=>gm aj V) (λa aj=>gm a aj) (100,0) Ob Ob rfl ⟨g5 _,g5 _,g5 _,g5 _,g5 _,g5 _,trivial⟩ (ax.drew) ⟨?_,?_,?_,?_,?_,?_,trivial⟩ ?_
  ·exact KR
  ·exact KG
  ·intro O V K J hf hd hK;have h3:O.tmps[75]?.getD undef= .slice (some ⟨g,0,none⟩) 4 d:=iW (hd 1 Oc Ob rfl);exact QZ
  ·intro O V K J hf hd hK;have h3:O.tmps[76]?.getD undef= .pointer (some ⟨g,3,none⟩):=iW (hd 2 Oc Ob rfl);exact Ry
  ·intro O V K J hf hd hK;have T:O.eval (.tmp 74)=kq P D ag:=hd 0 Oc Ob rfl;have U:O.eval (.tmp 77)= .int .i64 (y:Int):=hd 3 Oc Ob rfl;refine nf _ _ _ #[kq P D ag,.int .i64 (y:Int)] rfl (by grind) _ func57 Ob Ob ?_;refine(av.out V J).mono ?_;exact KL
  ·exact Rn
  rintro F w4 ⟨l,p,q,r,s,c,_⟩ Y k;clear l p q r s;simp only[Nat.reduceAdd]at c;simp only[j7,Act.put,gU,io,iC,Nat.reduceAdd];rw[c];have ai:=gb (f.out.trans (Y.mono f.out.size));have aE:=gb Y;clear c k Y ax au av;cases zx with
  |true=>
   have bo:=gb (i.out [] 1 w4 ai.out Oc (z.out (.inl rfl)));clear i N z I M;exact Ot
  |false=>
   cases zy with
   |true=>
    have bo:=gb (i.out [] 1 w4 ai.out Oc (z.out (.inr rfl)));clear i N z I M;exact Ot
   |false=>
    have aH:=gb (N.out rfl rfl);have aD:=gb (I.out rfl rfl);have aG:=gb (M.out rfl rfl);clear N z I M;go_wp2_with fail;refine ky [85,86,87,88,89,90,91,92,17] [λv _=>v=kq P D ag,λv _=>v= .slice (some ⟨g,0,none⟩) 4 d,λv _=>v= .pointer (some ⟨g,2,none⟩),λv _=>v= .int .i64 (x:Int),λv _=>v= .slice (some ⟨g,0,none⟩) 4 d,λv _=>v= .pointer (some ⟨g,3,none⟩),λv _=>v= .int .i64 (y:Int),λv _=>v= .int .i64 (t:Int),λv _=>v= .int .i64 (t:Int)] (λV=>gm aj V) (λa aj=>gm a aj) (100,0) Ob Ob rfl ⟨g5 _,g5 _,g5 _,g5 _,g5 _,g5 _,g5 _,g5 _,g5 _,trivial⟩ (aE.out.drew) ⟨?_,?_,?_,?_,?_,?_,?_,?_,?_,trivial⟩ ?_
    ·exact KR
    ·exact KG
    ·intro O V K J hf hd hK;have h3:O.tmps[86]?.getD undef= .slice (some ⟨g,0,none⟩) 4 d:=iW (hd 1 Oc Ob rfl);exact QZ
    ·intro O V K J hf hd hK;have h3:O.tmps[87]?.getD undef= .pointer (some ⟨g,2,none⟩):=iW (hd 2 Oc Ob rfl);have aV:=ap.out V J;exact QZ
    ·exact KG
    ·intro O V K J hf hd hK;have h3:O.tmps[89]?.getD undef= .slice (some ⟨g,0,none⟩) 4 d:=iW (hd 4 Oc Ob rfl);exact QZ
    ·intro O V K J hf hd hK;have h3:O.tmps[90]?.getD undef= .pointer (some ⟨g,3,none⟩):=iW (hd 5 Oc Ob rfl);exact Ry
    ·intro O V K J hf hd hK;have T:O.eval (.tmp 85)=kq P D ag:=hd 0 Oc Ob rfl;have U:O.eval (.tmp 88)= .int .i64 (x:Int):=hd 3 Oc Ob rfl;have aN:O.eval (.tmp 91)= .int .i64 (y:Int):=hd 6 Oc Ob rfl;refine nf _ _ _ #[kq P D ag,.int .i64 (x:Int),.int .i64 (y:Int)] rfl (by grind) _ func58 Ob Ob ?_;refine(aH.out V J).mono ?_;exact KL
    ·exact Rm
    rintro F w5 ⟨l,p,q,r,s,aa,ab,ac,c,_⟩ ay k;clear l p q r s aa ab ac;simp only[Nat.reduceAdd]at c;simp only[j7,Act.put,gU,io,iC,Nat.reduceAdd];rw[c];have aF:=gb (oY t (by unfold ja;have:=aG.out;omega) w5);have bo:=gb (i.out (Lib.itoa (t:Nat)) 0 w5 (f.out.trans (ay.mono f.out.size)) Oc aD.out);clear c k ay i;go_wp2_with fail;refine aF.out.mono ?_;exact PQ
 ·have Z:(E !=0)=true:=iT.2 j;have bo:=gb (i.out [] E aj f.out hE ((ah.out j).trans (gh j).symm));clear i hE L S hu X;exact Ot
end
end Go.Proofs.YtnnaadmegeeinaaGreatDoor
