/-
  Part 21 of a proof: what it proves stands in the last text.
-/
import Derived.Test.YtnnaadmegeeinaaGreatDoorYt
import Derived.Lay
import Derived.Deep.DeepHandedRow
import Derived.Lib.LaidU8
import Derived.LaidMore
set_option linter.all false
set_option maxHeartbeats 8000000
set_option maxRecDepth 100000
namespace Go.Proofs.YtnnaadmegeeinaaGreatDoor
open Tryz Go.Proofs.Tryz
open Go.RowKit
def uw:=@Lib.laidMet.reads
def uy:=@Nat.le_succ_of_le
def Zr:=@MakeChecks.laidMetH_plain
def aeF:=@Input.okWide_of_okWideB
theorem Ol{p:Prop}(h:p:=by rw[nH];rfl):p:=h
theorem OJ{p:Prop}(h:p:=by
 go_wp2
 (try simp only[Exit.inBlock,Exit.then])
 refine su (IZ rfl _ _ _) rfl ?_
 exact HY.out):p:=h
theorem O5{p:Prop}(h:p:=by
 rintro e aj ⟨rfl,hz,hk,ar⟩
 exact⟨⟨_,rfl,rfl,λw8 bB ee=>Js _ _ w8 hz.1 hz.2 (hk) ee⟩,ar⟩):p:=h
theorem Mz{p:Prop}(h:p:=by
 go_wp2_with fail;rw[et.out];refine fA.out.mono ?_;rintro e aj ⟨rfl,rfl⟩;go_wp2;go_roundw
 case rel=>exact⟨H+1,_,by rw[db.out],by go_num,by omega,gb rfl,by grind⟩
 case measure=>exact gQ):p:=h
theorem MO{p:Prop}(h:p:=by
 go_wp2_with fail;refine fA.out.mono ?_;rintro e aj ⟨rfl,rfl⟩;go_wp2;go_roundw
 case rel=>exact⟨1,_,by rw[db.out],by go_num,by omega,gb rfl,by grind⟩
 case measure=>exact gQ):p:=h
theorem M9{p:Prop}(h:p:=by
 rw[jH,gn h,jf,gc,gn h];refine Nt _ _ _ λe=> ?_;have:=jA List.length e
 grind):p:=h
theorem Sj{p:Prop}(h:p:=by
 rintro e aj ⟨u0,rfl,hz,hk,⟨pa,pn,pc,rfl⟩,ar⟩
 exact⟨⟨_,rfl,rfl,λw8 bB ee=>Eo _ _ _ w8 hz.1 hz.2 (λh=>⟨(hk h).1.below bB,(hk h).2⟩) ee⟩,ar⟩):p:=h
theorem SW{p:Prop}(h:p:=by
 rw[ei.out];show(((jq tt).map λx=>(st.1,st.2.1++[x],st.2.2)):Option mw).bind _=_;rw[bn]
 rfl):p:=h
theorem SX{p:Prop}(h:p:=by
 rw[ei.out];show(((gX tt).map λx=>(st.1++[x],st.2.1,st.2.2)):Option mw).bind _=_;rw[bn]
 rfl):p:=h
theorem S8{p:Prop}(h:p:=by
 rw[ei.out];show(((jK tt).map λx=>(st.1,st.2.1,x)):Option mw).bind _=_;rw[bn]
 rfl):p:=h
theorem Uj{p:Prop}(h:p:=by rw[<-lu];rfl):p:=h
theorem UR{p:Prop}(h:p:=by
 obtain⟨O,ah,rfl⟩:=JG h
 exact Lib.join_one _ _):p:=h
theorem UU{p:Prop}(h:p:=by
 go_wp2;go_ret
 exact⟨by rw[bw.out];rfl,rfl⟩):p:=h
theorem UV{p:Prop}(h:p:=by
 go_wp2;go_ret
 grind):p:=h
theorem D3{p:Prop}(h:p:=by rw[HT.out,gh λh=>h0 (HE.out.1 h)]):p:=h
theorem D8{p:Prop}(h:p:=by rw[HS.out H aM h0,lu,HT.out];simp):p:=h
theorem Ki{p:Prop}(h:p:=by rw[ot];simp):p:=h
theorem Kl{p:Prop}(h:p:=by rw[<-hN.out,aeJ]):p:=h
theorem Kv{p:Prop}(h:p:=by rw[HT.out,gl (HE.out.2 h0)];rfl):p:=h
theorem Pn{p:Prop}(h:p:=by
 subst hz
 exact Of):p:=h
theorem PK{p:Prop}(h:p:=by
 rw[hA];show Calls prog _ #[vs 0,vs 1,vs 2] Z _;rw[e0,e1,e2];refine(HP ad af aq Z cG b0 b1 b2).mono ?_
 exact O5):p:=h
theorem vZ{P:Program}{w:World}{n q:String}{g:Nat}{ti:TypeId}{ms:Array (String×TypeId)}{d:DataW Unit}(h:Lib.VarReads P w n (.iface q d))(b:P.globalNamed n=some g)(l:(P.globals[g]?).map (·.type)=some ti)(hi:P.underlying ti=some (.interface ms)):∃v,w.cell? ⟨g,0,none⟩=some v/\ah3 v:=by
 obtain⟨t,y,e,s,x,k,o,p,j⟩:=h;obtain rfl:=gG (b.symm.trans k);obtain rfl:=gG (l.symm.trans o);obtain⟨r,c,v,f,_,_⟩:=iface_of_trod hi j;have a:=World.var?_cell b p 0;have i:e[0]? =some (.iface c v):=by
  rw[<-ah0,f];rfl
 rw[i]at a;exact⟨_,a,.inr ⟨c,v,rfl⟩⟩
theorem wO{P:Program}{w:World}{n:String}{k:IntKind}{a:gP}{g m:Nat}{t e:TypeId}(h:Lib.VarReads P w n (Lib.tabData k a))(j:P.globalNamed n=some g)(q:(P.globals[g]?).map (·.type)=some t)(o:P.underlying t=some (.array m e))(i:P.underlying e=some (.int k))(c:P.cellsOf e=1)(d:P.cellsOf t=m):Lib.TabIs P w n k a:=by
 obtain⟨x,z,s,v,y,l,p,r,f⟩:=h;obtain rfl:=gG (j.symm.trans l);obtain rfl:=gG (q.symm.trans p);have b:=Lib.cells_of_tab o i c d f;unfold Lib.TabIs;rw[r,<-b]
theorem NY{w:World}(h:Lib.TabIs prog w "parterre/field.primes" .i64 vF):SR w:=by
 have b:prog.globalNamed "parterre/field.primes" =some 3:=Ob;have a:∀i:Nat,w.cell? ⟨3,i,none⟩=prV[i]? :=λi=>by
  rw[World.var?_cell b h i,aib];rfl
 refine⟨aeS w _ ((a 0).trans (Vu (i:=0) Oc)),λj v c=> ?_⟩
 grind
theorem agU{W:World}(a:laidMetH prog Rows.runAnswersRow.laid W)(h:W.ShapedOpen prog):jO W:=by
 rw[Zr _ _ _ Ob]at a
 refine⟨⟨Xw W h,vZ (n:= "strconv.ErrSyntax") (ti:=32) (uw a (by unfold Rows.runAnswersRow;simp only;exact .tail _ (.tail _ (.tail _ (.tail _ (.tail _ (.tail _ (.head _)))))))) Ob Ob underlying32,
  vZ (n:= "strconv.ErrRange") (ti:=32) (uw a (by unfold Rows.runAnswersRow;simp only;exact .tail _ (.tail _ (.tail _ (.tail _ (.tail _ (.head _))))))) Ob Ob underlying32⟩,?_,?_⟩
 ·exact wO (g:=6) (uw a (by unfold Rows.runAnswersRow;simp only;exact .tail _ (.tail _ (.head _)))) Ob Ob underlying270 underlying188 Ob Ob
 ·exact NY (wO (g:=3) (uw a (by unfold Rows.runAnswersRow;simp only;exact .tail _ (.tail _ (.tail _ (.head _))))) Ob Ob underlying251 underlying3 Ob Ob)
theorem Fd(os:Os)(args:Array Value):laidMetH prog Rows.runAnswersRow.laid ((World.laidAll prog os Rows.runAnswersRow.laid).forCall (λ_ _=>0) ⟨#[],args,[]⟩).memory:=by
 rw[Zr _ _ _ Ob];exact laidMet_laidAll _ Ob Ob
theorem Ih(os:Os)(args:Array Value):((World.laidAll prog os Rows.runAnswersRow.laid).forCall (λ_ _=>0) ⟨#[],args,[]⟩).Shaped prog:=World.shaped_of_ZipB Ob Ob
theorem Bt{H:Type}{enc:TypeId×Value->H}{C:Checked}{os:Os}{f:FuncId}{e:Func}{s:OpenSpec}{d:List PathCond}{c:Bool}{h:List (String×DataW Unit)}(modest:Bool)(a:World)(args:Array Value)(j:a.os=os)
 (l:(a.forCall (λ_ _=>0) ⟨#[],args,[]⟩).Shaped C.prog)
 (g:Input.okWideB C.prog (a.forCall (λ_ _=>0) ⟨#[],args,[]⟩) f ⟨#[],args,[]⟩=true)
 (k:s.preRow enc C.prog e d c h (a.forCall (λ_ _=>0) ⟨#[],args,[]⟩).memory args):
 ∃(w:World)(b:Tape)(i:Input),w.os=os/\(w.forCall b i).Shaped C.prog/\i.vars=[]/\Input.okWide C.prog (w.forCall b i) .any w.heap.size f i/\
  s.preRow enc C.prog e d c h (w.forCall b i).memory i.args/\({modest:=modest}:Assume).holds C.prog (lone (Frame.enter C.prog f i.args .normal) [] (w.forCall b i)):=
 ⟨a,λ_ _=>0,⟨#[],args,[]⟩,j,l,(aeF (base:=0) g).1,(aeF g).2,k,by
   simp only[Assume.holds]
   exact⟨by simp,by simp,λ_=>Modest.zero,by simp,by simp⟩⟩
theorem oY(n:Nat)(c:ja n)(w:World):
 Calls prog 59 #[.int .i64 n] w λj s=>j= .returned (.string (gJ (Lib.itoa n)))/\s=w:=by
 have f:=gd (Lib.itoa n=Lib.decDigits n) (by unfold Lib.itoa;grind);have g:=gd ((Lib.decDigits n).length<=20) (by rw[<-f.out];exact mf c);have e:=gb TH;have z:(n:Int)<=9223372036854775807:=c.2;clear c;go_enter func59,ntmps59;go_wp2;go_loopw [0,3] (λd q wr=>∃(m:Nat)(t:iF),d= .int .i64 m/\q= .string (gJ t)/\m<=n/\Hid (Lib.decDigits n=Lib.decDigits m++t)/\wr=w) (λd _ _=>(intOf d).toNat)
 case atStart=>exact⟨n,[],rfl,rfl,fZ _,gb (by grind),rfl⟩
 case round=>
  obtain⟨m,t,rfl,rfl,y,b,rfl⟩:=hrel;have C:t.length<=20:=(by have:=g.out;rw[b.out,gz]at this;omega);have B:(gJ t).size=t.length:=iw t;by_cases a:m<10
  ·have k:¬(10:Int)<=m:=(by omega);have o:=e.out m a;have p:(gJ [UInt8.ofNat (48+m)]).size=1:=rfl;have HE:=gd (gJ [UInt8.ofNat (48+m)]++gJ t=gJ (Lib.itoa n)) (by rw[lu,f.out,b.out,ns a]);generalize gJ [UInt8.ofNat (48+m)]=s1 at*;generalize gJ t=D at*;clear a;exact Sc
  ·have k:(10:Int)<=m:=(by omega);have A:(m:Int).tmod 10=((m%10:Nat):Int):=(gO _ _).symm;have v:(m:Int).tdiv 10=((m/10:Nat):Int):=(iS _ _).symm;have l:m%10<10:=iD _ Oa;have h:=gd (Lib.decDigits n=Lib.decDigits (m/10)++(UInt8.ofNat (48+m%10)::t)) (by rw[b.out,Ab a,iN];rfl);have o:=e.out (m%10) l;have p:(gJ [UInt8.ofNat (48+m%10)]).size=1:=rfl;have HE:=gd (gJ [UInt8.ofNat (48+m%10)]++gJ t=gJ (UInt8.ofNat (48+m%10)::t)) (by rw[lu];rfl);have x:m/10<m:=Oa;generalize m%10=r at*;generalize m/10=i at*;generalize gJ [UInt8.ofNat (48+r)]=s1 at*;clear a;go_wp2;go_roundw
   case rel=>exact⟨i,_,by grind,by rw[HE.out],by omega,h,by grind⟩
   case measure=>exact gQ
theorem Nt(ws:j9)(x:iF)(c:UInt8)(h:ws≠[]):Lib.join (ws++[x]) [c]=Lib.join ws [c]++(c::x):=by
 induction ws with
 |nil=>grind
 |cons a ws d=>
  cases ws with
  |nil=>simp[Lib.join,List.intercalate,List.intersperse]
  |cons b ws=>
   rw[jD,jD,qK,qK];unfold Lib.joinTail;exact On
def BQ(l:gP):Prop:=∀x∈l,0<=x/\x<=9223372036854775807
theorem Ny{l:gP}{i:Nat}(h:i<l.length)(a:0<i):kb (l.take (i+1))=kb (l.take i)++(44::Lib.itoa (l.getD i 0)):=by
 unfold kb;exact M9
theorem Xn{l:gP}(h:0<l.length):kb (l.take 1)=Lib.itoa (l.getD 0 0):=UR
theorem Aw(v:Value)(l:gP)(w:World)(n:Sl w v l)(b:BQ l)(C:l.length<=100000):
 Calls prog 143 #[v] w λe d=>e= .returned (.string (gJ (kb l)))/\d=w:=by
 have q:=gd (∀H,(kb (l.take H)).length<=3000000) (λH=>by
  have:=tp (ws:=(l.take H).map Lib.itoa) (c:=44) (m:=20) λU p=>by
   obtain⟨I,D,rfl⟩:=gK.1 p;have h:=b I (nV D)
   grind [mf,ja]
  grind [kb])
 have f:=gd (∀H,H<l.length->Calls prog 59 #[.int .i64 (l[H]?.getD 0)] w λe d=>e= .returned (.string (gJ (Lib.itoa (l.getD H 0))))/\d=w) (λH a=>by
  have h:=b l[H] (iH a);rw[gc,gn a,iQ];obtain⟨E,B⟩:=jW h.1;rw[B]at h⊢
  exact oY E (by grind [ja]) w)
 have i:=gd (∀H,H<l.length->(Lib.itoa (l.getD H 0)).length<=20) (λH a=>mf (by
  have h:=b l[H] (iH a)
  grind [ja]))
 have HS:=gb (λH (h:H<l.length) (h0:0<H)=>Ny h h0);have j:=gb (λ(h:0<l.length)=>Xn h);have g:=gd (kb (l.take l.length)=kb l) (by grind);obtain⟨J,s,N,rfl,x,M,y⟩:=n.open;have k:=x.out;rw[k]at f HS j i g C;clear n b k;go_enter func143,ntmps143;go_wp2;go_loopw [3,4] (λG c wr=>∃(H:Nat)(t:iF),G= .string (gJ t)/\c= .int .i64 H/\H<=N/\Hid (t=kb (l.take H))/\wr=w) (λ_ c _=>N-(intOf c).toNat)
 case atStart=>exact⟨0,[],rfl,rfl,ge _,gb rfl,rfl⟩
 case round=>
  obtain⟨H,t,rfl,rfl,a,HT,rfl⟩:=hrel;have R:t.length<=3000000:=(by rw[HT.out];exact q.out H);have P:=iw t;by_cases aM:H<N
  ·have A:(H:Int)<N:=(by omega);obtain⟨K,S,rfl,L,z⟩:=y Oa;have p:=z H aM;have fA:=gb (f.out H aM);have O:=i.out H aM;have Q:=iw (Lib.itoa (l.getD H 0));by_cases h0:0<H
   ·have et:=gd (gJ t++(⟨#[44]⟩:ByteArray)=gJ (t++[44])) Uj;have o:=iw (t++[44]);rw[gz]at o;simp only[jQ]at o;have db:=gd (gJ (t++[44])++gJ (Lib.itoa (l.getD H 0))=gJ (kb (l.take (H+1)))) D8;generalize gJ (Lib.itoa (l.getD H 0))=F at*;generalize gJ (t++[44])=T at*;exact Mz
   ·obtain rfl:H=0:=(by omega);have db:=gd (gJ t++gJ (Lib.itoa (l.getD 0 0))=gJ (kb (l.take 1))) (by rw[j.out Oa,HT.out];rfl);generalize gJ (Lib.itoa (l.getD 0 0))=F at*;exact MO
  ·obtain rfl:H=N:=(by omega);have A:¬(H:Int)<H:=Oa;have r:=gd (t=kb l) (by rw[HT.out,g.out]);go_wp2;go_ret;exact⟨by rw[r.out];rfl,rfl⟩
theorem lW(v:Value)(l:gP)(w:World)(a:Sl w v l)(c:BQ l)(b:l.length<=100000):
 Calls prog 56 #[v] w λe g=>e= .returned (.string (gJ (ji l)))/\g=w:=by
 have d:=gb (Aw v l w a c b);have HT:=gd (ji l=if l=[]then[45]else kb l) rfl;obtain⟨h,i,N,rfl,hN,k,_⟩:=a.open;have HE:=gd (l=[]↔N=0) Kl;clear a c hN b;by_cases h0:N=0
 ·have bw:=gd (gJ (ji l)=⟨#[45]⟩) Kv;subst h0;go_enter func56,ntmps56;exact UU
 ·have bw:=gd (ji l=kb l) D3;have f:¬(N:Int)=0:=Oa;have j:((N:Int)==0)=false:=gL.2 f;generalize kb l=t at*;go_enter func56,ntmps56;go_wp2_with fail;refine d.out.mono ?_;rintro e n ⟨rfl,rfl⟩;exact UU
def rx(ll:lO):iF:=Lib.join (ll.map kb) [47]
theorem PF{l:lO}{i:Nat}(h:i<l.length)(a:0<i):rx (l.take (i+1))=rx (l.take i)++(47::kb (l.getD i [])):=by
 unfold rx;exact M9
theorem XZ{l:lO}(h:0<l.length):rx (l.take 1)=kb (l.getD 0 []):=UR
theorem tu{l:gP}(a:BQ l):(kb l).length<=21*l.length:=by
 have:=tp (ws:=l.map Lib.itoa) (c:=44) (m:=20) λx b=>by
  obtain⟨y,d,rfl⟩:=gK.1 b;have h:=a y d
  grind [mf,ja]
 rwa [gv]at this
theorem sj(v:Value)(ll:lO)(w:World)(o:RL w v ll)(E:∀r∈ll,BQ r/\r.length<=1000)(D:ll.length<=1000):
 Calls prog 72 #[v] w λe J=>e= .returned (.string (gJ (kL ll)))/\J=w:=by
 have HT:=gd (kL ll=if ll=[]then[45]else rx ll) rfl
 have j:=gd (∀H,H<ll.length->BQ (ll.getD H [])/\(ll.getD H []).length<=1000) (λH a=>by
  grind)
 have s:=gd (∀H,(rx (ll.take H)).length<=30000000) (λH=>by
  have:=tp (ws:=(ll.take H).map kb) (c:=47) (m:=21000) λX F=>by
   obtain⟨Y,U,rfl⟩:=gK.1 F
   grind [tu]
  grind [rx])
 have i:=gd (∀H,H<ll.length->(kb (ll.getD H [])).length<=30000) (λH a=>by
  grind [tu])
 have g:=gb (λ(b:Value)(H:Nat)(a:H<ll.length)(c:Sl w b (ll.getD H []))=>Aw b _ w c (j.out H a).1 (by grind));have HS:=gb (λH (h:H<ll.length) (h0:0<H)=>PF h h0);have k:=gb (λ(h:0<ll.length)=>XZ h);have f:=gd (rx (ll.take ll.length)=rx ll) (by grind);obtain⟨K,z,N,rfl,hN,O,n⟩:=o.open;have HE:=gd (ll=[]↔N=0) Kl;have l:=hN.out;rw[l]at g HS k i f D;have x:=gb n;clear o E l j n;by_cases h0:N=0
 ·have bw:=gd (gJ (kL ll)=⟨#[45]⟩) Kv;subst h0;go_enter func72,ntmps72;exact UU
 have bw:=gd (kL ll=rx ll) D3;have A:¬(N:Int)=0:=Oa;have M:((N:Int)==0)=false:=gL.2 A;clear h0 HE HT;go_enter func72,ntmps72;go_wp2;go_loopw [3,4] (λI d wr=>∃(H:Nat)(t:iF),I= .string (gJ t)/\d= .int .i64 H/\H<=N/\Hid (t=rx (ll.take H))/\wr=w) (λ_ d _=>N-(intOf d).toNat)
 case atStart=>exact⟨0,[],rfl,rfl,ge _,gb rfl,rfl⟩
 case round=>
  obtain⟨H,t,rfl,rfl,a,HT,rfl⟩:=hrel;have T:t.length<=30000000:=(by rw[HT.out];exact s.out H);have R:=iw t;by_cases aM:H<N
  ·have C:(H:Int)<N:=(by omega);obtain⟨L,V,rfl,P,B⟩:=x.out Oa;obtain⟨b,c,q⟩:=B H aM;have fA:=gb (g.out b H aM q);have Q:=i.out H aM;have S:=iw (kb (ll.getD H []));clear q;by_cases h0:0<H
   ·have et:=gd (gJ t++(⟨#[47]⟩:ByteArray)=gJ (t++[47])) Uj;have p:=iw (t++[47]);rw[gz]at p;simp only[jQ]at p;have db:=gd (gJ (t++[47])++gJ (kb (ll.getD H []))=gJ (rx (ll.take (H+1)))) D8;generalize gJ (kb (ll.getD H []))=G at*;generalize gJ (t++[47])=W at*;exact Mz
   ·obtain rfl:H=0:=(by omega);rw[kp]at c;have db:=gd (gJ t++gJ (kb (ll.getD 0 []))=gJ (rx (ll.take 1))) (by rw[k.out Oa,HT.out];rfl);generalize gJ (kb (ll.getD 0 []))=G at*;exact MO
  ·obtain rfl:H=N:=(by omega);have C:¬(H:Int)<H:=Oa;have y:=gd (t=kL ll) (by rw[HT.out,f.out,bw.out]);go_wp2;go_ret;exact⟨by rw[y.out];rfl,rfl⟩
theorem wQ(b:Bool)(w:World):
 Calls prog 84 #[.bool b] w λe d=>e= .returned (.string (gJ (nn b)))/\d=w:=by
 have a:gJ (nn true)=⟨#[121,101,115]⟩:=rfl;have c:gJ (nn false)=⟨#[110,111]⟩:=rfl;cases b
 ·rw[c];go_enter func84,ntmps84;exact Of
 ·rw[a];go_enter func84,ntmps84;exact Of
theorem B8(E:Int)(b:E=1\/E=2\/E=3\/E=4\/E=5\/E=6)(w:World):
 Calls prog 22 #[.int .i64 E] w λe c=>e= .returned (.string (gJ (iJ E)))/\c=w:=by
 rcases b with rfl|rfl|rfl|rfl|rfl|rfl
 all_goals
  generalize a:gJ (iJ _)=q;replace a:=gb a;go_enter func22,ntmps22;go_wp2;go_ret;exact⟨by rw[<-a.out];rfl,rfl⟩
theorem nH(T L:iF):((gJ T).toList==L)=decide (L=T):=by
 rw[jB,kK,lh,kz,sO]
 grind
def oE(A:iF)(w:World)(e:Ending)(w':World):Prop:=(∃(T:iF)(E:Int),e= .returned (.tuple #[.string (gJ T),.int .i64 E])/\(0<=E/\E<=6)/\A=if E=0 then T else iJ E)/\gm w w'
theorem oE.ok{A:iF}{w w':World}(b:gm w w'){T:iF}{E:Int}(a:0<=E/\E<=6)(h:A=if E=0 then T else iJ E):oE A w (.returned (.tuple #[.string (gJ T),.int .i64 E])) w':=⟨⟨T,E,rfl,a,h⟩,b⟩
theorem oE.g(A:iF)(w:World):Hid (∀(T:iF)(E:Int)(w':World),gm w w'->(0<=E/\E<=6)->(A=if E=0 then T else iJ E)->oE A w (.returned (.tuple #[.string (gJ T),.int .i64 E])) w'):=gb λT E w' b a h=>oE.ok b a h
theorem oE.in{f:Nat}{args:Array Value}{A:iF}{w:World}(h:∀(A':iF)(G:Ending->World->Prop),Hid (A=A')->Hid (∀(T:iF)(E:Int)(w':World),gm w w'->(0<=E/\E<=6)->(A'=if E=0 then T else iJ E)->G (.returned (.tuple #[.string (gJ T),.int .i64 E])) w')->Calls prog f args w G):Calls prog f args w (oE A w):=h A _ (gb rfl) (oE.g A w)
theorem OI.nums{B n:Nat}{w:World}{v:Value}{l:gA}(h:OI B w v (gr l))(f:l.length=n)(q:0<n):∃g c,v= .slice (some ⟨g,0,none⟩) n c/\Hid (∀a,gm w a->∀i,i<n->a.cell? ⟨g,i,none⟩=some (.int .i64 (l.getD i 0:Nat))):=by
 have e:(gr l).length=n:=by
  unfold gr;rw[gv,f]
 obtain⟨g,c,rfl,r,j⟩:=h.form Oa;rw[e]at h⊢;refine⟨g,c,rfl,gb λa b i s=> ?_⟩;rw[(h.below b).cell i Oa];unfold gr;rw[gc,gc,gY,gn Oa];rfl
theorem OL.lists{B U n:Nat} {w:World} {v:Value} {ls:kl} (h:OL B U w v (ls.map gr)) (f:ls.length=n) (q:0<n):∃g c,v= .slice (some ⟨g,0,none⟩) n c/\Hid (∀i,i<n->∃d,∀a,gm w a->a.cell? ⟨g,i,none⟩=some d/\OI B a d (gr (ls.getD i []))):=by
 have e:(ls.map gr).length=n:=by rw[gv,f]
 obtain⟨g,c,rfl,r,j⟩:=h.form Oa;rw[e]at h⊢;refine⟨g,c,rfl,gb λi s=> ?_⟩;obtain⟨d,t,k⟩:=h.get i Oa;have o:(ls.map gr).getD i []=gr (ls.getD i []):=by
  rw[gc,gc,gY,gn Oa];rfl
 rw[o]at k;exact⟨d,λa b=>⟨(b.cell (p:=⟨g,i,none⟩) j).trans t,k.below b⟩⟩
theorem nK(x:Int)(a:0<=x)(b:ja x)(w:World):Calls prog 59 #[.int .i64 x] w λe c=>e= .returned (.string (gJ (Lib.itoa x)))/\c=w:=by
 obtain⟨n,rfl⟩:=jW a;exact oY n b w
theorem acJ(T:iF)(w:World):
 Calls prog 51 #[.string (gJ T)] w λe A=>e= .returned (.string (gJ ((rj T).getD [63])))/\w=A:=by
 have b:=gb (nH T);obtain⟨R,c⟩:∃R,gJ ((rj T).getD [63])=R:=⟨_,rfl⟩;rw[c];have a:=gb c;clear c;generalize gJ T=B at*;go_enter func51,ntmps51;by_cases c0:[102,105,101,108,100]=T
 ·have d:=(b.out [102,105,101,108,100]).trans (gy c0);have hz:R=gJ [110,110]:=(by rw[<-a.out,<-c0];rfl);clear a c0;exact Pn
 have d:=(b.out [102,105,101,108,100]).trans (gp c0);by_cases c1:[98,101,97,100,115]=T
 ·have f:=(b.out [98,101,97,100,115]).trans (gy c1);have hz:R=gJ [110,110]:=(by rw[<-a.out,<-c1];rfl);clear a c1;exact Pn
 have f:=(b.out [98,101,97,100,115]).trans (gp c1);by_cases c2:[98,114,117,105,106,110]=T
 ·have q:=(b.out [98,114,117,105,106,110]).trans (gy c2);have hz:R=gJ [110,110]:=(by rw[<-a.out,<-c2];rfl);clear a c2;exact Pn
 have q:=(b.out [98,114,117,105,106,110]).trans (gp c2);by_cases c3:[99,97,115,99,97,100,101]=T
 ·have r:=(b.out [99,97,115,99,97,100,101]).trans (gy c3);have hz:R=gJ [110,110]:=(by rw[<-a.out,<-c3];rfl);clear a c3;exact Pn
 have r:=(b.out [99,97,115,99,97,100,101]).trans (gp c3);by_cases c4:[116,105,109,101,115]=T
 ·have s:=(b.out [116,105,109,101,115]).trans (gy c4);have hz:R=gJ [110,110,110,110]:=(by rw[<-a.out,<-c4];rfl);clear a c4;exact Pn
 have s:=(b.out [116,105,109,101,115]).trans (gp c4);by_cases c5:[114,111,119]=T
 ·have t:=(b.out [114,111,119]).trans (gy c5);have hz:R=gJ [110,108,108,110]:=(by rw[<-a.out,<-c5];rfl);clear a c5;exact Pn
 have t:=(b.out [114,111,119]).trans (gp c5);by_cases c6:[108,101,97,115,116]=T
 ·have v:=(b.out [108,101,97,115,116]).trans (gy c6);have hz:R=gJ [110,108]:=(by rw[<-a.out,<-c6];rfl);clear a c6;exact Pn
 have v:=(b.out [108,101,97,115,116]).trans (gp c6);by_cases c7:[100,105,102,102,101,114]=T
 ·have x:=(b.out [100,105,102,102,101,114]).trans (gy c7);have hz:R=gJ [110,108]:=(by rw[<-a.out,<-c7];rfl);clear a c7;exact Pn
 have x:=(b.out [100,105,102,102,101,114]).trans (gp c7);by_cases c8:[99,121,99,108,101,115]=T
 ·have y:=(b.out [99,121,99,108,101,115]).trans (gy c8);have hz:R=gJ [108]:=(by rw[<-a.out,<-c8];rfl);clear a c8;exact Pn
 have y:=(b.out [99,121,99,108,101,115]).trans (gp c8);by_cases c9:[98,101,110,116]=T
 ·have z:=(b.out [98,101,110,116]).trans (gy c9);have hz:R=gJ [108]:=(by rw[<-a.out,<-c9];rfl);clear a c9;exact Pn
 have z:=(b.out [98,101,110,116]).trans (gp c9);by_cases c10:[99,111,117,108,100]=T
 ·have g:=(b.out [99,111,117,108,100]).trans (gy c10);have hz:R=gJ [108]:=(by rw[<-a.out,<-c10];rfl);clear a c10;exact Pn
 have g:=(b.out [99,111,117,108,100]).trans (gp c10);by_cases c11:[111,114,100,101,114]=T
 ·have h:=(b.out [111,114,100,101,114]).trans (gy c11);have hz:R=gJ [110,114]:=(by rw[<-a.out,<-c11];rfl);clear a c11;exact Pn
 have h:=(b.out [111,114,100,101,114]).trans (gp c11);by_cases c12:[101,120,116,101,110,100]=T
 ·have i:=(b.out [101,120,116,101,110,100]).trans (gy c12);have hz:R=gJ [110,114]:=(by rw[<-a.out,<-c12];rfl);clear a c12;exact Pn
 have i:=(b.out [101,120,116,101,110,100]).trans (gp c12);by_cases c13:[108,101,118,101,108]=T
 ·have j:=(b.out [108,101,118,101,108]).trans (gy c13);have hz:R=gJ [110,114,110]:=(by rw[<-a.out,<-c13];rfl);clear a c13;exact Pn
 have j:=(b.out [108,101,118,101,108]).trans (gp c13);by_cases c14:[116,114,105,112,108,101,115]=T
 ·have k:=(b.out [116,114,105,112,108,101,115]).trans (gy c14);have hz:R=gJ [110]:=(by rw[<-a.out,<-c14];rfl);clear a c14;exact Pn
 have k:=(b.out [116,114,105,112,108,101,115]).trans (gp c14);by_cases c15:[114,117,108,101,114]=T
 ·have l:=(b.out [114,117,108,101,114]).trans (gy c15);have hz:R=gJ [110]:=(by rw[<-a.out,<-c15];rfl);clear a c15;exact Pn
 have l:=(b.out [114,117,108,101,114]).trans (gp c15);by_cases c16:[99,105,114,99,108,101]=T
 ·have n:=(b.out [99,105,114,99,108,101]).trans (gy c16);have hz:R=gJ [110]:=(by rw[<-a.out,<-c16];rfl);clear a c16;exact Pn
 have n:=(b.out [99,105,114,99,108,101]).trans (gp c16);by_cases c17:[103,97,117,115,115]=T
 ·have o:=(b.out [103,97,117,115,115]).trans (gy c17);have hz:R=gJ [110,110,110]:=(by rw[<-a.out,<-c17];rfl);clear a c17;exact Pn
 have o:=(b.out [103,97,117,115,115]).trans (gp c17);by_cases c18:[114,97,111]=T
 ·have p:=(b.out [114,97,111]).trans (gy c18);have hz:R=gJ [110,110,110]:=(by rw[<-a.out,<-c18];rfl);clear a c18;exact Pn
 have p:=(b.out [114,97,111]).trans (gp c18);have hz:R=gJ [63]:=by
  rw[<-a.out,show rj T=none from by simp[rj,AX,c0,c1,c2,c3,c4,c5,c6,c7,c8,c9,c10,c11,c12,c13,c14,c15,c16,c17,c18]];rfl
 clear a c0 c1 c2 c3 c4 c5 c6 c7 c8 c9 c10 c11 c12 c13 c14 c15 c16 c17 c18;subst hz;go_wp2;go_ret;exact⟨rfl,rfl⟩
theorem IZ{a:Func}{t u v x:Tmp}(h:a.results= #[.tmp t,.tmp u,.tmp v,.tmp x])(tmps:Array Value)(P:Program)(w:World):(results a tmps).run P w= .ok (.tuple #[tmps.getD t undef,tmps.getD u undef,tmps.getD v undef,tmps.getD x undef]) w:=by
 simp[results,h]
theorem adi(T:iF)(a:j9)(B g c:Nat)(w:World)(hv:Ow 9 B w (.slice (some ⟨g,0,none⟩) (a.length+1) c) (wN (T::a)))(hT:T.length<=10000)(a5:∀a3∈a,a3.length<=10000)(hn:a.length<=10000):
 Calls prog 18 #[.slice (some ⟨g,0,none⟩) (a.length+1) c] w (S3 (lE T a) w):=by
 have J:=gb (acJ T w);have aY:w.cell? ⟨g,0,none⟩=some (.string (gJ T)):=(hv.cell 0 Ki).trans (by grind [tH])
 have ae:=gd (∀f,gm w f->∀i,i<a.length->f.cell? ⟨g,i+1,none⟩=some (.string (gJ (a.getD i [])))) (λf n i Y=>by
  rw[(hv.below n).cell (i+1) (by grind [ot]),tH (by grind),gc,gn Y]
  rfl)
 have au:=gd (∀i,(a.getD i []).length<=10000) (λi=>by
  grind)
 have aP:=gd (∀(st:mw)(y G H:Value) f,lE T a=some st->OI w.heap.size f y (gr st.1)->OL w.heap.size f.heap.size f G (st.2.1.map gr)->OL w.heap.size f.heap.size f H (st.2.2.map gr)->gm w f->S3 (lE T a) w (.returned (.tuple #[y,G,H,.bool true])) f) (λst y G H f O h1 h2 h3 n=>⟨.inl ⟨st,y,G,H,O,rfl,h1,h2,h3⟩,n⟩);have P:=gd (∀f,lE T a=none->gm w f->S3 (lE T a) w (.returned (.tuple #[.slice none 0 0,.slice none 0 0,.slice none 0 0,.bool false])) f) (λf O n=>⟨.inr ⟨O,rfl⟩,n⟩);have L:=gd (lE T a=match rj T with|none=>none|some b=>if b.length=a.length then qi (b.zip a) ([],[],[])else none) rfl;generalize S3 (lE T a) w=a4 at*;generalize lE T a=Z at*;cases U:rj T with
 |none=>
  rw[U]at J L;have N:=gb (P.out w L.out (f0 _ _));have hq:((gJ [63]).toList==[63])=true:=Ol;have af:Hid (Calls prog 51 #[.string (gJ T)] w λe f=>e= .returned (.string (gJ [63]))/\w=f):=J;clear J L U hv;generalize gJ [63]=a6 at*;go_enter func18,ntmps18;go_wp2_with fail;refine af.out.mono ?_;rintro e w2 ⟨rfl,rfl⟩;go_wp2
  (try simp only[Exit.inBlock,Exit.then])
  refine su (IZ rfl _ _ _) rfl ?_;exact N.out
 |some b=>
  obtain⟨n1,n2,n3⟩:=acI U;rw[U]at J L;have M:Hid (Z=if b.length=a.length then qi (b.zip a) ([],[],[])else none):=L;have af:Hid (Calls prog 51 #[.string (gJ T)] w λe f=>e= .returned (.string (gJ b))/\w=f):=J;have hq:((gJ b).toList==[63])=false:=(by rw[nH];grind);have a1:=iw b;have ap:=gb (FV b)
  have ag:=gd (∀i,i<b.length->b.getD i 0=110\/b.getD i 0=108\/b.getD i 0=114) (λi Y=>by
   grind [List.getElem_mem])
  have t:=gd (b.length=a.length->∀i st,i<b.length->qi ((b.zip a).drop i) st=(Zf (b.getD i 0) (a.getD i []) st).bind (qi ((b.zip a).drop (i+1)))) (λhe i st Y=>by
   grind [ajX])
  have I:=gd (b.length=a.length->∀st,qi ((b.zip a).drop b.length) st=some st) (λhe st=>by rw[mQ (by grind)];rfl);have X:=gd (qi ((b.zip a).drop 0) ([],[],[])=qi (b.zip a) ([],[],[])) rfl;clear J L U n1 n3 hv;obtain⟨C,aA⟩:∃C,a.length=C:=⟨_,rfl⟩;rw[aA]at ae M t I hn⊢;clear aA;obtain⟨K,hK⟩:∃K,b.length=K:=⟨_,rfl⟩;rw[hK]at n2 M ag t I a1;clear hK;obtain⟨aw,hf⟩:∃aw:Nat->UInt8,∀i,b.getD i 0=aw i:=⟨λi=>b.getD i 0,λi=>rfl⟩;simp only[hf]at ap ag t;clear hf;obtain⟨tx,aL⟩:∃tx:Nat->iF,∀i,a.getD i []=tx i:=⟨λi=>a.getD i [],λi=>rfl⟩;simp only[aL]at ae au t;clear aL;obtain⟨A,ax⟩:∃A:Nat->mw->Option mw,∀i st,qi ((b.zip a).drop i) st=A i st:=⟨λi st=>qi ((b.zip a).drop i) st,λi st=>rfl⟩;have ay:∀i,qi ((b.zip a).drop i)=A i:=λi=>funext λst=>ax i st;simp only[ay]at t I X;clear ax ay;generalize qi (b.zip a) ([],[],[])=Z0 at*;generalize gJ b=a7 at*;have a0:((C+1:Nat):Int)-1=C:=Oa;obtain⟨av,aW⟩:∃av,C+1=av:=⟨_,rfl⟩;rw[aW]at a0⊢;go_enter func18,ntmps18;go_wp2_with fail;refine af.out.mono ?_;rintro e w2 ⟨rfl,rfl⟩;by_cases az:K=C
  ·subst az;have aX:((K:Int) !=K)=false:=On;have aN:=gb (t.out rfl);have aO:=gb (I.out rfl);have aV:=gb (M.out.trans ((gl rfl).trans X.out.symm));clear t I M X;go_wp2_with fail;go_loopw [7,8,9,10,11,12,13] (λy G H iv _ _ _ wr=>∃(i:Nat)(st:mw),iv= .int .i64 i/\i<=K/\Hid (Z=A i st)/\OI w.heap.size wr y (gr st.1)/\st.1.length<=i/\yZ w.heap.size y.ownBlock wr G (st.2.1.map gr)/\st.2.1.length<=i/\yZ w.heap.size y.ownBlock wr H (st.2.2.map gr)/\qq G H/\gm w wr) (λ_ _ _ iv _ _ _ _=>K-(intOf iv).toNat)
   case atStart=>exact⟨0,([],[],[]),rfl,ge _,aV,OI.nil _ _,fZ _,yZ.nil _ _ _,fZ _,yZ.nil _ _ _,qq.nil _,f0 _ _⟩
   case round=>
    clear aY;obtain⟨i,st,rfl,Y,N,ab,aG,aa,aF,ac,aB,n⟩:=hrel;by_cases aj:i<K
    ·have aZ:(i:Int)<K:=(by omega);have hx:=ap.out i Oa;have ai:=ae.out wr n i aj;have an:=au.out i;have ei:=gb (N.out.trans (aN.out i st aj));have p:=ag.out i aj;have d:=vd ab aa ac aB n;clear ab aa ac aB n N;generalize tx i=tt at*;rcases p with p|p|p
     ·rw[p]at hx ei;have s:=gb (wA tt wr an);clear p;go_wp2_with fail;refine s.out.mono ?_;rintro e q ⟨R,a2⟩;subst a2;clear s ai;have E:=d.out.1;have r:=d.out.2.2.2.2.size;have aE:(gr st.1).length<=1000000000000:=(by unfold gr;rw[gv];omega);rcases R with⟨ao,bn,rfl⟩|⟨bn,rfl⟩
      ·have l:=gd (Z=A (i+1) (st.1++[ao],st.2.1,st.2.2)) (by
        exact SX)
       clear ei bn;go_wp2_with (at_builtin;refine g8 q _ _ 45 rfl rfl underlying45 info3 w.heap.size _ _ rfl E rfl aE r ?_;intro Q c7 V F h D S);have ak:∀g,(Value.slice (some ⟨Q,0,none⟩) ((gr st.1).length+1) c7).ownBlock=some g->_=some g\/q.heap.size<=g:=λg hg=>by
        simp only[Value.ownBlock,gH]at hg;rw[<-hg];exact D
       have HY:=oB (F.cast (l':=gr (st.1++[ao])) (by simp[gr])) (d.out.2.1.num E h ak) (d.out.2.2.1.num E h ak) (E.grown d.out.2.2.2.2 h r);have W:=gb d.out.2.2.2.1;clear F h D S ak d E;go_roundw
       case rel=>exact⟨i+1,(st.1++[ao],st.2.1,st.2.2),by go_num,by omega,l,HY.out.1,(by grind),HY.out.2.1,uy aF,HY.out.2.2.1,W.out,HY.out.2.2.2⟩
       case measure=>exact gQ
      ·have l:=gd (Z=none) (by
        exact SX)
       clear ei bn;go_wp2_with (at_builtin;refine g8 q _ _ 45 rfl rfl underlying45 info3 w.heap.size _ _ rfl E rfl aE r ?_;intro Q c7 V F h D S);have HY:=gb (P.out V l.out (E.grown d.out.2.2.2.2 h r));exact OJ
     ·rw[p]at hx ei;have s:=gb (Cc tt wr an);clear p;go_wp2_with fail;refine s.out.mono ?_;rintro e q ⟨R,j⟩;clear s ai;have o:=d.out.2.2.2.2.trans (j.mono d.out.2.2.2.2.size);have r:=o.size;have am:=d.out.2.2.2.2.size;have al:=d.out.1.below j;obtain⟨vs,z,o2,o3⟩:=d.out.2.1.below j;have aM:vs.length<=1000000000000:=(by rw[o2,gv];omega);have ar:=gb (d.out.2.2.1.below j);have aQ:=gd (∀k,u7.ownBlock=some k->k<wr.heap.size) (λk e=>(d.out.1.lt k e).2);have W:=gb d.out.2.2.2.1;rcases R with⟨x,u,bn,rfl,v⟩|⟨bn,rfl⟩
      ·have l:=gd (Z=A (i+1) (st.1,st.2.1++[x],st.2.2)) (by
        exact SW)
       clear ei bn;obtain⟨ua,uc,eu⟩:=v.len;subst eu;have HU:=gb (v.mono am);have aI:(Value.slice ua (gr x).length uc).ownBlock=none\/(Value.slice ua (gr x).length uc).ownBlock≠u7.ownBlock:=by
        cases e:(Value.slice ua (gr x).length uc).ownBlock with
        |none=>exact .inl rfl
        |some k=>
         refine .inr λe2=> ?_;have h1:=(v.lt k e).1;have h2:=aQ.out k e2.symm;exact Oa
       have aT:=gb aI;have ad:=gb o;have aq:=gb al;have aS:=gb o3;have aR:=gb o2
       have aU:=gd (∀k,u9.ownBlock=some k->k<q.heap.size) (λk e=>by
        obtain⟨ws,z1,_⟩:=ar.out
        exact(z1.lt k e).2)
       clear v aI o al o3 o2 d j am;generalize (gr x).length=ul at*;go_wp2_with (at_builtin;refine jt q _ _ 46 45 (.slice none 0 0) 24 rfl rfl underlying46 info45 rfl Oc w.heap.size _ vs rfl z rfl rfl aM r ?_;intro Q c7 V F h D S);have h9:=yZ.snoc (l:=gr x) z aR.out aS.out HU.out aT.out F h;have aH:=aq.out.kept h (kA z aq.out);have aK:=ar.out.keptL z W.out h;have aD:qq (Value.slice (some ⟨Q,0,none⟩) (vs.length+1) c7) u9:=λk hk e=>by
        simp only[Value.ownBlock,gH]at hk;subst hk;rcases D with O|O
        ·exact W.out _ O e
        ·have:=aU.out _ e;exact Oa
       have HY:=vd h9 aH aK aD (ad.out.grown h r (λah e=>(z.lt ah e).1));clear h9 aH aK aD F h D S z;go_roundw
       case rel=>exact⟨i+1,(st.1,st.2.1++[x],st.2.2),by go_num,by omega,l,HY.out.2.1,uy aG,by rw[jf];exact HY.out.1,(by grind),HY.out.2.2.1,HY.out.2.2.2.1,HY.out.2.2.2.2⟩
       case measure=>exact gQ
      ·have l:=gd (Z=none) (by
        exact SW)
       clear ei bn;have ad:=gb o;clear o al o3 d j am;go_wp2_with (at_builtin;refine jt q _ _ 46 45 (.slice none 0 0) 24 rfl rfl underlying46 info45 rfl Oc w.heap.size _ vs rfl z rfl rfl aM r ?_;intro Q c7 V F h D S);have HY:=gb (P.out V l.out (ad.out.grown h r (λah e=>(z.lt ah e).1)));exact OJ
     ·rw[p]at hx ei;have s:=gb (P0 tt wr an);clear p;go_wp2_with fail;refine s.out.mono ?_;rintro e q ⟨R,j⟩;clear s ai;have o:=d.out.2.2.2.2.trans (j.mono d.out.2.2.2.2.size);rcases R with⟨ll,u,bn,rfl,v⟩|⟨bn,u,rfl⟩
      ·have l:=gd (Z=A (i+1) (st.1,st.2.1,ll)) (by
        exact S8)
       have aJ:yZ w.heap.size u7.ownBlock q u (ll.map gr):=yZ.of v d.out.2.2.2.2.size (λk e=>(d.out.1.lt k e).2);have aC:qq u8 u:=λk hk e=>by
        obtain⟨ws,z1,_⟩:=d.out.2.1;obtain⟨a8,z2,_⟩:=v;have h1:=(z1.lt k hk).2;have h2:=(z2.lt k e).1;exact Oa
       have HY:=vd (d.out.1.below j) (d.out.2.1.below j) aJ aC o;clear ei bn aJ aC o j v d;go_wp2;go_roundw
       case rel=>exact⟨i+1,(st.1,st.2.1,ll),by go_num,by omega,l,HY.out.1,uy aG,HY.out.2.1,uy aF,HY.out.2.2.1,HY.out.2.2.2.1,HY.out.2.2.2.2⟩
       case measure=>exact gQ
      ·have l:=gd (Z=none) (by
        exact S8)
       have HY:=gb (P.out q l.out o);clear ei bn o j d;exact OJ
    ·obtain rfl:i=K:=(by omega);have aZ:¬(i:Int)<i:=Oa;have HY:=gb (aP.out st _ _ _ wr (N.out.trans (aO.out st)) ab (aa.ol.mono (fZ _) (fZ _)) (ac.ol.mono (fZ _) (fZ _)) n);clear ab aa ac n N;exact OJ
  ·have aX:((K:Int) !=C)=true:=(by grind);have HY:=gb (P.out w (M.out.trans (gh az)) (f0 _ _));clear M t I X;exact OJ
section
def SS(w:World)(v:Value)(a:j9):Prop:=∃g o c,v= .slice (some ⟨g,o,none⟩) a.length c/\g<w.heap.size/\∀i,i<a.length->w.cell? ⟨g,o+i,none⟩=some (.string (gJ (a.getD i [])))
theorem SS.below{w w':World}{v:Value}{c:j9}(h:SS w v c)(a:gm w w'):SS w' v c:=by
 obtain⟨g,o,d,e,b,f⟩:=h;exact⟨g,o,d,e,gS b a.size,λi j=>(a.cell (p:=⟨g,o+i,none⟩) b).trans (f i j)⟩
theorem SS.words{w:World}{v:Value}{a:j9}{n:Nat}(h:SS w v a)(l:a.length=n):∃g o c,v= .slice (some ⟨g,o,none⟩) n c/\∀i b,i<n->gm w b->b.cell? ⟨g,o+i,none⟩=some (.string (gJ (a.getD i []))):=by
 obtain⟨g,o,c,e,j,d⟩:=h;rw[l]at e d;exact⟨g,o,c,e,λi b k f=>(f.cell (p:=⟨g,o+i,none⟩) j).trans (d i k)⟩
theorem js{a:j9}(h:∀t∈a,t.length<=10000)(i:Nat):(a.getD i []).length<=10000:=by
 grind
theorem rp{s:iF}{l:gA}(h:jq s=some l):∀x∈l,x<1000000000:=λx a=>by
 unfold jq at h;split at h
 ·grind
 ·obtain⟨y,_,e⟩:=wo h x a;exact jJ e
theorem Bb{s:iF}{l:kl}(h:jK s=some l):∀m∈l,∀x∈m,x<1000000000:=λm a x b=>by
 unfold jK at h;split at h
 ·grind
 ·obtain⟨y,_,e⟩:=wo h m a;split at e
  ·cases e
  ·exact rp e x b
def badT:iF:=[98,97,100]
inductive Kd|n|l|r
def Kd.f:Kd->Nat
 | .n=>33| .l=>34| .r=>44
def Kd.R(s:iF)(v:Value)(w:World):Kd->Prop
 | .n=>∃a:Nat,gX s=some a/\a<1000000000/\v= .int .i64 a
 | .l=>∃a,jq s=some a/\Sl w v (gr a)/\(∀x∈a,x<1000000000)/\a.length<=10001
 | .r=>∃a,jK s=some a/\RL w v (a.map gr)/\∀m∈a,∀x∈m,x<1000000000
def Kd.N(s:iF):Kd->Prop
 | .n=>gX s=none| .l=>jq s=none| .r=>jK s=none
theorem Kd.keep{s:iF}{v:Value}{w w':World}(k:Kd)(h:k.R s v w)(a:gm w w'):k.R s v w':=by
 cases k with
 |n=>exact h
 |l=>exact h.imp λb h=>⟨h.1,h.2.1.below a,h.2.2⟩
 |r=>exact h.imp λb h=>⟨h.1,h.2.1.below a,h.2.2⟩
theorem Kd.reads(k:Kd)(s:iF)(w:World)(d:s.length<=10000)(c:jO w):
 Calls prog k.f #[.string (gJ s)] w λe b=>((∃v,e= .returned v/\k.R s v b)\/(k.N s/\e=mA badT))/\gm w b:=by
 cases k with
 |n=>exact(nE s w d c).mono λe b h=>⟨h.1.imp (λ⟨a,h,e⟩=>⟨_,e,a,h,jJ h,rfl⟩) id,h.2⟩
 |l=>exact(o6 s w d c).mono λe b h=>⟨h.1.imp (λ⟨a,g,h,e,f⟩=>⟨_,e,a,h,f.sl (by rw[gv];have:=mK h;omega),rp h,by have:=mK h;omega⟩) id,h.2⟩
 |r=>exact(adu s w d c).mono λe b h=>⟨h.1.imp (λ⟨a,g,h,e,f⟩=>⟨_,e,a,h,f,Bb h⟩) id,h.2⟩
def ah5(f:Nat):Prop:=∃a,prog.funcs[f]? =some a/\(a.name== "runtime.NumGoroutine")=false/\a.body.isNone=false
theorem Kd.fok(k:Kd):ah5 k.f:=by
 cases k with
 |n=>exact⟨_,func33,by kernel_rfl,by kernel_rfl⟩
 |l=>exact⟨_,func34,by kernel_rfl,by kernel_rfl⟩
 |r=>exact⟨_,func44,by kernel_rfl,by kernel_rfl⟩
section
variable (ks:List Kd) (b i0:Nat)
def opW(k:Nat):Op:=
 if k%4=0 then .move (.tmp 0)
 else if k%4=1 then .indexAddr 37 (.tmp (b+(k-1))) (.const (.int .i64 ((i0+k/4:Nat):Int)))
 else if k%4=2 then .load 9 (.tmp (b+(k-1)))
 else .call {callee:= .value (.func (ks.getD (k/4) .n).f),args:= #[.tmp (b+(k-1))],argTypes:= #[9]}
def Bu(l:List Oper)(D:Nat)(a:List (Nat×Nat))(c:Nat):Bool:=
 LP l ((List.range D).map (b+ ·)) c a&&(List.range (4*ks.length)).all (λk=>decide (k%4=0)||Region.waitsFor .any l.toArray k (k-1))
  &&decide (b+D<=c)&&decide (4*ks.length<=D)&&decide (0<b)&&a.all (λx=>decide (4*ks.length<=x.1))
def rW(a:Nat->Value->World->Prop)(S:Nat->iF)(g f N c k:Nat)(v:Value)(w:World):Prop:=
 if k<4*ks.length then
  if k%4=0 then v= .slice (some ⟨g,f,none⟩) N c
  else if k%4=1 then v= .pointer (some ⟨g,f+(i0+k/4),none⟩)
  else if k%4=2 then v= .string (gJ (S (k/4)))
  else(ks.getD (k/4) .n).R (S (k/4)) v w
 else a k v w
end
theorem wT{P:Program}{ops:Array Oper}{Q:Exit->Act->World->Prop}{o:Oper}{rest:List Oper}{a:Act}{w:World}(b:o.guard=none)(h:o.wp P a w (wpList P ops Q rest) Q):wpList P ops Q (o::rest) a w:=by
 rw[wpList,gl (by simp[Region.wanted,b])];exact .inl h
theorem Jb{P:Program}{rs:Array Value}{i:Nat}{w:World}(h:i<rs.size):(Instr.extract (.tuple rs) i).run P w= .ok (rs.getD i undef) w:=by
 simp[Instr.extract,h]
theorem A9(vals:Nat->Value):∀(b:gA)(k:Nat)(a:Act),∃T,j7 vals k b a={a with tmps:=T}/\T.size=a.tmps.size
 |[],k,a=>⟨_,rfl,rfl⟩
 |d::b,k,a=>by
  obtain⟨T,c,e⟩:=A9 vals b (k+1) (a.put (some d) (vals k));refine⟨T,c,e.trans ?_⟩;show(a.tmps.setIfInBounds d _).size=_;exact On
theorem NZ(vals:Nat->Value)(b:gA)(a:Act)(i d:Nat)(f:b.Nodup)(e:b[i]? =some d)(g:d<a.tmps.size):(j7 vals 0 b a).tmps.getD d undef=vals i:=by
 have c:=wI (vals:=vals) (on:=λ_=>true) b 0 i a d f e g rfl
 rwa [A6 vals _ b 0 a λ_ _ _=>rfl,iL]at c
theorem wS{Q:Exit->Act->World->Prop}{id:Nat}{E:Act}{w:World}{l:List Oper}{d:Bool}(a:List Kd)(b h D:Nat)(t:Nat->Value->World->Prop)(P:List (Nat×Nat))(T:Nat->Value->Value)(S:Nat->iF)(g f N c:Nat)
 (hm:prog.follows .mixedOrders=true) (W:Bu a b l D P E.tmps.size=true) (ai:(d||It l)=true) (ad:(l.take (4*a.length)).map (·.op)=(List.range (4*a.length)).map (opW a b h))
 (aj:E.tmps.getD 0 undef= .slice (some ⟨g,f,none⟩) N c) (Y:h+a.length<=N)
 (al:∀i e,i<a.length->gm w e->e.cell? ⟨g,f+(h+i),none⟩=some (.string (gJ (S i)))/\Calls prog (a.getD i .n).f #[.string (gJ (S i))] e λo j=>((∃v,o= .returned v/\(a.getD i .n).R (S i) v j)\/((a.getD i .n).N (S i)/\o=mA badT))/\gm e j)
 (ak:∀i U e,i<a.length->(a.getD i .n).N (S i)->U.defers=E.defers->gm w e->Q (.panic [{v:= .iface 36 (.string (gJ badT)),recovered:=false}]) U e)
 (ar:∀k v e j,t k v e->gm w e->gm e j->t k v j)
 (ae:∀k p,l[k]? =some p->4*a.length<=k->k<D->ahs prog l.toArray ((List.range D).map (b+ ·)) (rW a h t S g f N c) (Below w.heap.size w) (λe j=>gm e j) Q E P T k p)
 (aa:∀B I,(∀i,i<a.length->(a.getD i .n).R (S i) (B (4*i+3)) I)->(∀k,4*a.length<=k->k<D->t k (B k) I)->gm w I->(∀x∈P,x.1<D->B x.1=T x.1 (B x.2))->wpList prog l.toArray Q (l.drop D) (j7 B 0 ((List.range D).map (b+ ·)) E) I):
 (Code.region id l.toArray d).wp prog Q E w:=by
 simp only[Bu,ia,iK]at W;obtain⟨⟨⟨⟨⟨hD,aw⟩,av⟩,an⟩,ao⟩,au⟩:=W;have ac:∀k p,k<4*a.length->l[k]? =some p->p.op=opW a b h k:=λk p A o=>by
  have q:=jA (λx=>x[k]?) ad;simp only[gY,kT A,o,jZ,i7 A,gH]at q;exact q
 have ap:∀k,k<D->((List.range D).map (b+ ·)).getD k 0=b+k:=λk A=>by
  grind
 have ab:((List.range D).map (b+ ·)).length=D:=by grind
 refine F5 hm ai λw0 am=>EQ (w:=w0) ((List.range D).map (b+ ·)) (rW a h t S g f N c) (Below w.heap.size w) (λe j=>gm e j) P T hD (λk v e j F q r h3=> ?_) (am.elim (λo=>o▸f0 _ _) λo=>o▸(f0 _ _).drew) (λk p A O=> ?_) (λB I K z hl=> ?_)
 ·unfold rW at F⊢;split at F
  ·rename_i y;rw[gl y];split at F
   ·grind
   ·rename_i H;rw[gh H];split at F
    ·grind
    ·rename_i M;rw[gh M];split at F
     ·grind
     ·rename_i V;rw[gh V];exact Kd.keep _ F h3
  grind
 ·rw[ab]at O;by_cases y:k<4*a.length
  ·have n:=ac k p y A;intro C e ag z hf ah hd X;have R:k/4<a.length:=Oa;have J:∀v L,rW a h t S g f N c k v L->gm e L->ag (C.put p.dst v) L:=λv L K r=>X v L K (z.trans (r.mono z.size)) r λx hx o=>by
    grind
   rw[opW]at n;by_cases G:k%4=0
   ·rw[gl G]at n;refine ng _ n (J _ _ ?_ (f0 _ _));rw[rW,gl y,gl G];refine(hf 0 ?_).trans aj
    grind
   have s:rW a h t S g f N c (k-1) (C.tmps.getD (b+(k-1)) undef) e:=by
    grind
   have hq:(k-1)/4=k/4:=Oa;rw[rW,gl Oa,hq]at s;rw[gh G]at n;have aq:((h+k/4:Nat):Int)<N:=Oa;by_cases q:k%4=1
   ·rw[gl q]at n;rw[gl Oa]at s;refine tS (.pointer (some ⟨g,f+(h+k/4),none⟩)) ?_ (J _ _ ?_ (f0 _ _))
    ·have H:C.eval (.tmp (b+(k-1)))=_:=s;have M:C.eval (.const (.int .i64 ((h+k/4:Nat):Int)))= .int .i64 ((h+k/4:Nat):Int):=rfl;unfold execOp;rw[n];simp only[H,M];clear n H M s hd X J ad ac aa ae;generalize h+k/4=af at*;have V:(0:Int)<=af/\(af:Int)<N:=Oa;go_simp
    ·rw[rW,gl y,gh G,gl q]
   rw[gh q]at n;by_cases r:k%4=2
   ·rw[gl r]at n;rw[gh Oa,gl Oa]at s;refine tS (.string (gJ (S (k/4)))) ?_ (J _ _ ?_ (f0 _ _))
    ·have H:C.eval (.tmp (b+(k-1)))=_:=s;unfold execOp;rw[n];simp only[H];go_simp
    ·rw[rW,gl y,gh G,gh q,gl r]
   rw[gh r]at n;rw[gh Oa,gh Oa,gl Oa]at s;obtain⟨fn,e1,e2,e3⟩:=(a.getD (k/4) .n).fok;refine nJ _ _ _ #[.string (gJ (S (k/4)))] n (by rw[lD,jG,mR];exact jA (λx=> #[x]) s) fn e1 e2 e3 ((al (k/4) e R z).2.mono ?_);rintro o j ⟨⟨v,rfl,hR⟩|⟨Y,rfl⟩,Z⟩
   ·refine .inl ⟨v,rfl,J v j ?_ Z⟩;rw[rW,gl y,gh G,gh q,gh r];exact hR
   ·exact .inr ⟨_,rfl,ak _ C j R Y ah (z.trans (Z.mono z.size))⟩
  ·exact ae k p A Oa O
 ·rw[ab]at K hl⊢;refine aa B I (λi R=> ?_) (λk A O=> ?_) z hl
  ·have:=K (4*i+3) Oa
   rwa [rW,gl Oa,gh Oa,gh Oa,gh Oa,show(4*i+3)/4=i by omega]at this
  ·have:=K k O
   rwa [rW,gh Oa]at this
theorem qm{Q:Exit->Act->World->Prop}{id:Nat}{h:Act}{w:World}{l:List Oper}{d:Bool}(a:List Kd)(b k:Nat)(q:gA)(S:Nat->iF)(g f N c:Nat)
 (E:prog.follows .mixedOrders=true) (B:(List.range (4*a.length)).map (b+ ·)=q) (x:Bu a b l (4*a.length) [] h.tmps.size=true) (A:(d||It l)=true) (F:(l.take (4*a.length)).map (·.op)=(List.range (4*a.length)).map (opW a b k))
 (D:h.tmps.getD 0 undef= .slice (some ⟨g,f,none⟩) N c) (y:k+a.length<=N)
 (H:∀i e,i<a.length->gm w e->e.cell? ⟨g,f+(k+i),none⟩=some (.string (gJ (S i)))/\Calls prog (a.getD i .n).f #[.string (gJ (S i))] e λr s=>((∃v,r= .returned v/\(a.getD i .n).R (S i) v s)\/((a.getD i .n).N (S i)/\r=mA badT))/\gm e s)
 (G:∀i p e,i<a.length->(a.getD i .n).N (S i)->p.defers=h.defers->gm w e->Q (.panic [{v:= .iface 36 (.string (gJ badT)),recovered:=false}]) p e)
 (C:∀n j,(∀i,i<a.length->(a.getD i .n).R (S i) (n (4*i+3)) j)->gm w j->wpList prog l.toArray Q (l.drop (4*a.length)) (j7 n 0 q h) j):
 (Code.region id l.toArray d).wp prog Q h w:=
 wS a b k _ (λ_ _ _=>True) [] (λ_ v=>v) S g f N c E x A F D y H G (λ_ _ _ _ o _ _=>o) (λJ K _ I t=>absurd t Oa) λn j o _ z _=>B▸C n j o z
section
variable (ks:List Kd) (m pk tf:Nat) (ty ty2:Array TypeId)
def opK(k:Nat):Op:=
 if k<4*ks.length then opW ks 3 0 k
 else if k=4*ks.length then .call {callee:= .value (.func pk),args:=((List.range ks.length).map λi=>Operand.tmp (6+4*i)).toArray,argTypes:=ty}
 else if k<4*ks.length+1+m then .extract (.tmp (3+4*ks.length)) (k-4*ks.length-1)
 else if k=4*ks.length+1+m then .call {callee:= .value (.func tf),args:=((List.range m).map λi=>Operand.tmp (4+4*ks.length+i)).toArray,argTypes:=ty2}
 else .assign (.tmp (4+4*ks.length+m))
def ak0(l:List Oper)(a:Nat):Bool:=
 Bu ks 3 l (4*ks.length+1+m) ((List.range m).map λj=>(4*ks.length+1+j,4*ks.length)) a
  &&(List.range ks.length).all (λi=>Region.waitsFor .any l.toArray (4*ks.length) (4*i+3))&&(List.range m).all (λj=>Region.waitsFor .any l.toArray (4*ks.length+1+j) (4*ks.length))
  &&decide (4*ks.length+4+m<a)&&decide (l.length=4*ks.length+3+m)&&(l.map (·.dst)==(List.range (4*ks.length+2+m)).map (λk=>some (3+k))++[some 2])&&l.all (λo=>o.guard.isNone)
def rK(A:iF)(k:Nat)(v:Value)(w:World):Prop:=
 k=4*ks.length->∃a,v= .tuple a/\a.size=m/\∀b,gm w b->Calls prog tf a b (TE A b)
end
theorem nC{Q:Exit->Act->World->Prop}{id:Nat}{q:Act}{w:World}{l:List Oper}(a:List Kd)(m pk y:Nat)(ty ac:Array TypeId)(S:Nat->iF)(A:iF)(g f c:Nat){d:Bool}
 (W:prog.follows .mixedOrders=true) (E:ak0 a m l q.tmps.size=true) (af:(d||It l)=true) (aa:l.map (·.op)=(List.range (4*a.length+3+m)).map (opK a m pk y ty ac))
 (ah:q.tmps.getD 0 undef= .slice (some ⟨g,f,none⟩) a.length c) (an:ah5 pk) (aq:ah5 y) (U:jO w)
 (hS:∀i b,i<a.length->gm w b->b.cell? ⟨g,f+i,none⟩=some (.string (gJ (S i)))) (hs:∀i,(S i).length<=10000)
 (ax:∀i,i<a.length->(a.getD i .n).N (S i)->A=badT)
 (ao:∀(vs:Nat->Value) b,gm w b->jO b->(∀i,i<a.length->(a.getD i .n).R (S i) (vs i) b)->Calls prog pk ((List.range a.length).map vs).toArray b λn H=>(∃j,n= .returned (.tuple j)/\j.size=m/\∀s,gm H s->jO s->Calls prog y j s (TE A s))/\gm b H)
 (am:∀N b,N.defers=q.defers->TE A w (mA A) b->Q (.panic [{v:= .iface 36 (.string (gJ A)),recovered:=false}]) N b)
 (ap:∀T b,T.getD 2 undef= .string (gJ A)->TE A w (.returned (.string (gJ A))) b->Q .normal {q with tmps:=T} b):
 (Code.region id l.toArray d).wp prog Q q w:=by
 simp only[ak0,ia,iK,kz]at E;obtain⟨⟨⟨⟨⟨⟨E,au⟩,ar⟩,aE⟩,aC⟩,ag⟩,aj⟩:=E;have X:∀k r,l[k]? =some r->r.op=opK a m pk y ty ac k:=λk r o=>by
  have e:=jA (λx=>x[k]?) aa;have aB:=(lP.1 o).1;simp only[gY,o,jZ,i7 (show k<4*a.length+3+m by omega),gH]at e;exact e
 have az:∀k,k<4*a.length+1+m->((List.range (4*a.length+1+m)).map (3+ ·))[k]? =some (3+k):=λk o=>by
  grind
 have ai:∀k,k<4*a.length+1+m->((List.range (4*a.length+1+m)).map (3+ ·)).getD k 0=3+k:=λk o=>by
  grind
 have aD:((List.range (4*a.length+1+m)).map (3+ ·)).length=4*a.length+1+m:=by grind
 have al:((List.range (4*a.length+1+m)).map (3+ ·)).Nodup:=by
  simp only[Bu,LP,ia,iK]at E
  grind
 refine wS a 3 0 _ (rK a m y A) _ (λk Z=>match Z with| .tuple j=>j.getD (k-4*a.length-1) undef|_=>undef) S g f a.length c W E af ?_ ah Oa (λi b F h=>⟨by grind,Kd.reads _ _ _ (hs _) (U.below h)⟩) (λi N b F hN L h=> ?_) (λk Z b H ad e h3 n=> ?_) (λk r o h4 aA=> ?_) (λG s _ hr h hl=> ?_)
 ·refine ib λk=> ?_;by_cases o:k<4*a.length
  ·have e:=jA (λx=>x[k]?) aa;simp only[gY,i7 (show k<4*a.length+3+m by omega),jZ,opK,gl o]at e;rw[gY,gY,kT o,i7 o,e];rfl
  ·rw[iO Oo,iO Oo]
 ·grind [TE.bad]
 ·obtain⟨j,n,W,hc⟩:=ad n;exact⟨j,n,W,λw' h=>hc w' (h3.trans (h.mono h3.size))⟩
 ·have t:=X k r o;intro M b av h hf ay L hK;have ab:∀p,p<4*a.length+1+m->Region.waitsFor .any l.toArray k p=true->rW a 0 (rK a m y A) S g f a.length c p (M.tmps.getD (3+p) undef) b:=λp V hw=>by
   grind
  rw[opK,gh Oa]at t;by_cases I:k=4*a.length
  ·rw[gl I]at t;obtain⟨O,z,B,e3⟩:=an;refine nJ _ _ _ ((List.range a.length).map λi=>M.tmps.getD (6+4*i) undef).toArray t (by rw[lD,jL];rfl) O z B e3 ((ao _ b h (U.below h) λi F=> ?_).mono ?_)
   ·have e:=gF.1 au i (gC.2 F);have:=ab (4*i+3) Oa (by rw[I];exact e)
    rwa [rW,gl Oa,gh Oa,gh Oa,gh Oa,show(4*i+3)/4=i by omega,show 3+(4*i+3)=6+4*i by omega]at this
   ·rintro n H ⟨⟨j,rfl,D,J⟩,K⟩;refine .inl ⟨_,rfl,hK _ H ?_ (h.trans (K.mono h.size)) K λx Y n=> ?_⟩
    ·rw[rW,gh Oa];exact λ_=>⟨j,rfl,D,λs v=>J s v (U.below ((h.trans (K.mono h.size)).trans (v.mono (gt h.size K.size))))⟩
    ·obtain⟨p,_,rfl⟩:=gK.1 Y;exact Oa
  ·rw[gh I,gl Oa]at t;have e:=gF.1 ar (k-4*a.length-1) (gC.2 Oa);rw[show 4*a.length+1+(k-4*a.length-1)=k by omega]at e;have hp:=ab _ Oa e;rw[rW,gh Oa]at hp;obtain⟨j,D,J,_⟩:=hp rfl;have v:M.eval (.tmp (3+4*a.length))=_:=D;refine tS (j.getD (k-4*a.length-1) undef) ?_ (hK _ _ ?_ h (f0 _ _) λx Y n=> ?_)
   ·unfold execOp;rw[t];simp only[v];have:=Jb (P:=prog) (w:=b) (show k-4*a.length-1<j.size by omega);simp[this]
   ·rw[rW,gh Oa];exact λn=>absurd n I
   ·obtain⟨p,V,rfl⟩:=gK.1 Y;simp only at n⊢;rw[ai _ Oa,D,<-n]
 ·obtain⟨j,D,J,HT⟩:=hr (4*a.length) Oa Oa rfl;have ak:∀p,p<m->G (4*a.length+1+p)=j.getD p undef:=λp V=>by
   rw[hl _ (gK.2 ⟨p,gC.2 V,rfl⟩) Oa]
   grind
  have z:4*a.length+1+m<l.length:=Oa;have B:4*a.length+1+m+1<l.length:=Oa;rw[kG z,kG B,mQ Oa];have o1:=X _ _ (gn z);have o2:=X _ _ (gn B);have hg:∀r∈l,r.guard=none:=(λr t=>by simpa using gF.1 aj r t);have L:∀k (o:k<l.length),l[k].dst=if k<4*a.length+2+m then some (3+k)else some 2:=λk o=>by
   have e:=jA (λx=>x[k]?) ag;simp only[gY,gn o,jZ]at e;by_cases C:k<4*a.length+2+m
   ·rw[gl C];rw[kd (by grind),gY,i7 C]at e;exact gG e
   ·rw[gh C];rw[jE Oo,show k-((List.range (4*a.length+2+m)).map λk=>some (3+k)).length=0 by simp;omega]at e;exact gG e
  rw[opK,gh Oa,gh Oa,gh Oa,gl rfl]at o1;rw[opK,gh Oa,gh Oa,gh Oa,gh Oa]at o2;refine wT (hg _ (iH _)) ?_;obtain⟨O,f1,f2,f3⟩:=aq;refine nJ _ _ _ j o1 ?_ O f1 f2 f3 ((HT s (f0 _ _)).mono ?_)
  ·rw[lD,jL];refine aeA (by simp[J]) λi e C=> ?_;have F:i<m:=Oa;simp only[List.getElem_toArray,vz,sL];show(j7 G 0 _ q).tmps.getD (4+4*a.length+i) undef=_;rw[NZ G _ q (4*a.length+1+i) _ al (by grind) Oa,ak i F];simp[C]
  ·rintro n w9 ⟨v,h9⟩;rcases v with rfl|rfl
   ·refine .inl ⟨_,rfl,wT (hg _ (iH _)) (uV _ o2 ?_)⟩;obtain⟨T,R,aw⟩:=A9 G ((List.range (4*a.length+1+m)).map (3+ ·)) 0 q;rw[L _ z,gl Oa,L _ B,gh Oa,R];refine ap _ w9 ?_ (TE.ret (h.trans (h9.mono h.size)));show((T.setIfInBounds _ _).setIfInBounds 2 ((T.setIfInBounds _ _).getD (4+4*a.length+m) undef)).getD 2 undef=_;rw[show 3+(4*a.length+1+m)=4+4*a.length+m by omega];have ae:4+4*a.length+m<T.size:=Oa;simp[ae,show 2<T.size by omega]
   ·refine .inr ⟨_,rfl,am _ w9 ?_ (TE.bad (h.trans (h9.mono h.size)))⟩;obtain⟨T,R,_⟩:=A9 G ((List.range (4*a.length+1+m)).map (3+ ·)) 0 q;rw[R]
end
def s9(E:Nat->gA->gA->Nat->Int)(f:Nat->gA->gA->Nat->gP)(a:j9):iF:=((gX (a.getD 0 [])).bind λb=>(jq (a.getD 1 [])).bind λc=>(jq (a.getD 2 [])).bind λd=>(gX (a.getD 3 [])).bind λe=>some (if E b c d e=0 then ji (f b c d e)else iJ (E b c d e))).getD badT
def ZH(E:Nat->gA->gA->Nat->Int)(f:Nat->gA->gA->Nat->gP):Prop:=∀(c:Nat)(a:gA)(b:gA)(d:Nat)(g:Value)(h:Value)(e:World),jO e->c<1000000000->Sl e g (gr a)/\(∀x∈a,x<1000000000)/\a.length<=10001->Sl e h (gr b)/\(∀x∈b,x<1000000000)/\b.length<=10001->d<1000000000->Calls prog 32 #[.int .i64 c,g,h,.int .i64 d] e λj i=>∃u0:Value,j= .returned (.tuple #[u0,.int .i64 (E c a b d)])/\(0<=E c a b d/\E c a b d<=6)/\(E c a b d=0->(Sl i u0 (f c a b d)/\(∀x∈f c a b d,ja x)/\(f c a b d).length<=10000))/\(∃k n l,u0= .slice k n l)/\gm e i
theorem aiR(E:Nat->gA->gA->Nat->Int)(d:Nat->gA->gA->Nat->gP)(l:ZH E d)(a:j9)(D:a.length=4)(v:Value)(w:World)(A:jO w)(F:SS w v a)(C:∀I∈a,I.length<=10000):
 Calls prog 30 #[v] w (TE (s9 E d a) w):=by
 obtain⟨x,H,r,rfl,z⟩:=F.words D;go_enter func30,ntmps30;go_wp2;refine nC [.n,.l,.l,.n] 2 32 31 _ _ (λi=>a.getD i []) _ x H r Ob Ob Ob rfl rfl ⟨_,func32,by kernel_rfl,by kernel_rfl⟩ ⟨_,func31,by kernel_rfl,by kernel_rfl⟩ A z (js C) ?_ (λb k O G j=> ?_) (λc k B h=>⟨B,h⟩) (λT k N h=> ?_)
 ·intro i (P:i<4) h;rcases i with _|_|_|_|i<;>first|omega|(simp[Kd.N]at h;simp[s9,h])
 ·obtain⟨e,J,n,s⟩:=j 0 Oc;obtain⟨c,K,o⟩:=j 1 Oc;obtain⟨f,L,p⟩:=j 2 Oc;obtain⟨g,M,q,t⟩:=j 3 Oc;have y:s9 E d a=if E e c f g=0 then ji (d e c f g)else iJ (E e c f g):=by
   grind [s9]
  rw[y];show Calls prog _ #[b 0,b 1,b 2,b 3] k _;rw[s,t];refine(l e c f g (b 1) (b 2) k G n o p q).mono ?_;exact Sj
 ·exact UV
def sY(E:Nat->gA->Int)(d:Nat->gA->Int)(e:Nat->gA->gP)(c:j9):iF:=((gX (c.getD 0 [])).bind λa=>(jq (c.getD 1 [])).bind λb=>some (if E a b=0 then Lib.itoa (d a b)++32::ji (e a b)else iJ (E a b))).getD badT
def ZC(E:Nat->gA->Int)(e:Nat->gA->Int)(d:Nat->gA->gP):Prop:=∀(b:Nat)(a:gA)(f:Value)(c:World),jO c->b<1000000000->Sl c f (gr a)/\(∀x∈a,x<1000000000)/\a.length<=10001->Calls prog 37 #[.int .i64 b,f] c λh g=>∃u1:Value,h= .returned (.tuple #[.int .i64 (e b a),u1,.int .i64 (E b a)])/\(0<=E b a/\E b a<=6)/\(E b a=0->ja (e b a)/\(Sl g u1 (d b a)/\(∀x∈d b a,ja x)/\(d b a).length<=10000))/\(∃i k j,u1= .slice i k j)/\gm c g
theorem aiN(E:Nat->gA->Int)(d:Nat->gA->Int)(e:Nat->gA->gP)(n:ZC E d e)(b:j9)(D:b.length=2)(v:Value)(w:World)(y:jO w)(F:SS w v b)(C:∀J∈b,J.length<=10000):
 Calls prog 35 #[v] w (TE (sY E d e b) w):=by
 obtain⟨s,I,q,rfl,x⟩:=F.words D;go_enter func35,ntmps35;go_wp2;refine nC [.n,.l] 3 37 36 _ _ (λi=>b.getD i []) _ s I q Ob Ob Ob rfl rfl ⟨_,func37,by kernel_rfl,by kernel_rfl⟩ ⟨_,func36,by kernel_rfl,by kernel_rfl⟩ y x (js C) ?_ (λj f P G k=> ?_) (λa f B h=>⟨B,h⟩) (λT f O h=> ?_)
 ·intro i (Q:i<2) h;rcases i with _|_|i<;>first|omega|(simp[Kd.N]at h;simp[sY,h])
 ·obtain⟨c,M,o,r⟩:=k 0 Oc;obtain⟨a,N,p⟩:=k 1 Oc;have t:sY E d e b=if E c a=0 then Lib.itoa (d c a)++32::ji (e c a)else iJ (E c a):=by
   grind [sY]
  rw[t];show Calls prog _ #[j 0,j 1] f _;rw[r];refine(n c a (j 1) f G o p).mono ?_;rintro L V ⟨u1,rfl,l,g,⟨R,U,S,rfl⟩,z⟩;exact⟨⟨_,rfl,rfl,λK A H=>uL _ _ _ _ K l.1 l.2 (λh=>⟨(g h).1,(g h).2.1.below A,(g h).2.2⟩) H⟩,z⟩
 ·exact UV
def sZ(E:Nat->kl->Int)(d:Nat->kl->Int)(c:j9):iF:=((gX (c.getD 0 [])).bind λa=>(jK (c.getD 1 [])).bind λb=>some (if E a b=0 then Lib.itoa (d a b)else iJ (E a b))).getD badT
def ZF(E:Nat->kl->Int)(d:Nat->kl->Int):Prop:=∀(a:Nat)(b:kl)(e:Value)(c:World),jO c->a<1000000000->RL c e (b.map gr)/\(∀m∈b,∀x∈m,x<1000000000)->Calls prog 43 #[.int .i64 a,e] c λf g=>f= .returned (.tuple #[.int .i64 (d a b),.int .i64 (E a b)])/\(0<=E a b/\E a b<=6)/\(E a b=0->ja (d a b))/\gm c g
theorem aiP(E:Nat->kl->Int)(c:Nat->kl->Int)(j:ZF E c)(a:j9)(y:a.length=2)(v:Value)(w:World)(s:jO w)(z:SS w v a)(x:∀C∈a,C.length<=10000):
 Calls prog 41 #[v] w (TE (sZ E c a) w):=by
 obtain⟨p,B,n,rfl,r⟩:=z.words y;go_enter func41,ntmps41;go_wp2;refine nC [.n,.r] 2 43 42 _ _ (λi=>a.getD i []) _ p B n Ob Ob Ob rfl rfl ⟨_,func43,by kernel_rfl,by kernel_rfl⟩ ⟨_,func42,by kernel_rfl,by kernel_rfl⟩ s r (js x) ?_ (λf e H A g=> ?_) (λb e t h=>⟨t,h⟩) (λT e G h=> ?_)
 ·intro i (I:i<2) h;rcases i with _|_|i<;>first|omega|(simp[Kd.N]at h;simp[sZ,h])
 ·obtain⟨d,D,k,o⟩:=g 0 Oc;obtain⟨b,F,l⟩:=g 1 Oc;have q:sZ E c a=if E d b=0 then Lib.itoa (c d b)else iJ (E d b):=by
   grind [sZ]
  rw[q];show Calls prog _ #[f 0,f 1] e _;rw[o];refine(j d b (f 1) e A k l).mono ?_;exact O5
 ·exact UV
def sV(E:Nat->Nat->Int)(d:Nat->Nat->Int)(c:j9):iF:=((gX (c.getD 0 [])).bind λa=>(gX (c.getD 1 [])).bind λb=>some (if E a b=0 then Lib.itoa (d a b)else iJ (E a b))).getD badT
def Zu(E:Nat->Nat->Int)(d:Nat->Nat->Int):Prop:=∀(a:Nat)(b:Nat)(c:World),jO c->a<1000000000->b<1000000000->Calls prog 46 #[.int .i64 a,.int .i64 b] c λe f=>e= .returned (.tuple #[.int .i64 (d a b),.int .i64 (E a b)])/\(0<=E a b/\E a b<=6)/\(E a b=0->ja (d a b))/\gm c f
theorem aiC(E:Nat->Nat->Int)(c:Nat->Nat->Int)(j:Zu E c)(a:j9)(z:a.length=2)(v:Value)(w:World)(t:jO w)(A:SS w v a)(y:∀D∈a,D.length<=10000):
 Calls prog 45 #[v] w (TE (sV E c a) w):=by
 obtain⟨q,C,n,rfl,s⟩:=A.words z;go_enter func45,ntmps45;go_wp2;refine nC [.n,.n] 2 46 42 _ _ (λi=>a.getD i []) _ q C n Ob Ob Ob rfl rfl ⟨_,func46,by kernel_rfl,by kernel_rfl⟩ ⟨_,func42,by kernel_rfl,by kernel_rfl⟩ t s (js y) ?_ (λg e I B f=> ?_) (λb e x h=>⟨x,h⟩) (λT e H h=> ?_)
 ·intro i (J:i<2) h;rcases i with _|_|i<;>first|omega|(simp[Kd.N]at h;simp[sV,h])
 ·obtain⟨d,F,k,o⟩:=f 0 Oc;obtain⟨b,G,l,p⟩:=f 1 Oc;have r:sV E c a=if E d b=0 then Lib.itoa (c d b)else iJ (E d b):=by
   grind [sV]
  rw[r];show Calls prog _ #[g 0,g 1] e _;rw[o,p];refine(j d b e B k l).mono ?_;exact O5
 ·exact UV
def sX(E:Nat->Nat->Nat->Int)(e:Nat->Nat->Nat->Int)(d:j9):iF:=((gX (d.getD 0 [])).bind λa=>(gX (d.getD 1 [])).bind λb=>(gX (d.getD 2 [])).bind λc=>some (if E a b c=0 then Lib.itoa (e a b c)else iJ (E a b c))).getD badT
def ZB(E:Nat->Nat->Nat->Int)(e:Nat->Nat->Nat->Int):Prop:=∀(a:Nat)(b:Nat)(c:Nat)(d:World),jO d->a<1000000000->b<1000000000->c<1000000000->Calls prog 126 #[.int .i64 a,.int .i64 b,.int .i64 c] d λf g=>f= .returned (.tuple #[.int .i64 (e a b c),.int .i64 (E a b c)])/\(0<=E a b c/\E a b c<=6)/\(E a b c=0->ja (e a b c))/\gm d g
theorem aiM(E:Nat->Nat->Nat->Int)(b:Nat->Nat->Nat->Int)(HP:ZB E b)(a:j9)(l:a.length=3)(v:Value)(w:World)(f:jO w)(n:SS w v a)(k:∀t∈a,t.length<=10000):
 Calls prog 125 #[v] w (TE (sX E b a) w):=by
 obtain⟨g,o,d,rfl,e⟩:=n.words l;go_enter func125,ntmps125;go_wp2;refine nC [.n,.n,.n] 2 126 42 _ _ (λi=>a.getD i []) _ g o d Ob Ob Ob rfl rfl ⟨_,func126,by kernel_rfl,by kernel_rfl⟩ ⟨_,func42,by kernel_rfl,by kernel_rfl⟩ f e (js k) ?_ (λvs Z x cG c=> ?_) (λaf Z j h=>⟨j,h⟩) (λT Z s h=> ?_)
 ·intro i (y:i<3) h;rcases i with _|_|_|i<;>first|omega|(simp[Kd.N]at h;simp[sX,h])
 ·obtain⟨ad,p,b0,e0⟩:=c 0 Oc;obtain⟨af,q,b1,e1⟩:=c 1 Oc;obtain⟨aq,r,b2,e2⟩:=c 2 Oc;have hA:sX E b a=if E ad af aq=0 then Lib.itoa (b ad af aq)else iJ (E ad af aq):=by
   grind [sX]
  exact PK
 ·exact UV
def s8(E:Nat->Nat->Nat->Int)(e:Nat->Nat->Nat->Int)(d:j9):iF:=((gX (d.getD 0 [])).bind λa=>(gX (d.getD 1 [])).bind λb=>(gX (d.getD 2 [])).bind λc=>some (if E a b c=0 then Lib.itoa (e a b c)else iJ (E a b c))).getD badT
def ZG(E:Nat->Nat->Nat->Int)(e:Nat->Nat->Nat->Int):Prop:=∀(a:Nat)(b:Nat)(c:Nat)(d:World),jO d->a<1000000000->b<1000000000->c<1000000000->Calls prog 131 #[.int .i64 a,.int .i64 b,.int .i64 c] d λf g=>f= .returned (.tuple #[.int .i64 (e a b c),.int .i64 (E a b c)])/\(0<=E a b c/\E a b c<=6)/\(E a b c=0->ja (e a b c))/\gm d g
theorem aiQ(E:Nat->Nat->Nat->Int)(b:Nat->Nat->Nat->Int)(HP:ZG E b)(a:j9)(l:a.length=3)(v:Value)(w:World)(f:jO w)(n:SS w v a)(k:∀t∈a,t.length<=10000):
 Calls prog 130 #[v] w (TE (s8 E b a) w):=by
 obtain⟨g,o,d,rfl,e⟩:=n.words l;go_enter func130,ntmps130;go_wp2;refine nC [.n,.n,.n] 2 131 42 _ _ (λi=>a.getD i []) _ g o d Ob Ob Ob rfl rfl ⟨_,func131,by kernel_rfl,by kernel_rfl⟩ ⟨_,func42,by kernel_rfl,by kernel_rfl⟩ f e (js k) ?_ (λvs Z x cG c=> ?_) (λaf Z j h=>⟨j,h⟩) (λT Z s h=> ?_)
 ·intro i (y:i<3) h;rcases i with _|_|_|i<;>first|omega|(simp[Kd.N]at h;simp[s8,h])
 ·obtain⟨ad,p,b0,e0⟩:=c 0 Oc;obtain⟨af,q,b1,e1⟩:=c 1 Oc;obtain⟨aq,r,b2,e2⟩:=c 2 Oc;have hA:s8 E b a=if E ad af aq=0 then Lib.itoa (b ad af aq)else iJ (E ad af aq):=by
   grind [s8]
  exact PK
 ·exact UV
def sW(E:Nat->Nat->Int)(d:Nat->Nat->gP)(c:j9):iF:=((gX (c.getD 0 [])).bind λa=>(gX (c.getD 1 [])).bind λb=>some (if E a b=0 then ji (d a b)else iJ (E a b))).getD badT
def Zw(E:Nat->Nat->Int)(c:Nat->Nat->gP):Prop:=∀(a:Nat)(b:Nat)(d:World),jO d->a<1000000000->b<1000000000->Calls prog 137 #[.int .i64 a,.int .i64 b] d λf e=>∃u0:Value,f= .returned (.tuple #[u0,.int .i64 (E a b)])/\(0<=E a b/\E a b<=6)/\(E a b=0->(Sl e u0 (c a b)/\(∀x∈c a b,ja x)/\(c a b).length<=10000))/\(∃g i h,u0= .slice g i h)/\gm d e
theorem aiE(E:Nat->Nat->Int)(c:Nat->Nat->gP)(j:Zw E c)(a:j9)(z:a.length=2)(v:Value)(w:World)(t:jO w)(A:SS w v a)(y:∀D∈a,D.length<=10000):
 Calls prog 136 #[v] w (TE (sW E c a) w):=by
 obtain⟨q,C,n,rfl,s⟩:=A.words z;go_enter func136,ntmps136;go_wp2;refine nC [.n,.n] 2 137 31 _ _ (λi=>a.getD i []) _ q C n Ob Ob Ob rfl rfl ⟨_,func137,by kernel_rfl,by kernel_rfl⟩ ⟨_,func31,by kernel_rfl,by kernel_rfl⟩ t s (js y) ?_ (λg e I B f=> ?_) (λb e x h=>⟨x,h⟩) (λT e H h=> ?_)
 ·intro i (J:i<2) h;rcases i with _|_|i<;>first|omega|(simp[Kd.N]at h;simp[sW,h])
 ·obtain⟨d,F,k,o⟩:=f 0 Oc;obtain⟨b,G,l,p⟩:=f 1 Oc;have r:sW E c a=if E d b=0 then ji (c d b)else iJ (E d b):=by
   grind [sW]
  rw[r];show Calls prog _ #[g 0,g 1] e _;rw[o,p];refine(j d b e B k l).mono ?_;exact Sj
 ·exact UV
end Go.Proofs.YtnnaadmegeeinaaGreatDoor
