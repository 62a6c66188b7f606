/-
  Part 20 of a proof: what it proves stands in the last text.
-/
import Derived.Test.YtnnaadmegeeinaaGreatDoorYs
import Derived.Stop.Asserts
set_option linter.all false
set_option maxHeartbeats 8000000
set_option maxRecDepth 100000
namespace Go.Proofs.YtnnaadmegeeinaaGreatDoor
open Tryz Go.Proofs.Tryz
open Go.RowKit
def g6:=@Option.bind_eq_some_iff
def tO:=@List.mem_of_find?_eq_some
def wZ:=@Option.map_eq_some_iff
def xd:=@UInt8.toNat_inj
def Gc:=@Lib.nDigits_small
def aei:=@Lib.count_one
def aeJ:=@List.length_eq_zero_iff
def al1:=@List.count_eq_zero
theorem Od{p:Prop}(h:p:=by
 have HG:=gb (λV (J:gm w V)=>TE.bad (A:=iJ ae) J);clear hx hW hE;generalize TE (iJ ae) w=G at*;have cH:mA (iJ ae)= .panicked [{v:= .iface 36 (.string (gJ (iJ ae))),recovered:=false}]:=rfl;rw[cH]at HC HG;clear cH;go_enter hF,hM;clear hF hM;go_wp2_with fail;refine HC.out.mono ?_;rintro e Z ⟨rfl,av⟩
 exact⟨rfl,HG.out _ av⟩):p:=h
theorem Og{p:Prop}(h:p:=by
 have HE:=gd (gJ A1++(⟨#[32]⟩:ByteArray)++gJ A2=gJ (A1++32::A2)) (by
  have e:(⟨#[32]⟩:ByteArray)=gJ [32]:=rfl
  grind [lu])
 have HC:=gb (pX w);have HG:=gb (λV (J:gm w V)=>TE.ret (A:=A1++32::A2) J);generalize TE (A1++32::A2) w=G at*;go_enter hF,hM;clear hF hM;go_wp2_with fail;refine HC.out.mono ?_;rintro e Z ⟨rfl,av⟩;have aO:=gb av;clear av;go_wp2_with fail;refine(HT.out _ aO.out).mono ?_;rintro e aj ⟨rfl,ar⟩;have aT:=gb (aO.out.trans (ar.mono aO.out.size));clear ar;go_wp2_with fail;refine(HU.out _ aT.out).mono ?_;rintro e w3 ⟨rfl,aP⟩;have bG:=gb (aT.out.trans (aP.mono aT.out.size));have HZ:=gb (HG.out _ bG.out);rw[<-HE.out]at HZ;clear aP
 exact OO):p:=h
theorem Ok{p:Prop}(h:p:=by
 have HC:=gb (pX w);have HG:=gb (λV (J:gm w V)=>TE.ret (A:=A) J);generalize TE A w=G at*;go_enter hF,hM;clear hF hM
 exact K3):p:=h
theorem Mu{p:Prop}(h:p:=by
 have HB:=gb J;clear ho J eh eR;go_wp2_with fail;refine dP.out.mono ?_;rintro e w6 ⟨rfl,aY⟩;have fy:=gb (HB.out.trans (aY.mono HB.out.size));clear aY;go_wp2;go_ret
 exact⟨rfl,fy.out⟩):p:=h
theorem Db{p:Prop}(h:p:=by
 rw[jH,gn bO,eR.out,jf]
 rfl):p:=h
theorem Dj{p:Prop}(h:p:=by
 go_wp2
 exact HG.out):p:=h
theorem K3{p:Prop}(h:p:=by
 go_wp2_with fail;refine HC.out.mono ?_;rintro e Z ⟨rfl,av⟩;have aO:=gb av;clear av;go_wp2_with fail;refine(HT.out _ aO.out).mono ?_;rintro e aj ⟨rfl,ar⟩;have aT:=gb (aO.out.trans (ar.mono aO.out.size));clear ar;go_wp2
 exact HG.out _ aT.out):p:=h
theorem K6{p:Prop}(h:p:=by
 have HC:=gb (qY ae Oa h6 w)
 exact Od):p:=h
def T1(c:UInt8):Prop:=48<=c.toNat/\c.toNat<=57
instance (c:UInt8):Decidable (T1 c):=by unfold T1;infer_instance
def Ae:Nat->iF->Option Nat
 |a,[]=>some a
 |a,c::r=>if T1 c then Ae (a*10+(c.toNat-48)) r else none
theorem Hh(c:UInt8):∀(s:iF)(a:Nat),Ae a (s++[c])=(Ae a s).bind λn=>if T1 c then some (n*10+(c.toNat-48))else none
 |[],a=>rfl
 |x::s,a=>by
  rw[jD,Ae,Ae];split
  ·exact Hh c s _
  ·rfl
theorem LT:∀(s:iF)(a n:Nat),Ae a s=some n->n<(a+1)*10^s.length
 |[],a,n,h=>by cases h;simp
 |c::s,a,n,h=>by
  rw[Ae]at h;split at h
  ·rename_i b;have d:=LT s _ n h;have e:(a*10+(c.toNat-48)+1)*10^s.length<=((a+1)*10)*10^s.length:=iB _ (by have:=b.2;omega)
   grind
  ·exact Sb
theorem IL:∀(s:iF)(a:Nat),(a+1)*10^s.length<=1000000000->∀n,Lib.parseUint10 a s= .ok n↔Ae a s=some n
 |[],a,_,n=>by simp[Lib.parseUint10,Ae]
 |c::s,a,h,n=>by
  rw[iP,mS,ka (10^s.length),<-BP]at h;have e:1<=10^s.length:=my _ _ Oc;have f:(a+1)*10<=(a+1)*10*10^s.length:=k9 _ e;unfold Lib.parseUint10;rw[Ae];by_cases b:T1 c
  ·have d:48<=c.toNat/\c.toNat<=57:=b;rw[gl d,gl b,gh Oa,gh Oa];refine IL s _ (gt (iB _ ?_) h) n;exact Oa
  ·have d:¬(48<=c.toNat/\c.toNat<=57):=b
   grind
theorem Ab{u:Nat}(h:¬u<10):Lib.decDigits u=Lib.decDigits (u/10)++[UInt8.ofNat (48+u%10)]:=by rw[Lib.decDigits,dif_neg h]
theorem aay{c:UInt8}(h:T1 c):UInt8.ofNat (48+(c.toNat-48))=c:=by
 rw[show 48+(c.toNat-48)=c.toNat by have:=h.1;omega];exact OK
theorem ak1{d:Nat}(h:d<10):(UInt8.ofNat (48+d)).toNat=48+d:=Oo
theorem Aa:∀(k u:Nat),u<=k->∀x∈Lib.decDigits u,T1 x
 |0,u,h,x,a=>by
  obtain rfl:u=0:=Oa;rw[ns Oc,jM]at a;subst a;decide
 |k+1,u,h,x,a=>by
  by_cases b:u<10
  ·rw[ns b,jM]at a
   grind [T1,ak1]
  ·rw[Ab b]at a;rcases li.1 a with a|a
   ·exact Aa k (u/10) Oa x a
   grind [T1,ak1]
theorem Vl:∀(k u:Nat),1<=k->u<10^k->Lib.nDigits u<=k
 |1,u,_,h=>by rw[Gc Oa];omega
 |k+2,u,_,h=>by
  by_cases a:u<10
  ·rw[Gc a];omega
  ·rw[Lib.nDigits_big a];have:=Vl (k+1) (u/10) Oa (by grind);exact Oa
theorem aaE:∀(k:Nat)(s:iF)(n:Nat),s.length=k+1->(k=0\/s.getD 0 0≠48)->Ae 0 s=some n->Lib.decDigits n=s/\(s.getD 0 0≠48->0<n)
 |0,s,n,d,_,h=>by
  obtain⟨c,rfl⟩:=List.length_eq_one_iff.1 d;rw[Ae]at h;split at h
  ·rename_i a;cases h;rw[pH,iL,ns (by have:=a.2;omega),aay a];refine⟨rfl,λh=> ?_⟩;have:c.toNat≠48:=λf=>h (xd.1 f);have:=a.1;exact Oa
  ·exact Sb
 |k+1,s,n,d,b,h=>by
  have e:s≠[]:=(by grind);obtain⟨t,c,rfl⟩:∃t c,s=t++[c]:=⟨s.dropLast,s.getLast e,(R9 e).symm⟩;rw[gz,jQ]at d;have g:(t++[c]).getD 0 0=t.getD 0 0:=by
   grind
  rw[g]at b⊢;have b:t.getD 0 0≠48:=b.resolve_left Oa;rw[Hh]at h;obtain⟨m,l,h⟩:=g6.1 h;split at h
  ·rename_i a;cases h;obtain⟨i,j⟩:=aaE k t m Oa (.inr b) l;have o:=j b;have p:=a.2;rw[Ab Oa,show(m*10+(c.toNat-48))/10=m by omega,show(m*10+(c.toNat-48))%10=c.toNat-48 by omega,i,aay a]
   grind
  ·exact Sb
theorem Vm(s:iF):gX s=if s.length=0\/9<s.length\/(1<s.length/\s.getD 0 0=48)then none else Ae 0 s:=by
 match s with
 |[]=>exact rU λn h=>Sb
 |c::r=>
  have z:(c::r).length=r.length+1:=rfl;by_cases l:9<(c::r).length
  ·rw[gl (.inr (.inl l))];rcases e:Lib.atoiAll (c::r)with v|_|_
   ·rw[zs e,gh Oa]
   ·grind [rU]
   grind [rU]
  ·have B:(c::r).getD 0 0=c:=rfl;by_cases t:c.toNat=43\/c.toNat=45
   ·have b:Ae 0 (c::r)=none:=by
     rw[Ae,gh]
     grind [T1]
    have A:gX (c::r)=none:=by
     rcases e:Lib.atoiAll (c::r)with v|_|_
     ·rw[zs e,gh];rintro⟨_,j,a⟩;unfold Lib.itoa at a;rw[gh Oa]at a;have:=Aa _ v.toNat (fZ _) c (by grind)
      grind [T1]
     ·grind [rU]
     grind [rU]
    grind
   ·have q:(0+1)*10^(c::r).length<=1000000000:=by
     have:10^(c::r).length<=10^9:=gN Oc Oa;exact Oa
    have o:∀v,Lib.atoiAll (c::r)= .ok v↔∃n,Ae 0 (c::r)=some n/\v=(n:Int):=λv=>by
     have p:=IL (c::r) 0 q;unfold Lib.atoiAll;simp only;rw[gh t];unfold Lib.parseMag;rw[gh On];cases w:Lib.parseUint10 0 (c::r)with
     |ok x=>
      have d:=(p x).1 w;have g:=LT _ _ _ d
      grind
     |_=>
      grind
    cases b:Ae 0 (c::r)with
    |none=>
     grind [rU]
    |some n=>
     have d:=zs ((o n).2 ⟨n,b,rfl⟩);rw[d,iZ];have a:Lib.itoa (n:Int)=Lib.decDigits n:=(by unfold Lib.itoa;grind);by_cases j:1<(c::r).length/\c=48
     ·have f:(c::r).length=0\/9<(c::r).length\/(1<(c::r).length/\(c::r).getD 0 0=48):= .inr (.inr (by grind));rw[gl f,gh];rintro⟨_,_,i⟩;rw[a]at i;have g:Ae 0 r=some n:=by
       rw[Ae]at b;exact OK
      have y:=LT _ _ _ g;have k:=Vl r.length n Oa Oa;rw[<-yQ,i]at k;exact Oa
     ·have f:¬((c::r).length=0\/9<(c::r).length\/(1<(c::r).length/\(c::r).getD 0 0=48)):=by
       grind
      rw[gh f,gl];refine⟨by omega,by omega,?_⟩;rw[a];refine(aaE r.length (c::r) n rfl ?_ b).1
      grind
theorem ag2{c:UInt8}{a b:iF}(h:c∉a):pj c (a++c::b)=a::pj c b:=by
 unfold pj;rw[aei,aei,ux,List.count_cons_self,al1.2 h,show 0+(List.count c b+1)=List.count c b+1 by omega];unfold Lib.splitK;rw[xB h,gh (by grind)];simp only[iZ,jQ,kp];rw[List.take_left,show(a++c::b).drop (a.length+1)=b by simp];cases h:List.count c b<;>rfl
theorem Jg{c:UInt8}{a:iF}(h:c∉a):pj c a=[a]:=by
 unfold pj;rw[aei,al1.2 h];rfl
theorem aj5{c:UInt8}{T:iF}{f i:Nat}(d:f<=i)(hi:i<T.length)(g:c∉(T.drop f).take (i-f))(a:T.getD i 0=c):pj c (T.drop f)=(T.drop f).take (i-f)::pj c (T.drop (i+1)):=by
 rw[gc,gn hi,iQ]at a;have e:T.drop f=(T.drop f).take (i-f)++c::T.drop (i+1):=by
  rw[<-a,<-kG hi];have b:=aid (i-f) (T.drop f)
  grind [List.drop_drop]
 grind [ag2]
theorem acL{c:UInt8}{T:iF}{f i:Nat}(b:f<=i)(hi:i<T.length)(d:c∉(T.drop f).take (i-f))(a:¬T.getD i 0=c):c∉(T.drop f).take (i+1-f):=by
 rw[show i+1-f=(i-f)+1 by omega,jH,Cu,show f+(i-f)=i by omega,gn hi]
 grind
theorem info9:(prog.info? 9).map (λi=>(i.zero,i.size,i.bytes))=some (some (.string ByteArray.empty),1,16):=Ob
theorem abF(v:Value)(ws:j9)(c:UInt8)(B:Nat)(w:World)(a:Ow 9 B w v (ws.map λx=> .string (gJ x)))(o:ws.length<=1000000)(z:(Lib.join ws [c]).length<=100000000):
 Calls prog 101 #[v,.string ⟨#[c]⟩] w λe d=>e= .returned (.string (gJ (Lib.join ws [c])))/\gm w d:=by
 cases ws with
 |nil=>
  obtain⟨f,b,rfl⟩:=a.len;refine(Any.strings_Join_none If JC f b ⟨#[c]⟩ w).mono ?_;rintro e d ⟨rfl,rfl⟩;exact⟨by rw[wU];rfl,f0 _ _⟩
 |cons x r=>
  obtain⟨h,b,rfl,q,k⟩:=a.form On;have p:=a.cap.1;have g:((x::r).map λx=>Value.string (gJ x)).length=((x::r).map gJ).length:=On;have n:((x::r).map gJ).map (·.data.toList)=x::r:=by
   rw[jL];exact(jn λy _=>kK y).trans (J9 _)
  have t:((x::r).map gJ).length<=1000000:=(by grind);rw[g];refine(Any.strings_Join If JC h 0 b ((x::r).map gJ) ⟨#[c]⟩ w (λj y s=> ?_) k Oa Oa ?_).mono ?_
  ·have l:j<((x::r).map λx=>Value.string (gJ x)).length:=by
    grind
   rw[iL,a.cell j l]
   grind
  ·grind
  ·rintro e d ⟨rfl,i⟩;rw[n];exact⟨rfl,i⟩
def kb(l:gP):iF:=Lib.join (l.map Lib.itoa) [44]
theorem mf{n:Int}(h:ja n):(Lib.itoa n).length<=20:=by
 have d:∀a:Nat,a<=9223372036854775808->(Lib.decDigits a).length<=19:=λa f=>by
  rw[yQ];apply gx;intro e;have c:∀k a:Nat,k+1<Lib.nDigits a->10^(k+1)<=a:=by
   intro k
   induction k with
   |zero=>
    intro a h;by_cases b:a<10
    ·rw[Gc b]at h;omega
    ·exact Oa
   |succ k g=>
    intro a h;by_cases b:a<10
    ·grind
    ·rw[Lib.nDigits_big b]at h
     grind
  grind
 unfold ja at h;unfold Lib.itoa
 grind
theorem tp{ws:j9}{c:UInt8}{m:Nat}(h:∀x∈ws,x.length<=m):(Lib.join ws [c]).length<=(m+1)*ws.length:=by
 cases ws with
 |nil=>simp[wU]
 |cons x r=>
  rw[qK];have e:∀r:j9,(∀x∈r,x.length<=m)->(Lib.joinTail [c] r).length<=(m+1)*r.length:=by
   intro r
   induction r with
   |nil=>intro _;simp[Lib.joinTail]
   |cons y r d=>
    intro h;have a:=d λz b=>h z (by simp[b]);have f:=h y On;unfold Lib.joinTail at a⊢
    grind [Nat.mul_succ]
  grind [Nat.mul_succ]
theorem tX{l:gP}(h:∀x∈l,ja x):(kb l).length<=21*l.length:=by
 have:=tp (ws:=l.map Lib.itoa) (c:=44) (m:=20) λx a=>by
  obtain⟨y,b,rfl⟩:=gK.1 a
  grind [mf]
 rw[gv]at this;exact this
theorem Iu(v:Value)(l:gP)(w:World)(g:Sl w v l)(hi:∀x∈l,ja x)(h:l.length<=10000)(o:jO w):
 Calls prog 100 #[v] w λe U=>e= .returned (.string (gJ (kb l)))/\gm w U:=by
 have C:=gb (λ(z:Int)(b:World)(h:ja z)(J:gm w b)=>Ns z b h (o.below J))
 have E:=gb (λ(v:Value)(b:World)(a:j9)(I:a=l.map Lib.itoa)(ho:Ow 9 w.heap.size b v (a.map λx=> .string (gJ x)))=>abF v a 44 w.heap.size b ho (by grind) (by
  rw[I];have:=tX hi
  grind [kb]))
 have G:=gd (Lib.join (l.map Lib.itoa) [44]=kb l) rfl;have D:=gb hi;have W:=gb g;obtain⟨X,Y,N,rfl,hN,aa,P⟩:=g.open;rw[hN.out]at h;clear g hi o;go_enter func100,ntmps100;go_wp2_with fail;go_loopw [3,5,8] (λV _ k wr=>∃(t:Nat)(a:j9),k= .int .i64 t/\t<=N/\Hid (a=(l.take t).map Lib.itoa)/\a.length=t/\Ow 9 w.heap.size wr V (a.map λx=> .string (gJ x))/\gm w wr) (λ_ _ k _=>N-(intOf k).toNat)
 case atStart=>exact⟨0,[],rfl,ge _,gb rfl,rfl,Ow.nil _ _ _,f0 _ _⟩
 case round=>
  obtain⟨t,a,rfl,ht,eR,ab,ho,J⟩:=hrel;by_cases y:t<N
  ·have R:(t:Int)<N:=(by omega);have bO:t<l.length:=(by rw[hN.out];exact y);obtain⟨d,T,rfl,K,q⟩:=P Oa;have L:=(J.cell (p:=⟨d,T+t,none⟩) K).trans (q t y);rw[gn bO,iQ]at L;have n:=gb (C.out l[t] wr (D.out _ (iH bO)) J)
   have H:=gd (a++[Lib.itoa l[t]]=(l.take (t+1)).map Lib.itoa) (by
    exact Db)
   have c:=gR ho J;have Q:(a.map λx=>Value.string (gJ x)).length<=1000000000000:=(by grind);have S:(a.map λx=>Value.string (gJ x)).length=t:=(by grind);clear ho J eR q;generalize l[t]=x at*;go_wp2_with fail;refine n.out.mono ?_;rintro e w6 ⟨rfl,aY⟩;have i:=c.out.1.below aY;have f:=c.out.2.trans (aY.mono c.out.2.size);have s:=f.size;have B:=gb f;clear aY n f;go_wp2_with (at_builtin;refine jt w6 _ _ 37 9 (.string ByteArray.empty) 16 rfl rfl underlying37 info9 rfl Oc w.heap.size _ _ rfl i rfl rfl Q s ?_;intro Z c9 w9 j r M O);have A:=gb (B.out.grown r s (λd e=>(i.lt d e).1));rw[S]at j;have F:=gb j;clear i j r M O;go_roundw
   case rel=>exact⟨t+1,a++[Lib.itoa x],by go_num,by omega,H,by grind,by rw[jf];exact F.out,A.out⟩
   case measure=>exact gQ
  ·obtain rfl:t=N:=(by omega);have R:¬(t:Int)<t:=Oa;have eh:a=l.map Lib.itoa:=(by rw[eR.out,ie MJ]);have dP:=gb (E.out _ wr a eh ho);rw[eh,G.out]at dP;exact Mu
def y3(s:iF)(w:World)(e:Ending)(w':World):Prop:=
 ((∃a b B U,jK s=some a/\e= .returned b/\RL w' b (a.map gr)/\OL B U w' b (a.map gr))\/(jK s=none/\e=mA [98,97,100]))/\gm w w'
def aeP(s:iF)(w:World)(e:Ending)(w':World):Prop:=
 ((∃a b,jK s=some a/\e= .returned b/\RL w' b (a.map gr))\/(jK s=none/\e=mA [98,97,100]))/\gm w w'
theorem mK{s:iF}{l:gA}(h:jq s=some l):l.length<=s.length+1:=by
 grind [jq,AI,sf]
theorem wo{c d:Type}{f:c->Option d}:∀{l:List c}{r:List d},l.mapM f=some r->∀y∈r,∃x∈l,f x=some y
 |[],r,h,y,a=>by grind
 |e::l,r,h,y,a=>by
  rw[pF]at h;cases g:f e with
  |none=>grind
  |some i=>
   cases b:l.mapM f with
   |none=>grind
   |some q=>
    simp[g,b]at h;subst h;rcases m9.1 a with rfl|a
    ·grind
    ·obtain⟨x,k,j⟩:=wo b y a
     grind
theorem xV{s:iF}{ll:kl}(h:jK s=some ll):ll.length<=s.length+1/\∀l∈ll,l.length<=s.length+1:=by
 unfold jK at h;split at h
 ·grind
 ·refine⟨by grind [AI,sf],λl a=> ?_⟩;obtain⟨x,b,e⟩:=wo h l a;split at e
  ·cases e
  ·have:=mK e;have:=oO 47 s x b;exact Oa
theorem I6(s:iF)(w:World)(hs:s.length<=10000)(F:jO w):
 Calls prog 44 #[.string (gJ s)] w (y3 s w):=by
 have y:=gb (FU s w Oa F.lib 47);have HN:=gb (λ(t:iF)(w1:World)(ht:t.length<=10000)(a:gm w w1)=>o6 t w1 ht (F.below a));have ak:=gb (oO 47 s);have ao:=sf 47 s;have S:=gd (∀l e b B U,jK s=some l->OL B U b e (l.map gr)->RL b e (l.map gr)->gm w b->y3 s w (.returned e) b) (λl e b B U h r ho a=>⟨.inl ⟨l,e,B,U,h,rfl,ho,r⟩,a⟩);have T:=gd (∀b,jK s=none->gm w b->y3 s w (mA [98,97,100]) b) (λb h a=>⟨.inr ⟨h,rfl⟩,a⟩);have V:=gd (¬s=[45]->jK s=(pj 47 s).mapM λw=>if w=[45]then none else jq w) (λh=>gh h);have W:=gd (s=[45]->jK s=some []) (λh=>gl h);have al:=gd (∀x,jK s=some x->x.length<=s.length+1/\∀l∈x,l.length<=s.length+1) (λx h=>xV h);clear F;generalize y3 s w=az at*;have H:mA [98,97,100]= .panicked [{v:= .iface 36 (.string ⟨#[98,97,100]⟩),recovered:=false}]:=rfl;go_enter func44,ntmps44;by_cases dd:s=[45]
 ·have HZ:=gb (S.out [] (.slice none 0 0) w 0 0 (W.out dd) (OL.nil _ _ _) ⟨none,0,rfl,by simp,λh=>by simp at h⟩ (f0 _ _));have hq:((gJ s).toList==[45])=true:=UO;clear dd H;exact OO
 ·have hq:((gJ s).toList==[45])=false:=(by rw[jB,kK,gL];exact dd);have cu:=gb (V.out dd);clear dd V W;generalize pj 47 s=d at*;obtain⟨c,E⟩:∃c,d.length=c:=⟨_,rfl⟩;rw[E]at y ao;have ec:=gb E;have af:=gb H;clear E H;go_wp2_with fail;refine y.out.mono ?_;rintro D w4 ⟨gs,rfl,ac,G⟩;have X:=gR ac G;have aw:=G.size;clear ac G y;go_wp2_with fail;obtain⟨g,an⟩:∃g,g=w4:=⟨_,rfl⟩;subst an;go_loopw [3,5,11] (λlv _ L wr=>∃(t:Nat)(l:kl),L= .int .i64 t/\t<=c/\OL g.heap.size wr.heap.size wr lv (l.map gr)/\Hid ((d.take t).mapM (λw=>if w=[45]then none else jq w)=some l)/\l.length=t/\gm g wr) (λ_ _ L _=>c-(intOf L).toNat)
  case atStart=>exact⟨0,[],rfl,ge _,OL.nil _ _ _,gb rfl,rfl,f0 _ _⟩
  case round=>
   obtain⟨t,l,rfl,ht,j,HR,aE,a⟩:=hrel;have f:=gb (X.out.2.trans (a.mono aw));by_cases cL:t<c
   ·have ar:(t:Int)<c:=(by omega);have J:t<d.length:=Dc;obtain⟨m1,m2⟩:=t7 HR.out J;have o:=gb m1;have A:=gb m2;have aF:=ak.out _ (iH J);have Z:=(X.out.1.below a).cell t (by grind);have aa:(d.map λQ=>Value.string (gJ Q))[t]? =some (.string (gJ d[t])):=(by simp[J]);rw[aa]at Z;have R:=gb (HN.out d[t] wr Oa f.out);have n:=gR j a;clear j a aa m1 m2 HR;generalize d[t]=P at*;by_cases i:P=[45]
    ·have HZ:=gb (T.out wr (cu.out.trans (o.out (gl i))) f.out);have aq:((gJ P).toList==[45])=true:=(by rw[i,jB];rfl);rw[af.out]at HZ;clear i o A;go_wp2;exact O1
    ·have aq:((gJ P).toList==[45])=false:=(by rw[jB,kK,gL];exact i);have z:=gb (λh=>o.out (by rw[if_neg i];exact h));have C:=gb (λay h=>A.out ay (by rw[if_neg i];exact h));clear i o A;go_wp2_with fail;refine R.out.mono ?_;rintro D w5 ⟨hA,p⟩;have ae:=gb (f.out.trans (p.mono f.out.size));have q:=n.out.2.trans (p.mono n.out.2.size);have r:=n.out.1.below p;have ax:=n.out.2.size;clear p R Z;rcases hA with⟨M,e,k,rfl,K⟩|⟨k,rfl⟩
     ·have HM:=gb (C.out M k);obtain⟨ua,uc,eu⟩:=K.len;subst eu;have HU:=gb K;generalize (List.map (λQ:Nat=>(Q:Int)) M).length=un at*;obtain⟨O,N,o2,o3,o4⟩:=r;have av:O.length<=1000000000000:=(by grind);have ah:=gb o2;have ai:=gb o3;have aj:=gb o4;have ad:=q.size;have ag:=gb q;have au:O.length=t:=(by grind);clear k z C q K o2 o3 o4;go_wp2_with (at_builtin;refine jt w5 _ _ 46 45 (.slice none 0 0) 24 rfl rfl underlying46 info45 rfl Oc g.heap.size _ O rfl N rfl rfl av ad ?_;intro aB aA w8 ap ab aC aD);go_roundw
      case rel=>
       have Y:=OL.snoc N ah.out ai.out aj.out HU.out ax ap ab;rw[au]at Y;refine⟨t+1,l++[M],by go_num,by omega,by rw[jf];exact Y,HM,by simp;omega,ag.out.grown ab ad (λam D=>(N.lt am D).1)⟩
      case measure=>exact gQ
     ·have HZ:=gb (T.out w5 (cu.out.trans (z.out k)) ae.out);clear k z C r q;exact O1
   ·obtain rfl:t=c:=(by omega);have ar:¬(t:Int)<t:=Oa;have I:jK s=some l:=MK;obtain⟨r1,r2⟩:=al.out _ I
    have HZ:=gb (S.out l _ wr _ _ I j (j.rl (by grind) (λaG hi=>by
     grind [gr])) f.out)
    clear j a HR I r1 r2;exact OO
theorem adu(s:iF)(w:World)(e:s.length<=10000)(d:jO w):
 Calls prog 44 #[.string (gJ s)] w (aeP s w):=
 (I6 s w e d).mono λi j h=>⟨h.1.imp (λ⟨f,g,_,_,a,b,c,_⟩=>⟨f,g,a,b,c⟩) id,h.2⟩
def iJ(E:Int):iF:=
 if E=1 then[69,114,114,82,97,110,103,101]else if E=2 then[69,114,114,83,104,97,112,101]else if E=3 then[69,114,114,70,117,108,108]else if E=4 then[69,114,114,78,111,110,101]else if E=5 then[69,114,114,83,121,110,116,97,120]else[69,114,114,84,119,105,99,101]
theorem pX(w:World):Calls prog 103 #[.int .i64 0] w λe b=>e= .returned (.tuple #[])/\gm w b:=by
 have a:=gb ((f0 w.heap.size w).alloc (fZ _) (.cells #[.string ⟨#[79,75]⟩,.string ⟨#[69,114,114,82,97,110,103,101]⟩,.string ⟨#[69,114,114,83,104,97,112,101]⟩,.string ⟨#[69,114,114,70,117,108,108]⟩,.string ⟨#[69,114,114,78,111,110,101]⟩,.string ⟨#[69,114,114,83,121,110,116,97,120]⟩,.string ⟨#[69,114,114,84,119,105,99,101]⟩] 9));go_enter func103,ntmps103;go_wp2
 first|go_end0|skip
 exact⟨rfl,a.out⟩
theorem qY(E:Int)(c:1<=E)(d:E<=6)(w:World):Calls prog 103 #[.int .i64 E] w λe b=>e=mA (iJ E)/\gm w b:=by
 have a:=gb ((f0 w.heap.size w).alloc (fZ _) (.cells #[.string ⟨#[79,75]⟩,.string ⟨#[69,114,114,82,97,110,103,101]⟩,.string ⟨#[69,114,114,83,104,97,112,101]⟩,.string ⟨#[69,114,114,70,117,108,108]⟩,.string ⟨#[69,114,114,78,111,110,101]⟩,.string ⟨#[69,114,114,83,121,110,116,97,120]⟩,.string ⟨#[69,114,114,84,119,105,99,101]⟩] 9));obtain rfl|rfl|rfl|rfl|rfl|rfl:E=1\/E=2\/E=3\/E=4\/E=5\/E=6:=Oa
 all_goals
  go_enter func103,ntmps103;go_wp2;exact⟨rfl,rfl,a.out⟩
theorem VK(T:iF)(a b:Nat):(gJ T).extract a b=gJ ((T.drop a).take (b-a)):=by
 have h:((gJ T).extract a b).data.toList=(T.drop a).take (b-a):=by
  rw[ByteArray.data_extract,Array.toList_extract,kK]
 have c:gJ ((gJ T).extract a b).data.toList=(gJ T).extract a b:=rfl
 grind
theorem FV(T:iF)(i:Nat)(h:i<(gJ T).size):(gJ T)[i]'h=T.getD i 0:=by
 have a:i<T.length:=by grind [iw]
 have b:(gJ T)[i]'h=T[i]:=rfl
 grind
def wN(ws:j9):np:=ws.map λx=> .string (gJ x)
theorem vn(T:iF)(c:UInt8)(w:World)(hT:T.length<=10000):
 Calls prog 17 #[.string (gJ T),.int .u8 (c.toNat:Int)] w λj J=>∃I,j= .returned I/\Ow 9 w.heap.size J I (wN (pj c T))/\gm w J:=by
 have ad:=iw T;have N:=gb (FV T);have B:=gb (VK T);have K:=gb (λf i x l z v=>aj5 (c:=c) (T:=T) (f:=f) (i:=i) x l z v);have M:=gb (λf i x l z v=>acL (c:=c) (T:=T) (f:=f) (i:=i) x l z v);have O:=gb (λ(P:iF)(C:c∉P)=>Jg C);go_enter func17,ntmps17;go_wp2;go_loopw [5,6,7] (λY R A wr=>∃(d:j9)(f i:Nat),R= .int .i64 f/\A= .int .i64 i/\f<=i/\i<=T.length/\d.length<=i/\Hid (pj c T=d++pj c (T.drop f))/\Hid (c∉(T.drop f).take (i-f))/\Ow 9 w.heap.size wr Y (wN d)/\gm w wr) (λ_ _ A _=>T.length-(intOf A).toNat)
 case atStart=>exact⟨[],0,0,rfl,rfl,fZ _,ge _,ge _,gb rfl,gb On,Ow.nil _ _ _,f0 _ _⟩
 case round=>
  obtain⟨d,f,i,rfl,rfl,F,l,ac,g,h,k,a⟩:=hrel;have n:=a.size;have E:(wN d).length<=1000000000000:=(by grind [wN]);by_cases G:i<T.length
  ·have X:(i:Int)<T.length:=(by omega);have ab:=N.out i Oa;have o:=gb (K.out f i F G h.out);have r:=gb (M.out f i F G h.out);generalize T.getD i 0=b at*;by_cases e:b=c
   ·have D:(b.toNat:Int)=c.toNat:=(by rw[e]);have q:=gd (pj c T=(d++[(T.drop f).take (i-f)])++pj c (T.drop (i+1))) (by rw[g.out,o.out e];simp);have U:(f:Int)<=i:=Oa;have s:=gb (B.out f i);have p:=gb a;clear o r e g h a;go_wp2_with (at_builtin;rw[s.out];refine jt wr _ _ 37 9 (.string ByteArray.empty) 16 rfl rfl underlying37 info9 rfl Oc w.heap.size _ (wN d) rfl k rfl rfl E n ?_;intro S Q Z H y V W);go_roundw
    case rel=>exact⟨_,i+1,i+1,by go_num,by go_num,fZ _,by omega,by simp;omega,q,gb On,by grind [wN],p.out.grown y n (λb j=>(k.lt b j).1)⟩
    case measure=>exact gQ
   ·have D:¬(b.toNat:Int)=c.toNat:=λC=>e (xd.1 Oa);have aa:((b.toNat:Int)==c.toNat)=false:=gL.2 D;have L:=gb (r.out e);clear o r e;go_wp2;go_roundw
    case rel=>exact⟨d,f,i+1,by grind,by go_num,by omega,by omega,by omega,g,L,k,a⟩
    case measure=>exact gQ
  ·obtain rfl:i=T.length:=(by omega);have X:¬(T.length:Int)<T.length:=Oa;have t:(T.drop f).take (T.length-f)=T.drop f:=ie (by grind);have q:=gd (pj c T=d++[(T.drop f).take (T.length-f)]) (by rw[g.out,O.out _ (by rw[<-t];exact h.out),t]);have s:=gb (B.out f T.length);have U:(f:Int)<=T.length:=Oa;have p:=gb a;clear g h a t;go_wp2_with (at_builtin;rw[s.out];refine jt wr _ _ 37 9 (.string ByteArray.empty) 16 rfl rfl underlying37 info9 rfl Oc w.heap.size _ (wN d) rfl k rfl rfl E n ?_;intro S Q Z H y V W);go_ret;exact⟨_,rfl,by rw[q.out];unfold wN at*;simpa using H,p.out.grown y n (λb j=>(k.lt b j).1)⟩
def Ez(s:iF)(w:World)(e:Ending)(w':World):Prop:=
 ((∃n:Nat,gX s=some n/\e= .returned (.tuple #[.int .i64 n,.bool true]))\/(gX s=none/\e= .returned (.tuple #[.int .i64 0,.bool false])))/\w'=w
theorem aaI{s:iF}{i a:Nat}(hi:i<s.length):Ae a (s.drop i)=if T1 (s.getD i 0)then Ae (a*10+((s.getD i 0).toNat-48)) (s.drop (i+1))else none:=by
 grind [List.drop_eq_getElem_cons,Ae]
theorem wA(s:iF)(w:World)(W:s.length<=10000):
 Calls prog 52 #[.string (gJ s)] w (Ez s w):=by
 have c:=gb (Vm s);have X:=iw s;have l:=gb (FV s);have v:=gd (∀n:Nat,gX s=some n->Ez s w (.returned (.tuple #[.int .i64 n,.bool true])) w) (λn h=>⟨.inl ⟨n,h,rfl⟩,rfl⟩);have f:=gd (gX s=none->Ez s w (.returned (.tuple #[.int .i64 0,.bool false])) w) (λh=>⟨.inr ⟨h,rfl⟩,rfl⟩);have t:=gb (λi o (h:i<s.length)=>aaI (s:=s) (i:=i) (a:=o) h);generalize Ez s w=I at*;generalize gX s=R at*;go_enter func52,ntmps52;by_cases x:s.length=0
 ·have j:(s.length:Int)=0:=(by omega);have HG:=gb (f.out (c.out.trans (gl (.inl x))));clear j;exact Dj
 have j:¬(s.length:Int)=0:=Oa;have M:((s.length:Int)==0)=false:=gL.2 j;by_cases z:9<s.length
 ·have A:(9:Int)<s.length:=(by omega);have HG:=gb (f.out (c.out.trans (gl (.inr (.inl z)))));exact Dj
 have A:¬(9:Int)<s.length:=Oa;have F:=l.out 0 Oa;by_cases g:1<s.length/\s.getD 0 0=48
 ·have y:(1:Int)<s.length:=(by omega);have HG:=gb (f.out (c.out.trans (gl (.inr (.inr g)))));have r:((s.getD 0 0).toNat:Int)=48:=(by rw[g.2];rfl);clear g;generalize s.getD 0 0=b at*;exact Dj
 have J:=gb (c.out.trans (gh (by
  grind)))
 have G:¬1<s.length\/1<s.length/\¬s.getD 0 0=48:=by
  grind
 clear g c;rcases G with p|⟨p,q⟩
 rotate_left
 have y:(1:Int)<s.length:=Oa;have r:¬((s.getD 0 0).toNat:Int)=48:=λh=>q (xd.1 (by grind));have Z:(((s.getD 0 0).toNat:Int)==48)=false:=gL.2 r;clear q;generalize s.getD 0 0=L at*;go_wp2
 rotate_left
 go_wp2
 all_goals
  clear F p;go_loopw [4,5] (λH k wr=>∃n i:Nat,H= .int .i64 n/\k= .int .i64 i/\i<=s.length/\n<10^i/\Hid (R=Ae n (s.drop i))/\wr=w) (λ_ k _=>s.length-(intOf k).toNat)
  case atStart=>grind
  case round=>
   obtain⟨n,i,rfl,rfl,S,T,e,rfl⟩:=hrel;have U:n<1000000000:=by
    have:10^i<=10^9:=gN Oc Oa;exact Oa
   by_cases E:i<s.length
   ·have D:(i:Int)<s.length:=(by omega);have Y:=l.out i Oa;have d:=gb (e.out.trans (t.out i n E));clear e;generalize s.getD i 0=b at*;have N:b.toNat<256:=UInt8.toNat_lt b;by_cases a:T1 b
    ·have K:=gb (d.out.trans (gl a));have B:¬(b.toNat:Int)<48:=(by have:=a.1;omega);have O:¬(57:Int)<b.toNat:=(by have:=a.2;omega);have Q:(b.toNat:Int)-48=((b.toNat-48:Nat):Int):=Oa;have V:n*10+(b.toNat-48)<10^(i+1):=Oa;clear a d;exact Rp
    ·have HG:=gb (f.out (d.out.trans (gh a)));unfold T1 at a;by_cases B:b.toNat<48
     ·have C:(b.toNat:Int)<48:=(by omega);clear a d;exact Dj
     ·have C:¬(b.toNat:Int)<48:=(by omega);have P:(57:Int)<b.toNat:=Oa;clear a d;exact Dj
   ·obtain rfl:i=s.length:=(by omega);have D:¬(s.length:Int)<s.length:=Oa;have HG:=gb (v.out n (by rw[e.out,qr];rfl));clear e;exact Dj
def uM(s:iF):Option gA:=(pj 44 s).mapM gX
theorem XI:gX [45]=none:=by rw[Vm];rfl
theorem N9(s:iF):jK s=if s=[45]then some []else(pj 47 s).mapM uM:=by
 unfold jK;congr 2;funext x;split
 ·rename_i h;subst h;unfold uM;rw[show pj 44 [45]=[[45]]from Jg Oc,pF,XI];rfl
 ·rename_i h;unfold jq;rw[gh h];rfl
def yU(s:iF)(w:World)(e:Ending)(w':World):Prop:=
 ((∃l a,uM s=some l/\e= .returned (.tuple #[a,.bool true])/\OI w.heap.size w' a (gr l))\/(uM s=none/\e= .returned (.tuple #[.slice none 0 0,.bool false])))/\gm w w'
def yY(s:iF)(w:World)(e:Ending)(w':World):Prop:=
 ((∃l a,jq s=some l/\e= .returned (.tuple #[a,.bool true])/\OI w.heap.size w' a (gr l))\/(jq s=none/\e= .returned (.tuple #[.slice none 0 0,.bool false])))/\gm w w'
def y4(s:iF)(w:World)(e:Ending)(w':World):Prop:=
 ((∃b a,jK s=some b/\e= .returned (.tuple #[a,.bool true])/\OL w.heap.size w'.heap.size w' a (b.map gr))\/(jK s=none/\∃a,e= .returned (.tuple #[a,.bool false])))/\gm w w'
theorem tH{ws:j9}{t:Nat}(h:t<ws.length):(wN ws)[t]? =some (.string (gJ ws[t])):=by simp[wN,h]
theorem ot(ws:j9):(wN ws).length=ws.length:=by simp[wN]
theorem yq(s:iF)(w:World)(hs:s.length<=10000):
 Calls prog 139 #[.string (gJ s)] w (yU s w):=by
 have r:=gb (vn s 44 w Oa);have H:=gb (λ(I:iF)(W:World)(A:I.length<=10000)=>wA I W A);have K:=gb (oO 44 s);have Q:=sf 44 s;have L:=gb (show 0<(pj 44 s).length by rw[um];omega);have cK:=gd (∀l e a,uM s=some l->OI w.heap.size a e (gr l)->gm w a->yU s w (.returned (.tuple #[e,.bool true])) a) (λl e a i S J=>⟨.inl ⟨l,e,i,rfl,S⟩,J⟩);have F:=gd (∀a,uM s=none->gm w a->yU s w (.returned (.tuple #[.slice none 0 0,.bool false])) a) (λa i J=>⟨.inr ⟨i,rfl⟩,J⟩);have cu:=gd (uM s=(pj 44 s).mapM gX) rfl;generalize yU s w=Y at*;generalize pj 44 s=d at*;obtain⟨NW,j⟩:∃NW,d.length=NW:=⟨_,rfl⟩;rw[j]at Q;have ec:=gb j;clear j;go_enter func139,ntmps139;go_wp2_with fail;refine r.out.mono ?_;rintro M X ⟨v4,rfl,n,k⟩;obtain⟨g4,c4,v,_⟩:=n.form (by rw[ot];exact L.out);rw[ot,ec.out]at v;subst v;have t:=gR n k;have eg:=k.size;clear n k r;go_wp2_with fail;obtain⟨b,O⟩:∃b,b=X:=⟨_,rfl⟩;subst O;go_loopw [4,6,7,8] (λV p _ _ wr=>∃(I:Nat)(l:gA),p= .int .i64 I/\I<=NW/\OI b.heap.size wr V (gr l)/\Hid ((d.take I).mapM gX=some l)/\l.length=I/\gm b wr) (λ_ p _ _ _=>NW-(intOf p).toNat)
 case atStart=>exact⟨0,[],rfl,ge _,OI.nil _ _,gb rfl,rfl,f0 _ _⟩
 case round=>
  obtain⟨I,l,rfl,A,hl,HR,ad,J⟩:=hrel;have aO:=gb (t.out.2.trans (J.mono eg));by_cases cL:I<NW
  ·have cV:(I:Int)<NW:=(by omega);have o:I<d.length:=Dc;obtain⟨B,C⟩:=t7 HR.out o;have g:=gb B;have h:=gb C;have ae:=K.out _ (iH o);have x:=(t.out.1.below J).cell I (by grind [ot]);rw[tH o]at x;have q:=gb (H.out d[I] wr Oa);have f:=gR hl J;clear hl J B C HR;generalize d[I]=wt at*;go_wp2_with fail;refine q.out.mono ?_;rintro M E ⟨N,U⟩;subst U;clear q x;rcases N with⟨D,c,rfl⟩|⟨c,rfl⟩
   ·have G:=gb (h.out D c);have R:(gr l).length<=1000000000000:=(by grind [gr]);have y:=f.out.1;have z:=f.out.2.size;clear c g h;go_wp2_with (at_builtin;refine g8 E _ _ 45 rfl rfl underlying45 info3 b.heap.size _ _ rfl y rfl R z ?_;intro aa Z w8 T P ab ac);go_roundw
    case rel=>exact⟨I+1,l++[D],by go_num,by omega,T.cast (by simp[gr]),G,by simp;omega,y.grown f.out.2 P z⟩
    case measure=>exact gQ
   ·have HZ:=gb (F.out E (cu.out.trans (g.out c)) aO.out);clear c g h;exact OO
  ·exact Pw
theorem Cc(s:iF)(w:World)(q:s.length<=10000):
 Calls prog 53 #[.string (gJ s)] w (yY s w):=by
 have f:=gb (yq s w q);have cK:=gd (∀l c a,jq s=some l->OI w.heap.size a c (gr l)->gm w a->yY s w (.returned (.tuple #[c,.bool true])) a) (λl c a h p b=>⟨.inl ⟨l,c,h,rfl,p⟩,b⟩);have n:=gd (∀a,jq s=none->gm w a->yY s w (.returned (.tuple #[.slice none 0 0,.bool false])) a) (λa h b=>⟨.inr ⟨h,rfl⟩,b⟩);have g:=gd (¬s=[45]->jq s=uM s) (λh=>gh h);have bp:=gd (s=[45]->jq s=some []) (λh=>gl h);generalize yY s w=G at*;go_enter func53,ntmps53;by_cases dd:s=[45]
 ·exact Pt
 ·have hq:((gJ s).toList==[45])=false:=(by rw[jB,kK,gL];exact dd);have i:=gb (g.out dd);clear dd g bp;go_wp2_with fail;refine f.out.mono ?_;rintro r k ⟨o,b⟩;have e:=gb b;clear b f;rcases o with⟨l,c,d,rfl,j⟩|⟨d,rfl⟩
  ·have HZ:=gb (cK.out l c k (i.out.trans d) j e.out);clear d j;exact OO
  ·have HZ:=gb (n.out k (i.out.trans d) e.out);clear d;exact OO
theorem P0(s:iF)(w:World)(hs:s.length<=10000):
 Calls prog 54 #[.string (gJ s)] w (y4 s w):=by
 have J:=gb (vn s 47 w Oa);have HN:=gb (λ(t:iF)(w1:World)(R:t.length<=10000)=>yq t w1 R);have af:=gb (oO 47 s);have aj:=sf 47 s;have ag:=gb (show 0<(pj 47 s).length by rw[um];omega);have G:=gd (∀l f b,jK s=some l->OL w.heap.size b.heap.size b f (l.map gr)->gm w b->y4 s w (.returned (.tuple #[f,.bool true])) b) (λl f b h ho a=>⟨.inl ⟨l,f,h,rfl,ho⟩,a⟩);have ab:=gd (∀b,jK s=none->gm w b->y4 s w (.returned (.tuple #[.slice none 0 0,.bool false])) b) (λb h a=>⟨.inr ⟨h,_,rfl⟩,a⟩);have H:=gd (¬s=[45]->jK s=(pj 47 s).mapM uM) (λh=>(N9 s).trans (gh h));have I:=gd (s=[45]->jK s=some []) (λh=>gl h);generalize y4 s w=ap at*;go_enter func54,ntmps54;by_cases dd:s=[45]
 ·have HZ:=gb (G.out [] (.slice none 0 0) w (I.out dd) (OL.nil _ _ _) (f0 _ _));exact Rs
 have hq:((gJ s).toList==[45])=false:=by rw[jB,kK,gL];exact dd
 have cu:=gb (H.out dd);clear dd H I;generalize pj 47 s=g at*;obtain⟨c,v⟩:∃c,g.length=c:=⟨_,rfl⟩;rw[v]at aj;have ec:=gb v;clear v;go_wp2_with fail;refine J.out.mono ?_;rintro r w4 ⟨v4,rfl,y,x⟩;obtain⟨g4,c4,L,_⟩:=y.form (by rw[ot];exact ag.out);rw[ot,ec.out]at L;subst L;have K:=gR y x;have S:=x.size;clear y x J;go_wp2_with fail;obtain⟨d,ai⟩:∃d,d=w4:=⟨_,rfl⟩;subst ai;go_loopw [4,6,7,8] (λlv B _ _ wr=>∃(t:Nat)(l:kl),B= .int .i64 t/\t<=c/\OL d.heap.size wr.heap.size wr lv (l.map gr)/\Hid ((g.take t).mapM uM=some l)/\l.length=t/\gm d wr) (λ_ B _ _ _=>c-(intOf B).toNat)
 case atStart=>exact⟨0,[],rfl,ge _,OL.nil _ _ _,gb rfl,rfl,f0 _ _⟩
 case round=>
  obtain⟨t,l,rfl,R,n,HR,aw,a⟩:=hrel;have o:=gb (K.out.2.trans (a.mono S));by_cases cL:t<c
  ·have al:(t:Int)<c:=(by omega);have z:t<g.length:=Dc;obtain⟨T,U⟩:=t7 HR.out z;have p:=gb T;have q:=gb U;have ax:=af.out _ (iH z);have M:=(K.out.1.below a).cell t (by grind [ot]);rw[tH z]at M;have F:=gb (HN.out g[t] wr Oa);have i:=gR n a;clear n a T U HR;generalize g[t]=wt at*;go_wp2_with fail;refine F.out.mono ?_;rintro r Y ⟨hA,j⟩;have Z:=gb (o.out.trans (j.mono o.out.size));have k:=i.out.2.trans (j.mono i.out.2.size);have O:=i.out.1.below j;have ao:=i.out.2.size;clear j F M;rcases hA with⟨C,f,e,rfl,A⟩|⟨e,rfl⟩
   ·have HM:=gb (q.out C e);obtain⟨ua,uc,eu⟩:=A.len;subst eu;have HU:=gb A;generalize (gr C).length=un at*;obtain⟨E,D,V,W,X⟩:=O;have an:E.length<=1000000000000:=(by grind);have ac:=gb V;have ad:=gb W;have ae:=gb X;have Q:=k.size;have aa:=gb k;have am:E.length=t:=(by grind);clear e p q k A V W X;go_wp2_with (at_builtin;refine jt Y _ _ 46 45 (.slice none 0 0) 24 rfl rfl underlying46 info45 rfl Oc d.heap.size _ E rfl D rfl rfl an Q ?_;intro ar aq w8 ak N au av);go_roundw
    case rel=>
     have h9:=OL.snoc D ac.out ad.out ae.out HU.out ao ak N;rw[am]at h9;refine⟨t+1,l++[C],by go_num,by omega,by grind,HM,by simp;omega,aa.out.grown N Q (λah r=>(D.lt ah r).1)⟩
    case measure=>exact gQ
   ·have HZ:=gb (ab.out Y (cu.out.trans (p.out e)) Z.out);clear e p q O k;exact OO
  ·obtain rfl:t=c:=(by omega);have al:¬(t:Int)<t:=Oa;have P:jK s=some l:=MK;have HZ:=gb (G.out l _ wr P (n.mono S (fZ _)) o.out);clear n a HR P;exact OO
section
def yZ(B:Nat)(q:Option Nat)(w:World)(v:Value)(ll:lO):Prop:=
 ∃a:np,Ow 45 B w v a/\a.length=ll.length/\∀i,i<ll.length->OI B w (a.getD i undef) (ll.getD i [])/\((a.getD i undef).ownBlock=none\/(a.getD i undef).ownBlock≠q)
section
variable {B:Nat} {q:Option Nat} {w w' w1:World} {v v' u:Value} {ll:lO} {l:gP}
theorem yZ.nil(B:Nat)(q:Option Nat)(w:World):yZ B q w (.slice none 0 0) []:=⟨[],Ow.nil _ _ _,rfl,λi h=>by simp at h⟩
theorem yZ.ol(h:yZ B q w v ll):OL B w.heap.size w v ll:=by
 obtain⟨f,b,e,c⟩:=h;exact⟨f,b,λk a=>(b.lt k a).2,e,λi d=>⟨(c i d).1,λk a=>((c i d).1.lt k a).2⟩⟩
theorem yZ.below(h:yZ B q w v ll)(b:gm w w'):yZ B q w' v ll:=by
 obtain⟨f,d,e,a⟩:=h;exact⟨f,d.below b,e,λi c=>⟨(a i c).1.below b,(a i c).2⟩⟩
theorem yZ.of{a U:Nat}(h:OL a U w v ll)(c:B<=a)(o:∀k,q=some k->k<a):yZ B q w v ll:=by
 obtain⟨e,g,_,j,b⟩:=h;refine⟨e,g.mono c,j,λi d=>⟨(b i d).1.mono c,?_⟩⟩;cases f:(e.getD i undef).ownBlock with
 |none=>grind
 |some k=>
  refine .inr λl=> ?_;have n:=((b i d).1.lt k f).1
  grind
theorem yZ.num{o:Nat}{a j:Value}(h:yZ B a.ownBlock w v ll)(y:OI o w a l)(f:w.grownBy w' a.ownBlock)(x:∀g,j.ownBlock=some g->a.ownBlock=some g\/w.heap.size<=g):yZ B j.ownBlock w' v ll:=by
 obtain⟨n,d,q,b⟩:=h;refine⟨n,d.kept f ?_,q,λi c=>⟨(b i c).1.kept f (b i c).2,?_⟩⟩
 ·rcases kA d y with e|e
  ·grind
  grind
 ·obtain⟨r,s⟩:=b i c;cases e:(n.getD i undef).ownBlock with
  |none=>grind
  |some k=>
   refine .inr λp=> ?_;rw[e]at s;rcases x k p.symm with t|t
   ·grind
   ·have:=(r.lt k e).2;exact Oa
theorem yZ.keptL{d:Nat}{u2:Value}{n:np}(h:yZ B q w v ll)(l:Ow 45 d w u2 n)(j:qq u2 v)(c:w.grownBy w' u2.ownBlock):yZ B q w' v ll:=by
 obtain⟨o,f,g,a⟩:=h;refine⟨o,f.kept c ?_,g,λi b=>⟨(a i b).1.kept c (kA l (a i b).1),(a i b).2⟩⟩;cases e:u2.ownBlock with
 |none=>
  grind
 |some k=>exact .inr (j k e)
theorem yZ.snoc{a:np}(d:Ow 45 B w v a)(b:a.length=ll.length)(c:∀i,i<ll.length->OI B w (a.getD i undef) (ll.getD i [])/\((a.getD i undef).ownBlock=none\/(a.getD i undef).ownBlock≠q))(g:OI B w u l)(j:u.ownBlock=none\/u.ownBlock≠q)(h:Ow 45 B w1 v' (a++[u]))(f:w.grownBy w1 v.ownBlock):yZ B q w1 v' (ll++[l]):=by
 refine⟨a++[u],h,by simp[b],λi k=> ?_⟩;by_cases e:i<ll.length
 ·rw[gc,kd Oa,<-gc,gc (l:=ll++[l]),kd e,<-gc];exact⟨(c i e).1.kept f (kA d (c i e).1),(c i e).2⟩
 ·obtain rfl:i=ll.length:=(by grind);rw[gc,<-b,jE (fZ _),jU,b,gc,jE (fZ _),jU];exact⟨g.kept f (kA d g),j⟩
end
def mw:Type:=gA×kl×kl
def Zf(c:UInt8)(t:iF)(a:mw):Option mw:=
 if c=110 then(gX t).map λx=>(a.1++[x],a.2.1,a.2.2)
 else if c=108 then(jq t).map λx=>(a.1,a.2.1++[x],a.2.2)
 else(jK t).map λx=>(a.1,a.2.1,x)
def qi:List (UInt8×iF)->mw->Option mw
 |[],a=>some a
 |z::r,a=>(Zf z.1 z.2 a).bind (qi r)
theorem ajX{a:List (UInt8×iF)}{b:mw}{i:Nat}(hi:i<a.length):qi (a.drop i) b=(Zf a[i].1 a[i].2 b).bind (qi (a.drop (i+1))):=by
 rw[kG hi];rfl
def AX:List (iF×iF):=[([102,105,101,108,100],[110,110]),([98,101,97,100,115],[110,110]),([98,114,117,105,106,110],[110,110]),([99,97,115,99,97,100,101],[110,110]),([116,105,109,101,115],[110,110,110,110]),([114,111,119],[110,108,108,110]),([108,101,97,115,116],[110,108]),([100,105,102,102,101,114],[110,108]),([99,121,99,108,101,115],[108]),([98,101,110,116],[108]),([99,111,117,108,100],[108]),([111,114,100,101,114],[110,114]),([101,120,116,101,110,100],[110,114]),([108,101,118,101,108],[110,114,110]),([116,114,105,112,108,101,115],[110]),([114,117,108,101,114],[110]),([99,105,114,99,108,101],[110]),([103,97,117,115,115],[110,110,110]),([114,97,111],[110,110,110])]
def rj(T:iF):Option iF:=(AX.find? λc=>c.1==T).map (·.2)
def lE(T:iF)(b:j9):Option mw:=
 match rj T with
 |none=>none
 |some a=>if a.length=b.length then qi (a.zip b) ([],[],[])else none
theorem acI{T a:iF}(h:rj T=some a):a≠[63]/\a.length<=4/\∀c∈a,c=110\/c=108\/c=114:=by
 unfold rj at h;cases e:AX.find? (λc=>c.1==T)with
 |none=>grind
 |some p=>
  rw[e]at h;have b:p.2=a:=gG h;have d:=tO e;rw[<-b];have:∀p∈AX,p.2≠[63]/\p.2.length<=4/\∀c∈p.2,c=110\/c=108\/c=114:=Oc
  grind
def S3(z:Option mw)(w:World)(e:Ending)(w':World):Prop:=
 ((∃(a:mw)(c b d:Value),z=some a/\e= .returned (.tuple #[c,b,d,.bool true])/\OI w.heap.size w' c (gr a.1)/\OL w.heap.size w'.heap.size w' b (a.2.1.map gr)/\OL w.heap.size w'.heap.size w' d (a.2.2.map gr))\/(z=none/\e= .returned (.tuple #[.slice none 0 0,.slice none 0 0,.slice none 0 0,.bool false])))/\gm w w'
end
def RT(w:World)(v:Value)(ll:lO):Prop:=
 RL w v ll/\∀(b:Nat)(c:Array Value)(t:TypeId),t≠45->t≠3->w.heap[b]? =some (.cells c t (0,0))->∀a,w.grownBy a (some b)->RL a v ll
theorem Ow.kind{E:TypeId}{B:Nat}{w:World}{v:Value}{xs:np}(h:Ow E B w v xs){k:Nat}(b:v.ownBlock=some k):∃a,w.heap[k]? =some (.cells a E (0,0)):=by
 rcases h.2 with⟨rfl,_⟩|⟨g,c,a,rfl,_,d,_⟩
 ·simp[Value.ownBlock]at b
 ·simp[Value.ownBlock]at b
  grind
theorem Ow.keptK{E:TypeId}{B b:Nat}{w w':World}{v:Value}{xs:np}{ys:Array Value}{t:TypeId}(h:Ow E B w v xs)(f:w.heap[b]? =some (.cells ys t (0,0)))(i:t≠E)(a:w.grownBy w' (some b)):Ow E B w' v xs:=by
 refine h.kept a ?_;rcases c:v.ownBlock with _|k
 ·grind
 ·refine .inr λe=> ?_;cases gG e;obtain⟨d,g⟩:=h.kind c
  grind
theorem RT.own{B U:Nat}{w:World}{v:Value}{s:iF}{ll:kl}(h:OL B U w v (ll.map gr))(t:s.length<=10000)(j:jK s=some ll):RT w v (ll.map gr):=by
 obtain⟨x,y⟩:=xV j
 have e:∀b,OL B U b v (ll.map gr)->RL b v (ll.map gr):=λb g=>g.rl (by grind) (λi a=>by
  rw[gv]at a;rw[gc,gY,gn a];simp only[jZ,iQ,gr,gv]
  grind)
 refine⟨e w h,λr A z k l c b d=>e b ?_⟩;obtain⟨q,n,o,p,f⟩:=h;exact⟨q,n.keptK c k d,o,p,λi a=>⟨(f i a).1.keptK c l d,(f i a).2⟩⟩
theorem RT.below{w w':World}{v:Value}{ll:lO}(h:RT w v ll)(a:gm w w'):RT w' v ll:=by
 refine⟨h.1.below a,λc n t i j e l b=> ?_⟩;rcases jh c w.heap.size with f|p
 ·refine h.2 c n t i j ((a.block c f).symm.trans e) l ⟨b.os.trans a.os,b.tape.trans a.tape,b.output.trans a.output,gt a.size b.size,λk d g=> ?_⟩;exact(b.block k (gS d a.size) g).trans (a.block k d)
 ·exact h.1.below (a.grown b a.size (λk o=>by grind))
theorem oJ{P:Program}{t xT:TypeId}{u:TypeDesc}(a:P.underlying t=some u)(b:∀m,u≠ .interface m)(v:Value)(w:World):(Instr.typeAssert (.iface t v) xT t true).run P w= .ok (.tuple #[v,.bool true]) w:=by
 cases u with
 |interface m=>grind
 |_=>simp[Instr.typeAssert,pN a]
theorem mh{P:Program}{t xT a:TypeId}{u:TypeDesc}{z:Value}(d:P.underlying a=some u)(g:∀m,u≠ .interface m)(c:t≠a)(e:(P.info? a).map (·.zero)=some (some z))(v:Value)(w:World):(Instr.typeAssert (.iface t v) xT a true).run P w= .ok (.tuple #[z,.bool false]) w:=by
 obtain⟨j,b,f⟩:=wZ.1 e;cases u with
 |interface m=>grind
 |_=>simp[Instr.typeAssert,pN d,c,zeroValue,typeInfo,b,f]
theorem tI(n:Int)(w:World)(c:ja n)(a:jO w):
 Calls prog 27 #[.iface 3 (.int .i64 n)] w λe g=>e= .returned (.string (gJ (Lib.itoa n)))/\gm w g:=by
 have i:=λ(v:Value)(w:World)=>oJ (P:=prog) (xT:=20) underlying3 (λm h=>by cases h) v w;have f:=gb (Ns n w c a);clear a c;go_enter func27,ntmps27;go_wp2_with fail;refine f.out.mono ?_;rintro e j ⟨rfl,b⟩;have d:=gb b;clear b;go_wp2;go_ret;exact⟨rfl,d.out⟩
theorem adX(s:ByteArray)(w:World):
 Calls prog 27 #[.iface 9 (.string s)] w λe b=>e= .returned (.string s)/\gm w b:=by
 have c:=λ(v:Value)(w:World)=>mh (P:=prog) (t:=9) (xT:=20) (z:= .int .i64 0) underlying3 (λm h=>by cases h) Oc Ob v w;have d:=λ(v:Value)(w:World)=>oJ (P:=prog) (xT:=20) underlying9 (λm h=>by cases h) v w;have a:=gb (f0 w.heap.size w);go_enter func27,ntmps27;go_wp2;go_ret;exact⟨rfl,a.out⟩
def nn(b:Bool):iF:=if b=true then[121,101,115]else[110,111]
theorem YC(b:Bool)(w:World):
 Calls prog 27 #[.iface 4 (.bool b)] w λe a=>e= .returned (.string (gJ (nn b)))/\gm w a:=by
 have c:=λ(v:Value)(w:World)=>mh (P:=prog) (t:=4) (xT:=20) (z:= .int .i64 0) underlying3 (λm h=>by cases h) Oc Ob v w;have d:=λ(v:Value)(w:World)=>mh (P:=prog) (t:=4) (xT:=20) (z:= .string ByteArray.empty) underlying9 (λm h=>by cases h) Oc Ob v w;have f:=λ(v:Value)(w:World)=>oJ (P:=prog) (xT:=20) underlying4 (λm h=>by cases h) v w;have HB:=gb (f0 w.heap.size w);cases b with
 |true=>
  go_enter func27,ntmps27;exact MW
 |false=>
  go_enter func27,ntmps27;exact MW
def ji(l:gP):iF:=if l=[]then[45]else kb l
theorem ur(v:Value)(l:gP)(w:World)(d:Sl w v l)(hi:∀x∈l,ja x)(n:l.length<=10000)(f:jO w):
 Calls prog 27 #[.iface 45 v] w λe o=>e= .returned (.string (gJ (ji l)))/\gm w o:=by
 have q:=λ(v:Value)(w:World)=>mh (P:=prog) (t:=45) (xT:=20) (z:= .int .i64 0) underlying3 (λm h=>by cases h) Oc Ob v w;have r:=λ(v:Value)(w:World)=>mh (P:=prog) (t:=45) (xT:=20) (z:= .string ByteArray.empty) underlying9 (λm h=>by cases h) Oc Ob v w;have s:=λ(v:Value)(w:World)=>mh (P:=prog) (t:=45) (xT:=20) (z:= .bool false) underlying4 (λm h=>by cases h) Oc Ob v w;have y:=λ(v:Value)(w:World)=>oJ (P:=prog) (xT:=20) underlying45 (λm h=>by cases h) v w;have a:=gb (Iu v l w d hi n f);have i:=gb (f0 w.heap.size w);obtain⟨p,A,rfl⟩:=d.len;have b:=gd (ji l=if l=[]then[45]else kb l) rfl;clear d hi f;by_cases c:l=[]
 ·subst c;have k:=gd (ji []=[45]) rfl;clear a b;simp only[jk];go_enter func27,ntmps27;go_wp2;go_ret;exact⟨by rw[k.out];rfl,i.out⟩
 ·have B:(0:Int)<l.length:=(by grind [List.length_pos_iff]);rw[gh c]at b;clear c;generalize l.length=N at*;go_enter func27,ntmps27;go_wp2_with fail;refine a.out.mono ?_;rintro e C ⟨rfl,g⟩;have j:=gb g;clear g a;go_wp2;go_ret;exact⟨by rw[b.out];rfl,j.out⟩
def kL(ll:lO):iF:=if ll=[]then[45]else Lib.join (ll.map kb) [47]
theorem En(v:Value)(ll:lO)(w:World)(q:RL w v ll)(hi:∀l∈ll,(∀x∈l,ja x)/\l.length<=1000)(hn:ll.length<=1000)(F:jO w):
 Calls prog 27 #[.iface 46 v] w λe w'=>e= .returned (.string (gJ (kL ll)))/\gm w w':=by
 have ah:=λ(v:Value)(w:World)=>mh (P:=prog) (t:=46) (xT:=20) (z:= .int .i64 0) underlying3 (λm h=>by cases h) Oc Ob v w;have ai:=λ(v:Value)(w:World)=>mh (P:=prog) (t:=46) (xT:=20) (z:= .string ByteArray.empty) underlying9 (λm h=>by cases h) Oc Ob v w;have aj:=λ(v:Value)(w:World)=>mh (P:=prog) (t:=46) (xT:=20) (z:= .bool false) underlying4 (λm h=>by cases h) Oc Ob v w;have ak:=λ(v:Value)(w:World)=>mh (P:=prog) (t:=46) (xT:=20) (z:= .slice none 0 0) underlying45 (λm h=>by cases h) Oc Ob v w;have al:=λ(v:Value)(w:World)=>oJ (P:=prog) (xT:=20) underlying46 (λm h=>by cases h) v w;have B:=gb (λ(g:Value)(l:gP)(b:World)(J:gm w b)(d:Sl b g l)(n:∀x∈l,ja x)(h2:l.length<=1000)=>Iu g l b d n Oa (F.below J))
 have A:=gb (λ(v:Value)(b:World)(a:j9)(n:a=ll.map kb)(ho:Ow 9 w.heap.size b v (a.map λx=> .string (gJ x)))=>abF v a 47 w.heap.size b ho (by grind) (by
  have c:∀x∈a,x.length<=21000:=λx O=>by
   rw[n]at O;obtain⟨ar,hy,rfl⟩:=gK.1 O
   grind [tX]
  have h3:=tp (c:=47) c
  grind))
 have i:=gd (kL ll=if ll=[]then[45]else Lib.join (ll.map kb) [47]) rfl;have S:=gb hi;have am:=gb q;have HB:=gb (f0 w.heap.size w);obtain⟨ag,W,N,rfl,hN,ao,I⟩:=q.open;rw[hN.out]at hn;clear q hi F;by_cases C:N=0
 ·subst C;have D:ll=[]:=aeJ.1 hN.out;have U:=gd (kL ll=[45]) (by rw[D];rfl);clear B i A D I;go_enter func27,ntmps27;go_wp2;go_loopw [8,10,38] (λv8 _ af wr=>v8= .slice none 0 0/\af= .int .i64 0/\wr=w) (λ_ _ _ _=>0)
  case atStart=>grind
  case round=>
   obtain⟨rfl,rfl,rfl⟩:=hrel;go_wp2;go_ret;exact⟨by rw[U.out];rfl,HB.out⟩
 ·have K:¬ll=[]:=λh=>C (by rw[<-hN.out,h];rfl);rw[gh K]at i;clear K;go_enter func27,ntmps27;go_wp2;go_loopw [8,10,38] (λwv _ y wr=>∃(t:Nat)(a:j9),y= .int .i64 t/\t<=N/\Hid (a=(ll.take t).map kb)/\a.length=t/\Ow 9 w.heap.size wr wv (a.map λx=> .string (gJ x))/\gm w wr) (λ_ _ y _=>N-(intOf y).toNat)
  case atStart=>exact⟨0,[],rfl,ge _,gb rfl,rfl,Ow.nil _ _ _,f0 _ _⟩
  case round=>
   obtain⟨t,a,rfl,ht,eR,aq,ho,J⟩:=hrel;by_cases M:t<N
   ·have ac:(t:Int)<N:=(by omega);have bO:t<ll.length:=(by rw[hN.out];exact M);obtain⟨k,ae,rfl,Y,G⟩:=I Oa;obtain⟨g,d,f⟩:=G t M;have an:=(J.cell (p:=⟨k,ae+t,none⟩) Y).trans d;rw[gc,gn bO,iQ]at f;have c:=S.out _ (iH bO);have E:=gb (B.out g ll[t] wr J (f.below J) c.1 c.2);obtain⟨ua,uc,X⟩:=f.len;subst X
    have V:=gd (a++[kb ll[t]]=(ll.take (t+1)).map kb) (by
     exact Db)
    have j:=gR ho J;have ab:(a.map λx=>Value.string (gJ x)).length<=1000000000000:=(by grind);have ad:(a.map λx=>Value.string (gJ x)).length=t:=(by grind);clear ho J eR G d f c;generalize ll[t]=x at*;go_wp2_with fail;refine E.out.mono ?_;rintro e w6 ⟨rfl,aY⟩;have r:=j.out.1.below aY;have o:=j.out.2.trans (aY.mono j.out.2.size);have L:=o.size;have R:=gb o;clear aY E o;go_wp2_with (at_builtin;refine jt w6 _ _ 37 9 (.string ByteArray.empty) 16 rfl rfl underlying37 info9 rfl Oc w.heap.size _ _ rfl r rfl rfl ab L ?_;intro g9 c9 w9 s H Z aa);have Q:=gb (R.out.grown H L (λk e=>(r.lt k e).1));rw[ad]at s;have T:=gb s;clear r s H Z aa;go_roundw
    case rel=>exact⟨t+1,a++[kb x],by go_num,by omega,V,by grind,by rw[jf];exact T.out,Q.out⟩
    case measure=>exact gQ
   ·obtain rfl:t=N:=(by omega);have ac:¬(t:Int)<t:=Oa;have ap:(0:Int)<t:=Oa;have eh:a=ll.map kb:=(by rw[eR.out,ie MJ]);have dP:=gb (A.out _ wr a eh ho);rw[eh,<-i.out]at dP;exact Mu
def TE(A:iF)(w:World)(e:Ending)(w':World):Prop:=(e= .returned (.string (gJ A))\/e=mA A)/\gm w w'
theorem TE.ret{A:iF}{w w':World}(h:gm w w'):TE A w (.returned (.string (gJ A))) w':=⟨.inl rfl,h⟩
theorem TE.bad{A:iF}{w w':World}(h:gm w w'):TE A w (mA A) w':=⟨.inr rfl,h⟩
theorem TE.pre{A:iF}{w b w':World}{e:Ending}(h:TE A b e w')(a:gm w b):TE A w e w':=⟨h.1,a.trans (h.2.mono a.size)⟩
theorem qB{n:Int}(h:ja n):(Lib.itoa n).length<=1000000:=by
 grind [mf]
theorem rA{l:gP}(h:∀x∈l,ja x)(a:l.length<=10000):(ji l).length<=1000000:=by
 grind [ji,tX]
theorem Eo(v:Value)(l:gP)(ae:Int)(w:World)(a:0<=ae)(h6:ae<=6)(hx:ae=0->Sl w v l/\(∀x∈l,ja x)/\l.length<=10000)(hW:jO w):
 Calls prog 31 #[v,.int .i64 ae] w (TE (if ae=0 then ji l else iJ ae) w):=by
 by_cases hE:ae=0
 ·subst hE;rw[gl rfl];have h:=hx rfl;have HT:=gb (λ(Z:World)(J:gm w Z)=>ur v l Z (h.1.below J) h.2.1 h.2.2 (hW.below J));obtain⟨b,c,rfl⟩:=h.1.len;clear hx h hW;generalize ji l=A at*;have hF:=func31;have hM:=ntmps31;exact Ok
 ·rw[gh hE];have hF:=func31;have hM:=ntmps31;exact K6
theorem ad4(s:ByteArray)(ae:Int)(w:World)(a:0<=ae)(h6:ae<=6)(hx:ae=0->True)(hW:jO w):
 Calls prog 39 #[.string s,.int .i64 ae] w (TE (if ae=0 then s.data.toList else iJ ae) w):=by
 by_cases hE:ae=0
 ·subst hE;rw[gl rfl];have HC:=gb (pX w);have HT:=gb (λ(Z:World)(J:gm w Z)=>adX s Z);have HG:=gb (λV (J:gm w V)=>TE.ret (A:=s.data.toList) J);clear hx hW;generalize TE (s.data.toList) w=G at*;go_enter func39,ntmps39;exact K3
 ·rw[gh hE];have hF:=func39;have hM:=ntmps39;exact K6
theorem Js(n:Int)(ae:Int)(w:World)(a:0<=ae)(h6:ae<=6)(hx:ae=0->ja n)(hW:jO w):
 Calls prog 42 #[.int .i64 n,.int .i64 ae] w (TE (if ae=0 then Lib.itoa n else iJ ae) w):=by
 by_cases hE:ae=0
 ·subst hE;rw[gl rfl];have h:=hx rfl;have HT:=gb (λ(Z:World)(J:gm w Z)=>tI n Z h (hW.below J));clear hx h hW;generalize Lib.itoa n=A at*;have hF:=func42;have hM:=ntmps42;exact Ok
 ·rw[gh hE];have hF:=func42;have hM:=ntmps42;exact K6
theorem Ep(v:Value)(l:lO)(ae:Int)(w:World)(a:0<=ae)(h6:ae<=6)(hx:ae=0->RL w v l/\(∀m∈l,(∀x∈m,ja x)/\m.length<=1000)/\l.length<=1000)(hW:jO w):
 Calls prog 121 #[v,.int .i64 ae] w (TE (if ae=0 then kL l else iJ ae) w):=by
 by_cases hE:ae=0
 ·subst hE;rw[gl rfl];have h:=hx rfl;have HT:=gb (λ(Z:World)(J:gm w Z)=>En v l Z (h.1.below J) h.2.1 h.2.2 (hW.below J));obtain⟨b,c,d,rfl,_⟩:=h.1.open;clear hx h hW;generalize kL l=A at*;have hF:=func121;have hM:=ntmps121;exact Ok
 ·rw[gh hE];have hF:=func121;have hM:=ntmps121;exact K6
theorem YH(b:Bool)(ae:Int)(w:World)(a:0<=ae)(h6:ae<=6)(hx:ae=0->True)(hW:jO w):
 Calls prog 128 #[.bool b,.int .i64 ae] w (TE (if ae=0 then nn b else iJ ae) w):=by
 by_cases hE:ae=0
 ·subst hE;rw[gl rfl];have HT:=gb (λ(Z:World)(J:gm w Z)=>YC b Z);clear hx hW;generalize nn b=A at*;have hF:=func128;have hM:=ntmps128;exact Ok
 ·rw[gh hE];have hF:=func128;have hM:=ntmps128;exact K6
theorem uL(n:Int)(b:Value)(a:gP)(ae:Int)(w:World)(c:0<=ae)(h6:ae<=6)(hx:ae=0->(ja n)/\(Sl w b a/\(∀x∈a,ja x)/\a.length<=10000))(hW:jO w):
 Calls prog 36 #[.int .i64 n,b,.int .i64 ae] w (TE (if ae=0 then Lib.itoa n++32::ji a else iJ ae) w):=by
 by_cases hE:ae=0
 ·subst hE;rw[gl rfl];obtain⟨h,g⟩:=hx rfl;have HT:=gb (λ(Z:World)(J:gm w Z)=>tI n Z h (hW.below J));have HU:=gb (λ(Z:World)(J:gm w Z)=>ur b a Z (g.1.below J) g.2.1 g.2.2 (hW.below J));have f:(gJ (Lib.itoa n)).size<=1000000:=(by rw[iw];exact qB h);have i:(gJ (ji a)).size<=1000000:=(by grind [iw,rA]);obtain⟨d,e,rfl⟩:=g.1.len;clear hx h g hW;generalize Lib.itoa n=A1 at*;generalize ji a=A2 at*;have hF:=func36;have hM:=ntmps36;exact Og
 ·rw[gh hE];have hF:=func36;have hM:=ntmps36;exact K6
theorem EJ(n:Int)(a:Int)(ae:Int)(w:World)(b:0<=ae)(h6:ae<=6)(hx:ae=0->(ja n)/\(ja a))(hW:jO w):
 Calls prog 118 #[.int .i64 n,.int .i64 a,.int .i64 ae] w (TE (if ae=0 then Lib.itoa n++32::Lib.itoa a else iJ ae) w):=by
 by_cases hE:ae=0
 ·subst hE;rw[gl rfl];obtain⟨h,g⟩:=hx rfl;have HT:=gb (λ(Z:World)(J:gm w Z)=>tI n Z h (hW.below J));have HU:=gb (λ(Z:World)(J:gm w Z)=>tI a Z g (hW.below J));have c:(gJ (Lib.itoa n)).size<=1000000:=(by rw[iw];exact qB h);have d:(gJ (Lib.itoa a)).size<=1000000:=(by rw[iw];exact qB g);clear hx h g hW;generalize Lib.itoa n=A1 at*;generalize Lib.itoa a=A2 at*;have hF:=func118;have hM:=ntmps118;exact Og
 ·rw[gh hE];have hF:=func118;have hM:=ntmps118;exact K6
theorem BW(v:Value)(l:gP)(a:Int)(ae:Int)(w:World)(b:0<=ae)(h6:ae<=6)(hx:ae=0->(Sl w v l/\(∀x∈l,ja x)/\l.length<=10000)/\(ja a))(hW:jO w):
 Calls prog 223 #[v,.int .i64 a,.int .i64 ae] w (TE (if ae=0 then ji l++32::Lib.itoa a else iJ ae) w):=by
 by_cases hE:ae=0
 ·subst hE;rw[gl rfl];obtain⟨h,g⟩:=hx rfl;have HT:=gb (λ(Z:World)(J:gm w Z)=>ur v l Z (h.1.below J) h.2.1 h.2.2 (hW.below J));have HU:=gb (λ(Z:World)(J:gm w Z)=>tI a Z g (hW.below J));have e:(gJ (ji l)).size<=1000000:=(by grind [iw,rA]);have f:(gJ (Lib.itoa a)).size<=1000000:=(by rw[iw];exact qB g);obtain⟨c,d,rfl⟩:=h.1.len;clear hx h g hW;generalize ji l=A1 at*;generalize Lib.itoa a=A2 at*;have hF:=func223;have hM:=ntmps223;exact Og
 ·rw[gh hE];have hF:=func223;have hM:=ntmps223;exact K6
end Go.Proofs.YtnnaadmegeeinaaGreatDoor
