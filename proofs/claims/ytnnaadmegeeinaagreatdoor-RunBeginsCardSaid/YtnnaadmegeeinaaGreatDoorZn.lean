/-
  Part 14 of a proof: what it proves stands in the last text.
-/
import Derived.Test.YtnnaadmegeeinaaGreatDoorZi
import Derived.Shelf.Small.Bits
set_option linter.unusedVariables false
set_option maxHeartbeats 8000000
set_option maxRecDepth 100000
namespace Go.Proofs.YtnnaadmegeeinaaGreatDoor
open Go.RowKit Go.Shelf
def lzLaysRen:Ren:=⟨fun x=>match x with|134=>329|129=>296|n=>n,fun x=>match x with|53=>188|3=>3|4=>4|46=>126|5=>5|9=>9|n=>n,fun n=>n⟩
theorem lzLays:Lays.n134 Tryz.prog lzLaysRen where
 mixed:=by kernel_rfl
 f129:=Tryz.func296.trans (congrArg some (by kernel_rfl))
 f134:=Tryz.func329.trans (congrArg some (by kernel_rfl))
 t3:=Tryz.underlying3
 a3:=Tryz.isAgg3
 z3:=Tryz.sizeOf3
 v3:=Tryz.zeroValue3
 t4:=Tryz.underlying4
 a4:=Tryz.isAgg4
 z4:=Tryz.sizeOf4
 v4:=Tryz.zeroValue4
 t5:=Tryz.underlying5
 a5:=Tryz.isAgg5
 z5:=Tryz.sizeOf5
 v5:=Tryz.zeroValue5
 t9:=Tryz.underlying9
 a9:=Tryz.isAgg9
 z9:=Tryz.sizeOf9
 v9:=Tryz.zeroValue9
 t46:=Tryz.underlying126
 a46:=Tryz.isAgg126
 z46:=Tryz.sizeOf126
 v46:=Tryz.zeroValue126
 t53:=Tryz.underlying188
 a53:=Tryz.isAgg188
 z53:=Tryz.sizeOf188
 v53:=Tryz.zeroValue188
structure DivF (A B y M S T U V Yh q1 r1 W q0:Nat):Prop where
 u:U=A*S+B/M
 v:V=B%M*T
 yh:Yh=y*T
 q1d:U/Yh=q1
 r1d:U=q1*Yh+r1
 r1b:r1<Yh
 w:W=r1*4294967296+V
 q0d:W/Yh=q0
 wq:q0*Yh≤W
 q1b:q1<4294967296
 q0b:q0<4294967296
 wb:W<18446744073709551616
 ub:U<18446744073709551616
 yb:Yh<4294967296
 vb:V<4294967296
 fin:(A*18446744073709551616+B)/y=q1*4294967296+q0
theorem div_f {A B y M S T:Nat} (hB:B<18446744073709551616) (hMS:M*S=18446744073709551616) (hST:S=T*4294967296) (hy:y<M) (hA:A<y) (hMT:M*T=4294967296):
 ∃U V Yh q1 r1 W q0,DivF A B y M S T U V Yh q1 r1 W q0:=by
 have hT:0<T:=by
  rcases Nat.eq_zero_or_pos T with h|h
  ·rw[h,Nat.mul_zero]at hMT;omega
  ·exact h
 have hM:0<M:=by omega
 have hYp:0<y*T:=Nat.mul_pos (by omega) hT
 have hYb:y*T<4294967296:=by rw[←hMT];exact Nat.mul_lt_mul_of_pos_right hy hT
 have hdm:=Nat.div_add_mod B M
 have hmb:=Nat.mod_lt B hM
 have hdb:B/M<S:=by rw[Nat.div_lt_iff_lt_mul hM,Nat.mul_comm,hMS];exact hB
 have hU1:A*S+B/M<y*S:=by
  have:A*S+S≤y*S:=by rw[←Nat.succ_mul];exact Nat.mul_le_mul_right _ hA
  omega
 have hyS:y*S=y*T*4294967296:=by rw[hST,Nat.mul_assoc]
 have hU2:y*S≤18446744073709551616:=by rw[←hMS];exact Nat.mul_le_mul_right _ (Nat.le_of_lt hy)
 have hv:B%M*T<4294967296:=by rw[←hMT];exact Nat.mul_lt_mul_of_pos_right hmb hT
 obtain⟨U,hU⟩:∃U,U=A*S+B/M:=⟨_,rfl⟩
 obtain⟨V,hV⟩:∃V,V=B%M*T:=⟨_,rfl⟩
 obtain⟨Yh,hYh⟩:∃Yh,Yh=y*T:=⟨_,rfl⟩
 rw[←hU]at hU1
 rw[←hV]at hv
 rw[hyS,←hYh]at hU1
 rw[←hYh]at hYp hYb
 have d1:=Nat.div_add_mod U Yh
 have m1:=Nat.mod_lt U hYp
 have q1b:U/Yh<4294967296:=by rw[Nat.div_lt_iff_lt_mul hYp,Nat.mul_comm];exact hU1
 obtain⟨W,hW⟩:∃W,W=U%Yh*4294967296+V:=⟨_,rfl⟩
 have hWb:W<Yh*4294967296:=by
  have:(U%Yh+1)*4294967296≤Yh*4294967296:=Nat.mul_le_mul_right _ m1
  rw[hW]
  omega
 have q0b:W/Yh<4294967296:=by rw[Nat.div_lt_iff_lt_mul hYp,Nat.mul_comm];exact hWb
 refine⟨U,V,Yh,U/Yh,U%Yh,W,W/Yh,hU,hV,hYh,rfl,by rw[Nat.mul_comm];exact d1.symm,m1,hW,rfl,Nat.div_mul_le_self W Yh,q1b,q0b,by omega,by omega,hYb,hv,?_⟩
 have e1:(A*18446744073709551616+B)*T=U*4294967296+V:=by
  rw[hU,hV]
  have e2:B*T=B/M*4294967296+B%M*T:=by
   conv=>lhs;rw[←hdm]
   rw[Nat.add_mul,Nat.mul_comm M (B/M),Nat.mul_assoc,hMT]
  have e3:A*18446744073709551616*T=A*S*4294967296:=by
   rw[←hMS,Nat.mul_comm M S,←Nat.mul_assoc A S M,Nat.mul_assoc (A*S) M T,hMT]
  rw[Nat.add_mul,Nat.add_mul,e2,e3]
  omega
 rw[←Nat.mul_div_mul_right (A*18446744073709551616+B) y hT,e1,←hYh]
 have e4:U*4294967296+V=W+Yh*(U/Yh*4294967296):=by
  rw[hW]
  conv=>lhs;rw[←d1]
  rw[Nat.add_mul,Nat.mul_assoc]
  omega
 rw[e4,Nat.add_mul_div_left _ _ hYp]
 omega
theorem lead_ok (y:Nat) (w:World) (hy:y≤30):Calls Tryz.prog 329 #[.int .u64 y] w fun e w'=>e= .returned (.int .i64 (64-(Lib.bitLen y:Int)))∧w=w':=by
 refine(show Calls Tryz.prog 329 #[.int .u64 y] w _ from Any.bits_LeadingZeros64 lzLays y w (by omega) (by omega)).mono ?_
 rintro e w' ⟨rfl,rfl⟩
 exact⟨by rw[Int.toNat_natCast],rfl⟩
theorem len_2:∀y,y<4→2≤y→Lib.bitLen y=2:=by decide
theorem len_3:∀y,y<8→4≤y→Lib.bitLen y=3:=by decide
theorem len_4:∀y,y<16→8≤y→Lib.bitLen y=4:=by decide
theorem len_5:∀y,y<32→16≤y→Lib.bitLen y=5:=by decide
theorem mod_lem (a b c N:Int):(((a%N+b)%N)-c%N)%N=(a+b-c)%N:=by
 rw[Int.emod_add_emod]
 simp
theorem un21 (U V P1 r1 W:Nat) (h1:U=P1+r1) (h2:W=r1*4294967296+V) (h3:W<18446744073709551616):((U:Int)*4294967296+(V:Int)-(P1:Int)*4294967296)%18446744073709551616=(W:Int):=by
 rw[show(U:Int)*4294967296+(V:Int)-(P1:Int)*4294967296=(W:Int)by omega]
 exact Int.emod_eq_of_lt (by omega) (by omega)
theorem wrap_u64' (x:Int) (h0:0≤x) (h1:x<18446744073709551616):IntKind.u64.wrap x=x:=by rw[IntKind.wrap_u64];omega
theorem div64_2 (A B y:Nat) (w:World) (hy:y<4) (hy2:2≤y) (hA:A<y) (hA0:0<A) (hB:B<18446744073709551616):
 Calls Tryz.prog 294 #[.int .u64 A,.int .u64 B,.int .u64 y] w fun e w'=>(∃r,e= .returned (.tuple #[.int .u64 ((A*18446744073709551616+B)/y:Nat),r]))∧∃n,w'=w.drewN n:=by
 have hLZ:=lead_ok y w (by omega)
 rw[len_2 y hy hy2]at hLZ
 have HLZ:=hid hLZ
 obtain⟨U,V,Yh,q1,r1,W,q0,D⟩:=div_f (A:=A) (B:=B) (y:=y) (M:=4) (S:=4611686018427387904) (T:=1073741824) hB (by decide) (by decide) hy hA (by decide)
 rw[D.fin]
 have hle:¬(y:Int)≤(A:Int):=by omega
 have hA1:((A:Int)==0)=false:=by simp;omega
 have hy1:((y:Int)==0)=false:=by simp;omega
 obtain⟨P1,hP1⟩:∃P1,P1=q1*Yh:=⟨_,rfl⟩
 obtain⟨P0,hP0⟩:∃P0,P0=q0*Yh:=⟨_,rfl⟩
 have dU:=D.u
 have dV:=D.v
 have dY:=D.yh
 have dR:=D.r1d
 have dW:=D.w
 have dP:=D.wq
 rw[←hP1]at dR
 rw[←hP0]at dP
 have b1:=D.q1b
 have b2:=D.q0b
 have b3:=D.wb
 have b4:=D.ub
 have b5:=D.yb
 have b6:=D.vb
 have b7:=D.r1b
 have f1:(y:Int)*4611686018427387904/4294967296=(Yh:Int):=by omega
 have f2:bits .and .u64 ((y:Int)*4611686018427387904) 4294967295=0:=by
  have:=bits_and_u64_nat (y*4611686018427387904) 4294967295 (by omega) (by omega)
  rw[show(y*4611686018427387904)&&&4294967295=(y*4611686018427387904)%4294967296 from Nat.and_two_pow_sub_one_eq_mod _ 32]at this
  rw[show(y:Int)*4611686018427387904=((y*4611686018427387904:Nat):Int)by omega]
  refine this.trans ?_
  omega
 have f3:bits .or .u64 ((A:Int)*4611686018427387904) ((B:Int)/4)=(U:Int):=by
  have:=bits_or_u64_nat (A*4611686018427387904) (B/4) (by omega) (by omega)
  rw[show(A*4611686018427387904)|||(B/4)=A*4611686018427387904+B/4 by
   have h:=Nat.two_pow_add_eq_or_of_lt (i:=62) (b:=B/4) (by omega) A
   rw[show(2:Nat)^62=4611686018427387904 by decide,Nat.mul_comm]at h
   exact h.symm]at this
  rw[show(A:Int)*4611686018427387904=((A*4611686018427387904:Nat):Int)by omega,show(B:Int)/4=((B/4:Nat):Int)by omega]
  refine this.trans ?_
  omega
 have f4:IntKind.u64.wrap ((B:Int)*4611686018427387904)=(V:Int)*4294967296:=by
  rw[IntKind.wrap_u64]
  omega
 have f5:(V:Int)*4294967296/4294967296=(V:Int):=by omega
 have f6:bits .and .u64 ((V:Int)*4294967296) 4294967295=0:=by
  have:=bits_and_u64_nat (V*4294967296) 4294967295 (by omega) (by omega)
  rw[show(V*4294967296)&&&4294967295=(V*4294967296)%4294967296 from Nat.and_two_pow_sub_one_eq_mod _ 32]at this
  rw[show(V:Int)*4294967296=((V*4294967296:Nat):Int)by omega]
  refine this.trans ?_
  omega
 have f7:(U:Int).tdiv (Yh:Int)=(q1:Int):=by rw[←Int.ofNat_tdiv,D.q1d]
 have f8:(q1:Int)*(Yh:Int)=(P1:Int):=by rw[hP1,Int.natCast_mul]
 have f9:(U:Int)-(P1:Int)=(r1:Int):=by omega
 have f11:(W:Int).tdiv (Yh:Int)=(q0:Int):=by rw[←Int.ofNat_tdiv,D.q0d]
 have f12:(q0:Int)*(Yh:Int)=(P0:Int):=by rw[hP0,Int.natCast_mul]
 have hYp:¬(Yh:Int)=0:=by omega
 have hX:(q1:Int)*((y:Int)*4611686018427387904)=(P1:Int)*4294967296:=by
  obtain⟨z,hz⟩:∃z,z=q1*y:=⟨_,rfl⟩
  have e:P1=z*1073741824:=by rw[hP1,dY,hz,Nat.mul_assoc]
  have e2:(q1:Int)*((y:Int)*4611686018427387904)=(z:Int)*4611686018427387904:=by rw[hz,Int.natCast_mul,Int.mul_assoc]
  rw[e2]
  clear hz hP1 hP0 D
  omega
 have f10:IntKind.u64.wrap (IntKind.u64.wrap (IntKind.u64.wrap ((U:Int)*4294967296)+(V:Int))-IntKind.u64.wrap ((q1:Int)*((y:Int)*4611686018427387904)))=(W:Int):=by
  rw[hX,IntKind.wrap_u64,IntKind.wrap_u64,IntKind.wrap_u64,IntKind.wrap_u64,mod_lem]
  exact un21 U V P1 r1 W dR dW b3
 obtain⟨R0,hR0⟩:∃R0,R0=W-P0:=⟨_,rfl⟩
 have f13:(W:Int)-(P0:Int)=(R0:Int):=by omega
 have hRY:R0<Yh:=by
  have:=Nat.div_add_mod W Yh
  have h2:=Nat.mod_lt W (show 0<Yh by omega)
  rw[D.q0d,Nat.mul_comm,←hP0]at this
  omega
 obtain⟨R2,hR2⟩:∃R2,R2=4294967296*R0:=⟨_,rfl⟩
 have f15:IntKind.u64.wrap (4294967296*(R0:Int))=(R2:Int):=by rw[wrap_u64' _ (by omega) (by omega)];omega
 obtain⟨QQ,hQQ⟩:∃QQ,QQ=q1*4294967296+q0:=⟨_,rfl⟩
 rw[←hQQ]
 have f14:IntKind.u64.wrap (IntKind.u64.wrap ((q1:Int)*4294967296)+(q0:Int))=(QQ:Int):=by
  rw[IntKind.wrap_u64,IntKind.wrap_u64]
  omega
 have f16:IntKind.u64.wrap (R2:Int)=(R2:Int):=wrap_u64' _ (by omega) (by omega)
 have g1:decide ((4294967296:Int)≤(q0:Int))=false:=decide_eq_false (by omega)
 have g2:decide ((R2:Int)<0)=false:=decide_eq_false (by omega)
 have hd1:decide ((4294967296:Int)≤(q1:Int))=false:=decide_eq_false (by omega)
 have hw1:IntKind.u64.wrap (4294967296*(r1:Int))=4294967296*(r1:Int):=wrap_u64' _ (by omega) (by omega)
 have hw2:IntKind.u64.wrap (4294967296*(r1:Int)+(V:Int))=(W:Int):=by rw[wrap_u64' _ (by omega) (by omega)];omega
 have hd2:decide ((W:Int)<0)=false:=decide_eq_false (by omega)
 have q0i:0≤(q0:Int)∧(q0:Int)<4294967296:=by omega
 have p0i:0≤(P0:Int)∧(P0:Int)<18446744073709551616:=by omega
 have r0i:0≤(R0:Int)∧(R0:Int)<18446744073709551616:=by omega
 have HST:=hid (And.intro f10 (And.intro f11 (And.intro f12 (And.intro f13 (And.intro f14 (And.intro f15 (And.intro f16 (And.intro g1 (And.intro g2 (And.intro hYp (And.intro q0i (And.intro p0i r0i))))))))))))
 have HS1:=hid (And.intro hd1 (And.intro hw1 (And.intro hw2 hd2)))
 clear hQQ f10 f11 f12 f13 f14 f15 f16 g1 g2 hd1 hw1 hw2 hd2 q0i p0i r0i hX hR0 hRY hR2
 clear hLZ D hP1 hP0 dU dV dR dP dY dW
 go_enter Tryz.func294,Tryz.ntmps294
 go_wp2_with fail
 refine HLZ.out.mono ?_
 rintro e w1 ⟨rfl,rfl⟩
 go_wp2
 go_loopw [15,16] (fun a b wr=>a= .int .u64 q1∧b= .int .u64 r1∧wr=w) (fun _ _ _=>0)
 case atStart=>exact⟨rfl,rfl,rfl⟩
 case round=>
  obtain⟨rfl,rfl,rfl⟩:=hrel
  clear f1 f2 f3 f4 f5 f6 f7 f8 f9 hYp b1 b2 b3 b4 b5 b6 b7 hB hA hA0 hy hy2 hle hA1 hy1
  obtain⟨hd1,hw1,hw2,hd2⟩:=HS1.out
  obtain⟨f10,f11,f12,f13,f14,f15,f16,g1,g2,hYp,⟨q0a,q0b⟩,⟨p0a,p0b⟩,⟨r0a,r0b⟩⟩:=HST.out
  go_wp2
  go_loopw [18,16] (fun a b wq=>a= .int .u64 q0∧b= .int .u64 R0∧wq=wr) (fun _ _ _=>0)
  case atStart=>exact⟨rfl,rfl,rfl⟩
  case round=>
   obtain⟨rfl,rfl,rfl⟩:=hrel
   go_wp2
   go_ret2
   exact⟨⟨_,rfl⟩,0,rfl⟩
theorem div64_3 (A B y:Nat) (w:World) (hy:y<8) (hy2:4≤y) (hA:A<y) (hA0:0<A) (hB:B<18446744073709551616):
 Calls Tryz.prog 294 #[.int .u64 A,.int .u64 B,.int .u64 y] w fun e w'=>(∃r,e= .returned (.tuple #[.int .u64 ((A*18446744073709551616+B)/y:Nat),r]))∧∃n,w'=w.drewN n:=by
 have hLZ:=lead_ok y w (by omega)
 rw[len_3 y hy hy2]at hLZ
 have HLZ:=hid hLZ
 obtain⟨U,V,Yh,q1,r1,W,q0,D⟩:=div_f (A:=A) (B:=B) (y:=y) (M:=8) (S:=2305843009213693952) (T:=536870912) hB (by decide) (by decide) hy hA (by decide)
 rw[D.fin]
 have hle:¬(y:Int)≤(A:Int):=by omega
 have hA1:((A:Int)==0)=false:=by simp;omega
 have hy1:((y:Int)==0)=false:=by simp;omega
 obtain⟨P1,hP1⟩:∃P1,P1=q1*Yh:=⟨_,rfl⟩
 obtain⟨P0,hP0⟩:∃P0,P0=q0*Yh:=⟨_,rfl⟩
 have dU:=D.u
 have dV:=D.v
 have dY:=D.yh
 have dR:=D.r1d
 have dW:=D.w
 have dP:=D.wq
 rw[←hP1]at dR
 rw[←hP0]at dP
 have b1:=D.q1b
 have b2:=D.q0b
 have b3:=D.wb
 have b4:=D.ub
 have b5:=D.yb
 have b6:=D.vb
 have b7:=D.r1b
 have f1:(y:Int)*2305843009213693952/4294967296=(Yh:Int):=by omega
 have f2:bits .and .u64 ((y:Int)*2305843009213693952) 4294967295=0:=by
  have:=bits_and_u64_nat (y*2305843009213693952) 4294967295 (by omega) (by omega)
  rw[show(y*2305843009213693952)&&&4294967295=(y*2305843009213693952)%4294967296 from Nat.and_two_pow_sub_one_eq_mod _ 32]at this
  rw[show(y:Int)*2305843009213693952=((y*2305843009213693952:Nat):Int)by omega]
  refine this.trans ?_
  omega
 have f3:bits .or .u64 ((A:Int)*2305843009213693952) ((B:Int)/8)=(U:Int):=by
  have:=bits_or_u64_nat (A*2305843009213693952) (B/8) (by omega) (by omega)
  rw[show(A*2305843009213693952)|||(B/8)=A*2305843009213693952+B/8 by
   have h:=Nat.two_pow_add_eq_or_of_lt (i:=61) (b:=B/8) (by omega) A
   rw[show(2:Nat)^61=2305843009213693952 by decide,Nat.mul_comm]at h
   exact h.symm]at this
  rw[show(A:Int)*2305843009213693952=((A*2305843009213693952:Nat):Int)by omega,show(B:Int)/8=((B/8:Nat):Int)by omega]
  refine this.trans ?_
  omega
 have f4:IntKind.u64.wrap ((B:Int)*2305843009213693952)=(V:Int)*4294967296:=by
  rw[IntKind.wrap_u64]
  omega
 have f5:(V:Int)*4294967296/4294967296=(V:Int):=by omega
 have f6:bits .and .u64 ((V:Int)*4294967296) 4294967295=0:=by
  have:=bits_and_u64_nat (V*4294967296) 4294967295 (by omega) (by omega)
  rw[show(V*4294967296)&&&4294967295=(V*4294967296)%4294967296 from Nat.and_two_pow_sub_one_eq_mod _ 32]at this
  rw[show(V:Int)*4294967296=((V*4294967296:Nat):Int)by omega]
  refine this.trans ?_
  omega
 have f7:(U:Int).tdiv (Yh:Int)=(q1:Int):=by rw[←Int.ofNat_tdiv,D.q1d]
 have f8:(q1:Int)*(Yh:Int)=(P1:Int):=by rw[hP1,Int.natCast_mul]
 have f9:(U:Int)-(P1:Int)=(r1:Int):=by omega
 have f11:(W:Int).tdiv (Yh:Int)=(q0:Int):=by rw[←Int.ofNat_tdiv,D.q0d]
 have f12:(q0:Int)*(Yh:Int)=(P0:Int):=by rw[hP0,Int.natCast_mul]
 have hYp:¬(Yh:Int)=0:=by omega
 have hX:(q1:Int)*((y:Int)*2305843009213693952)=(P1:Int)*4294967296:=by
  obtain⟨z,hz⟩:∃z,z=q1*y:=⟨_,rfl⟩
  have e:P1=z*536870912:=by rw[hP1,dY,hz,Nat.mul_assoc]
  have e2:(q1:Int)*((y:Int)*2305843009213693952)=(z:Int)*2305843009213693952:=by rw[hz,Int.natCast_mul,Int.mul_assoc]
  rw[e2]
  clear hz hP1 hP0 D
  omega
 have f10:IntKind.u64.wrap (IntKind.u64.wrap (IntKind.u64.wrap ((U:Int)*4294967296)+(V:Int))-IntKind.u64.wrap ((q1:Int)*((y:Int)*2305843009213693952)))=(W:Int):=by
  rw[hX,IntKind.wrap_u64,IntKind.wrap_u64,IntKind.wrap_u64,IntKind.wrap_u64,mod_lem]
  exact un21 U V P1 r1 W dR dW b3
 obtain⟨R0,hR0⟩:∃R0,R0=W-P0:=⟨_,rfl⟩
 have f13:(W:Int)-(P0:Int)=(R0:Int):=by omega
 have hRY:R0<Yh:=by
  have:=Nat.div_add_mod W Yh
  have h2:=Nat.mod_lt W (show 0<Yh by omega)
  rw[D.q0d,Nat.mul_comm,←hP0]at this
  omega
 obtain⟨R2,hR2⟩:∃R2,R2=4294967296*R0:=⟨_,rfl⟩
 have f15:IntKind.u64.wrap (4294967296*(R0:Int))=(R2:Int):=by rw[wrap_u64' _ (by omega) (by omega)];omega
 obtain⟨QQ,hQQ⟩:∃QQ,QQ=q1*4294967296+q0:=⟨_,rfl⟩
 rw[←hQQ]
 have f14:IntKind.u64.wrap (IntKind.u64.wrap ((q1:Int)*4294967296)+(q0:Int))=(QQ:Int):=by
  rw[IntKind.wrap_u64,IntKind.wrap_u64]
  omega
 have f16:IntKind.u64.wrap (R2:Int)=(R2:Int):=wrap_u64' _ (by omega) (by omega)
 have g1:decide ((4294967296:Int)≤(q0:Int))=false:=decide_eq_false (by omega)
 have g2:decide ((R2:Int)<0)=false:=decide_eq_false (by omega)
 have hd1:decide ((4294967296:Int)≤(q1:Int))=false:=decide_eq_false (by omega)
 have hw1:IntKind.u64.wrap (4294967296*(r1:Int))=4294967296*(r1:Int):=wrap_u64' _ (by omega) (by omega)
 have hw2:IntKind.u64.wrap (4294967296*(r1:Int)+(V:Int))=(W:Int):=by rw[wrap_u64' _ (by omega) (by omega)];omega
 have hd2:decide ((W:Int)<0)=false:=decide_eq_false (by omega)
 have q0i:0≤(q0:Int)∧(q0:Int)<4294967296:=by omega
 have p0i:0≤(P0:Int)∧(P0:Int)<18446744073709551616:=by omega
 have r0i:0≤(R0:Int)∧(R0:Int)<18446744073709551616:=by omega
 have HST:=hid (And.intro f10 (And.intro f11 (And.intro f12 (And.intro f13 (And.intro f14 (And.intro f15 (And.intro f16 (And.intro g1 (And.intro g2 (And.intro hYp (And.intro q0i (And.intro p0i r0i))))))))))))
 have HS1:=hid (And.intro hd1 (And.intro hw1 (And.intro hw2 hd2)))
 clear hQQ f10 f11 f12 f13 f14 f15 f16 g1 g2 hd1 hw1 hw2 hd2 q0i p0i r0i hX hR0 hRY hR2
 clear hLZ D hP1 hP0 dU dV dR dP dY dW
 go_enter Tryz.func294,Tryz.ntmps294
 go_wp2_with fail
 refine HLZ.out.mono ?_
 rintro e w1 ⟨rfl,rfl⟩
 go_wp2
 go_loopw [15,16] (fun a b wr=>a= .int .u64 q1∧b= .int .u64 r1∧wr=w) (fun _ _ _=>0)
 case atStart=>exact⟨rfl,rfl,rfl⟩
 case round=>
  obtain⟨rfl,rfl,rfl⟩:=hrel
  clear f1 f2 f3 f4 f5 f6 f7 f8 f9 hYp b1 b2 b3 b4 b5 b6 b7 hB hA hA0 hy hy2 hle hA1 hy1
  obtain⟨hd1,hw1,hw2,hd2⟩:=HS1.out
  obtain⟨f10,f11,f12,f13,f14,f15,f16,g1,g2,hYp,⟨q0a,q0b⟩,⟨p0a,p0b⟩,⟨r0a,r0b⟩⟩:=HST.out
  go_wp2
  go_loopw [18,16] (fun a b wq=>a= .int .u64 q0∧b= .int .u64 R0∧wq=wr) (fun _ _ _=>0)
  case atStart=>exact⟨rfl,rfl,rfl⟩
  case round=>
   obtain⟨rfl,rfl,rfl⟩:=hrel
   go_wp2
   go_ret2
   exact⟨⟨_,rfl⟩,0,rfl⟩
theorem div64_4 (A B y:Nat) (w:World) (hy:y<16) (hy2:8≤y) (hA:A<y) (hA0:0<A) (hB:B<18446744073709551616):
 Calls Tryz.prog 294 #[.int .u64 A,.int .u64 B,.int .u64 y] w fun e w'=>(∃r,e= .returned (.tuple #[.int .u64 ((A*18446744073709551616+B)/y:Nat),r]))∧∃n,w'=w.drewN n:=by
 have hLZ:=lead_ok y w (by omega)
 rw[len_4 y hy hy2]at hLZ
 have HLZ:=hid hLZ
 obtain⟨U,V,Yh,q1,r1,W,q0,D⟩:=div_f (A:=A) (B:=B) (y:=y) (M:=16) (S:=1152921504606846976) (T:=268435456) hB (by decide) (by decide) hy hA (by decide)
 rw[D.fin]
 have hle:¬(y:Int)≤(A:Int):=by omega
 have hA1:((A:Int)==0)=false:=by simp;omega
 have hy1:((y:Int)==0)=false:=by simp;omega
 obtain⟨P1,hP1⟩:∃P1,P1=q1*Yh:=⟨_,rfl⟩
 obtain⟨P0,hP0⟩:∃P0,P0=q0*Yh:=⟨_,rfl⟩
 have dU:=D.u
 have dV:=D.v
 have dY:=D.yh
 have dR:=D.r1d
 have dW:=D.w
 have dP:=D.wq
 rw[←hP1]at dR
 rw[←hP0]at dP
 have b1:=D.q1b
 have b2:=D.q0b
 have b3:=D.wb
 have b4:=D.ub
 have b5:=D.yb
 have b6:=D.vb
 have b7:=D.r1b
 have f1:(y:Int)*1152921504606846976/4294967296=(Yh:Int):=by omega
 have f2:bits .and .u64 ((y:Int)*1152921504606846976) 4294967295=0:=by
  have:=bits_and_u64_nat (y*1152921504606846976) 4294967295 (by omega) (by omega)
  rw[show(y*1152921504606846976)&&&4294967295=(y*1152921504606846976)%4294967296 from Nat.and_two_pow_sub_one_eq_mod _ 32]at this
  rw[show(y:Int)*1152921504606846976=((y*1152921504606846976:Nat):Int)by omega]
  refine this.trans ?_
  omega
 have f3:bits .or .u64 ((A:Int)*1152921504606846976) ((B:Int)/16)=(U:Int):=by
  have:=bits_or_u64_nat (A*1152921504606846976) (B/16) (by omega) (by omega)
  rw[show(A*1152921504606846976)|||(B/16)=A*1152921504606846976+B/16 by
   have h:=Nat.two_pow_add_eq_or_of_lt (i:=60) (b:=B/16) (by omega) A
   rw[show(2:Nat)^60=1152921504606846976 by decide,Nat.mul_comm]at h
   exact h.symm]at this
  rw[show(A:Int)*1152921504606846976=((A*1152921504606846976:Nat):Int)by omega,show(B:Int)/16=((B/16:Nat):Int)by omega]
  refine this.trans ?_
  omega
 have f4:IntKind.u64.wrap ((B:Int)*1152921504606846976)=(V:Int)*4294967296:=by
  rw[IntKind.wrap_u64]
  omega
 have f5:(V:Int)*4294967296/4294967296=(V:Int):=by omega
 have f6:bits .and .u64 ((V:Int)*4294967296) 4294967295=0:=by
  have:=bits_and_u64_nat (V*4294967296) 4294967295 (by omega) (by omega)
  rw[show(V*4294967296)&&&4294967295=(V*4294967296)%4294967296 from Nat.and_two_pow_sub_one_eq_mod _ 32]at this
  rw[show(V:Int)*4294967296=((V*4294967296:Nat):Int)by omega]
  refine this.trans ?_
  omega
 have f7:(U:Int).tdiv (Yh:Int)=(q1:Int):=by rw[←Int.ofNat_tdiv,D.q1d]
 have f8:(q1:Int)*(Yh:Int)=(P1:Int):=by rw[hP1,Int.natCast_mul]
 have f9:(U:Int)-(P1:Int)=(r1:Int):=by omega
 have f11:(W:Int).tdiv (Yh:Int)=(q0:Int):=by rw[←Int.ofNat_tdiv,D.q0d]
 have f12:(q0:Int)*(Yh:Int)=(P0:Int):=by rw[hP0,Int.natCast_mul]
 have hYp:¬(Yh:Int)=0:=by omega
 have hX:(q1:Int)*((y:Int)*1152921504606846976)=(P1:Int)*4294967296:=by
  obtain⟨z,hz⟩:∃z,z=q1*y:=⟨_,rfl⟩
  have e:P1=z*268435456:=by rw[hP1,dY,hz,Nat.mul_assoc]
  have e2:(q1:Int)*((y:Int)*1152921504606846976)=(z:Int)*1152921504606846976:=by rw[hz,Int.natCast_mul,Int.mul_assoc]
  rw[e2]
  clear hz hP1 hP0 D
  omega
 have f10:IntKind.u64.wrap (IntKind.u64.wrap (IntKind.u64.wrap ((U:Int)*4294967296)+(V:Int))-IntKind.u64.wrap ((q1:Int)*((y:Int)*1152921504606846976)))=(W:Int):=by
  rw[hX,IntKind.wrap_u64,IntKind.wrap_u64,IntKind.wrap_u64,IntKind.wrap_u64,mod_lem]
  exact un21 U V P1 r1 W dR dW b3
 obtain⟨R0,hR0⟩:∃R0,R0=W-P0:=⟨_,rfl⟩
 have f13:(W:Int)-(P0:Int)=(R0:Int):=by omega
 have hRY:R0<Yh:=by
  have:=Nat.div_add_mod W Yh
  have h2:=Nat.mod_lt W (show 0<Yh by omega)
  rw[D.q0d,Nat.mul_comm,←hP0]at this
  omega
 obtain⟨R2,hR2⟩:∃R2,R2=4294967296*R0:=⟨_,rfl⟩
 have f15:IntKind.u64.wrap (4294967296*(R0:Int))=(R2:Int):=by rw[wrap_u64' _ (by omega) (by omega)];omega
 obtain⟨QQ,hQQ⟩:∃QQ,QQ=q1*4294967296+q0:=⟨_,rfl⟩
 rw[←hQQ]
 have f14:IntKind.u64.wrap (IntKind.u64.wrap ((q1:Int)*4294967296)+(q0:Int))=(QQ:Int):=by
  rw[IntKind.wrap_u64,IntKind.wrap_u64]
  omega
 have f16:IntKind.u64.wrap (R2:Int)=(R2:Int):=wrap_u64' _ (by omega) (by omega)
 have g1:decide ((4294967296:Int)≤(q0:Int))=false:=decide_eq_false (by omega)
 have g2:decide ((R2:Int)<0)=false:=decide_eq_false (by omega)
 have hd1:decide ((4294967296:Int)≤(q1:Int))=false:=decide_eq_false (by omega)
 have hw1:IntKind.u64.wrap (4294967296*(r1:Int))=4294967296*(r1:Int):=wrap_u64' _ (by omega) (by omega)
 have hw2:IntKind.u64.wrap (4294967296*(r1:Int)+(V:Int))=(W:Int):=by rw[wrap_u64' _ (by omega) (by omega)];omega
 have hd2:decide ((W:Int)<0)=false:=decide_eq_false (by omega)
 have q0i:0≤(q0:Int)∧(q0:Int)<4294967296:=by omega
 have p0i:0≤(P0:Int)∧(P0:Int)<18446744073709551616:=by omega
 have r0i:0≤(R0:Int)∧(R0:Int)<18446744073709551616:=by omega
 have HST:=hid (And.intro f10 (And.intro f11 (And.intro f12 (And.intro f13 (And.intro f14 (And.intro f15 (And.intro f16 (And.intro g1 (And.intro g2 (And.intro hYp (And.intro q0i (And.intro p0i r0i))))))))))))
 have HS1:=hid (And.intro hd1 (And.intro hw1 (And.intro hw2 hd2)))
 clear hQQ f10 f11 f12 f13 f14 f15 f16 g1 g2 hd1 hw1 hw2 hd2 q0i p0i r0i hX hR0 hRY hR2
 clear hLZ D hP1 hP0 dU dV dR dP dY dW
 go_enter Tryz.func294,Tryz.ntmps294
 go_wp2_with fail
 refine HLZ.out.mono ?_
 rintro e w1 ⟨rfl,rfl⟩
 go_wp2
 go_loopw [15,16] (fun a b wr=>a= .int .u64 q1∧b= .int .u64 r1∧wr=w) (fun _ _ _=>0)
 case atStart=>exact⟨rfl,rfl,rfl⟩
 case round=>
  obtain⟨rfl,rfl,rfl⟩:=hrel
  clear f1 f2 f3 f4 f5 f6 f7 f8 f9 hYp b1 b2 b3 b4 b5 b6 b7 hB hA hA0 hy hy2 hle hA1 hy1
  obtain⟨hd1,hw1,hw2,hd2⟩:=HS1.out
  obtain⟨f10,f11,f12,f13,f14,f15,f16,g1,g2,hYp,⟨q0a,q0b⟩,⟨p0a,p0b⟩,⟨r0a,r0b⟩⟩:=HST.out
  go_wp2
  go_loopw [18,16] (fun a b wq=>a= .int .u64 q0∧b= .int .u64 R0∧wq=wr) (fun _ _ _=>0)
  case atStart=>exact⟨rfl,rfl,rfl⟩
  case round=>
   obtain⟨rfl,rfl,rfl⟩:=hrel
   go_wp2
   go_ret2
   exact⟨⟨_,rfl⟩,0,rfl⟩
theorem div64_5 (A B y:Nat) (w:World) (hy:y<32) (hy2:16≤y) (hy3:y≤30) (hA:A<y) (hA0:0<A) (hB:B<18446744073709551616):
 Calls Tryz.prog 294 #[.int .u64 A,.int .u64 B,.int .u64 y] w fun e w'=>(∃r,e= .returned (.tuple #[.int .u64 ((A*18446744073709551616+B)/y:Nat),r]))∧∃n,w'=w.drewN n:=by
 have hLZ:=lead_ok y w (by omega)
 rw[len_5 y hy hy2]at hLZ
 have HLZ:=hid hLZ
 obtain⟨U,V,Yh,q1,r1,W,q0,D⟩:=div_f (A:=A) (B:=B) (y:=y) (M:=32) (S:=576460752303423488) (T:=134217728) hB (by decide) (by decide) hy hA (by decide)
 rw[D.fin]
 have hle:¬(y:Int)≤(A:Int):=by omega
 have hA1:((A:Int)==0)=false:=by simp;omega
 have hy1:((y:Int)==0)=false:=by simp;omega
 obtain⟨P1,hP1⟩:∃P1,P1=q1*Yh:=⟨_,rfl⟩
 obtain⟨P0,hP0⟩:∃P0,P0=q0*Yh:=⟨_,rfl⟩
 have dU:=D.u
 have dV:=D.v
 have dY:=D.yh
 have dR:=D.r1d
 have dW:=D.w
 have dP:=D.wq
 rw[←hP1]at dR
 rw[←hP0]at dP
 have b1:=D.q1b
 have b2:=D.q0b
 have b3:=D.wb
 have b4:=D.ub
 have b5:=D.yb
 have b6:=D.vb
 have b7:=D.r1b
 have f1:(y:Int)*576460752303423488/4294967296=(Yh:Int):=by omega
 have f2:bits .and .u64 ((y:Int)*576460752303423488) 4294967295=0:=by
  have:=bits_and_u64_nat (y*576460752303423488) 4294967295 (by omega) (by omega)
  rw[show(y*576460752303423488)&&&4294967295=(y*576460752303423488)%4294967296 from Nat.and_two_pow_sub_one_eq_mod _ 32]at this
  rw[show(y:Int)*576460752303423488=((y*576460752303423488:Nat):Int)by omega]
  refine this.trans ?_
  omega
 have f3:bits .or .u64 ((A:Int)*576460752303423488) ((B:Int)/32)=(U:Int):=by
  have:=bits_or_u64_nat (A*576460752303423488) (B/32) (by omega) (by omega)
  rw[show(A*576460752303423488)|||(B/32)=A*576460752303423488+B/32 by
   have h:=Nat.two_pow_add_eq_or_of_lt (i:=59) (b:=B/32) (by omega) A
   rw[show(2:Nat)^59=576460752303423488 by decide,Nat.mul_comm]at h
   exact h.symm]at this
  rw[show(A:Int)*576460752303423488=((A*576460752303423488:Nat):Int)by omega,show(B:Int)/32=((B/32:Nat):Int)by omega]
  refine this.trans ?_
  omega
 have f4:IntKind.u64.wrap ((B:Int)*576460752303423488)=(V:Int)*4294967296:=by
  rw[IntKind.wrap_u64]
  omega
 have f5:(V:Int)*4294967296/4294967296=(V:Int):=by omega
 have f6:bits .and .u64 ((V:Int)*4294967296) 4294967295=0:=by
  have:=bits_and_u64_nat (V*4294967296) 4294967295 (by omega) (by omega)
  rw[show(V*4294967296)&&&4294967295=(V*4294967296)%4294967296 from Nat.and_two_pow_sub_one_eq_mod _ 32]at this
  rw[show(V:Int)*4294967296=((V*4294967296:Nat):Int)by omega]
  refine this.trans ?_
  omega
 have f7:(U:Int).tdiv (Yh:Int)=(q1:Int):=by rw[←Int.ofNat_tdiv,D.q1d]
 have f8:(q1:Int)*(Yh:Int)=(P1:Int):=by rw[hP1,Int.natCast_mul]
 have f9:(U:Int)-(P1:Int)=(r1:Int):=by omega
 have f11:(W:Int).tdiv (Yh:Int)=(q0:Int):=by rw[←Int.ofNat_tdiv,D.q0d]
 have f12:(q0:Int)*(Yh:Int)=(P0:Int):=by rw[hP0,Int.natCast_mul]
 have hYp:¬(Yh:Int)=0:=by omega
 have hX:(q1:Int)*((y:Int)*576460752303423488)=(P1:Int)*4294967296:=by
  obtain⟨z,hz⟩:∃z,z=q1*y:=⟨_,rfl⟩
  have e:P1=z*134217728:=by rw[hP1,dY,hz,Nat.mul_assoc]
  have e2:(q1:Int)*((y:Int)*576460752303423488)=(z:Int)*576460752303423488:=by rw[hz,Int.natCast_mul,Int.mul_assoc]
  rw[e2]
  clear hz hP1 hP0 D
  omega
 have f10:IntKind.u64.wrap (IntKind.u64.wrap (IntKind.u64.wrap ((U:Int)*4294967296)+(V:Int))-IntKind.u64.wrap ((q1:Int)*((y:Int)*576460752303423488)))=(W:Int):=by
  rw[hX,IntKind.wrap_u64,IntKind.wrap_u64,IntKind.wrap_u64,IntKind.wrap_u64,mod_lem]
  exact un21 U V P1 r1 W dR dW b3
 obtain⟨R0,hR0⟩:∃R0,R0=W-P0:=⟨_,rfl⟩
 have f13:(W:Int)-(P0:Int)=(R0:Int):=by omega
 have hRY:R0<Yh:=by
  have:=Nat.div_add_mod W Yh
  have h2:=Nat.mod_lt W (show 0<Yh by omega)
  rw[D.q0d,Nat.mul_comm,←hP0]at this
  omega
 obtain⟨R2,hR2⟩:∃R2,R2=4294967296*R0:=⟨_,rfl⟩
 have f15:IntKind.u64.wrap (4294967296*(R0:Int))=(R2:Int):=by rw[wrap_u64' _ (by omega) (by omega)];omega
 obtain⟨QQ,hQQ⟩:∃QQ,QQ=q1*4294967296+q0:=⟨_,rfl⟩
 rw[←hQQ]
 have f14:IntKind.u64.wrap (IntKind.u64.wrap ((q1:Int)*4294967296)+(q0:Int))=(QQ:Int):=by
  rw[IntKind.wrap_u64,IntKind.wrap_u64]
  omega
 have f16:IntKind.u64.wrap (R2:Int)=(R2:Int):=wrap_u64' _ (by omega) (by omega)
 have g1:decide ((4294967296:Int)≤(q0:Int))=false:=decide_eq_false (by omega)
 have g2:decide ((R2:Int)<0)=false:=decide_eq_false (by omega)
 have hd1:decide ((4294967296:Int)≤(q1:Int))=false:=decide_eq_false (by omega)
 have hw1:IntKind.u64.wrap (4294967296*(r1:Int))=4294967296*(r1:Int):=wrap_u64' _ (by omega) (by omega)
 have hw2:IntKind.u64.wrap (4294967296*(r1:Int)+(V:Int))=(W:Int):=by rw[wrap_u64' _ (by omega) (by omega)];omega
 have hd2:decide ((W:Int)<0)=false:=decide_eq_false (by omega)
 have q0i:0≤(q0:Int)∧(q0:Int)<4294967296:=by omega
 have p0i:0≤(P0:Int)∧(P0:Int)<18446744073709551616:=by omega
 have r0i:0≤(R0:Int)∧(R0:Int)<18446744073709551616:=by omega
 have HST:=hid (And.intro f10 (And.intro f11 (And.intro f12 (And.intro f13 (And.intro f14 (And.intro f15 (And.intro f16 (And.intro g1 (And.intro g2 (And.intro hYp (And.intro q0i (And.intro p0i r0i))))))))))))
 have HS1:=hid (And.intro hd1 (And.intro hw1 (And.intro hw2 hd2)))
 clear hQQ f10 f11 f12 f13 f14 f15 f16 g1 g2 hd1 hw1 hw2 hd2 q0i p0i r0i hX hR0 hRY hR2
 clear hLZ D hP1 hP0 dU dV dR dP dY dW
 go_enter Tryz.func294,Tryz.ntmps294
 go_wp2_with fail
 refine HLZ.out.mono ?_
 rintro e w1 ⟨rfl,rfl⟩
 go_wp2
 go_loopw [15,16] (fun a b wr=>a= .int .u64 q1∧b= .int .u64 r1∧wr=w) (fun _ _ _=>0)
 case atStart=>exact⟨rfl,rfl,rfl⟩
 case round=>
  obtain⟨rfl,rfl,rfl⟩:=hrel
  clear f1 f2 f3 f4 f5 f6 f7 f8 f9 hYp b1 b2 b3 b4 b5 b6 b7 hB hA hA0 hy hy2 hle hA1 hy1
  obtain⟨hd1,hw1,hw2,hd2⟩:=HS1.out
  obtain⟨f10,f11,f12,f13,f14,f15,f16,g1,g2,hYp,⟨q0a,q0b⟩,⟨p0a,p0b⟩,⟨r0a,r0b⟩⟩:=HST.out
  go_wp2
  go_loopw [18,16] (fun a b wq=>a= .int .u64 q0∧b= .int .u64 R0∧wq=wr) (fun _ _ _=>0)
  case atStart=>exact⟨rfl,rfl,rfl⟩
  case round=>
   obtain⟨rfl,rfl,rfl⟩:=hrel
   go_wp2
   go_ret2
   exact⟨⟨_,rfl⟩,0,rfl⟩
theorem div64_any (A B y:Nat) (w:World) (hy:y≤30) (hA:A<y) (hB:B<18446744073709551616):
 Calls Tryz.prog 294 #[.int .u64 A,.int .u64 B,.int .u64 y] w fun e w'=>(∃r,e= .returned (.tuple #[.int .u64 ((A*18446744073709551616+B)/y:Nat),r]))∧∃n,w'=w.drewN n:=by
 by_cases h0:A=0
 ·subst h0
  refine(div64_low B y w hB (by omega) hA).mono ?_
  rintro e w' ⟨rfl,n,rfl⟩
  rw[Nat.zero_mul,Nat.zero_add]
  exact⟨⟨_,rfl⟩,n,rfl⟩
 by_cases h2:y<4
 ·exact div64_2 A B y w h2 (by omega) hA (by omega) hB
 by_cases h3:y<8
 ·exact div64_3 A B y w h3 (by omega) hA (by omega) hB
 by_cases h4:y<16
 ·exact div64_4 A B y w h4 (by omega) hA (by omega) hB
 ·exact div64_5 A B y w (by omega) (by omega) hy hA (by omega) hB
end Go.Proofs.YtnnaadmegeeinaaGreatDoor
