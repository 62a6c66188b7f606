/-
  Part 45 of a proof: what it proves stands in the last text.
-/
import Derived.Test.YtnnaadmegeeinaaGreatDoorZao
import Derived.Test.YtnnaadmegeeinaaGreatDoorZd
import Derived.Test.YtnnaadmegeeinaaGreatDoorZap
import Derived.Test.YtnnaadmegeeinaaGreatDoorZe
import Derived.Test.YtnnaadmegeeinaaGreatDoorZag
import Derived.Test.YtnnaadmegeeinaaGreatDoorZf
import Derived.Test.YtnnaadmegeeinaaGreatDoorZh
import Derived.Test.YtnnaadmegeeinaaGreatDoorZj
import Derived.Laws.EntriesVeiled
set_option linter.unusedVariables false
set_option maxHeartbeats 8000000
set_option maxRecDepth 100000
namespace Go.Proofs.YtnnaadmegeeinaaGreatDoor
open Go.RowKit
theorem intsN_I64 {l:List Nat} (h:∀x∈l,x<1000000000):∀x∈intsN l,I64 x:=fun x hx=>by
 unfold intsN at hx
 obtain⟨y,hy,rfl⟩:=List.mem_map.1 hx
 have:=h y hy
 unfold I64
 omega
theorem beads_I {n k:Nat} (hn:1≤n) (hk:1≤k) (h:k^n≤1000000000000000000):I64 (beadsN n k):=by
 by_cases hk1:k=1
 ·have e1:beadsN n k=1:=if_pos hk1
  rw[e1]
  unfold I64
  decide
 ·have e1:beadsN n k=bsum k n n:=if_neg hk1
  have hn60:=fits60 (k:=k) (by omega) h
  rw[e1,←bsum_div hn (by omega)]
  have hbd:=turn_bd (k:=k) (n:=n) hk h n (Nat.le_refl _)
  have q1:0≤((turnS k n n:Nat):Int)/(n:Int):=Int.ediv_nonneg (by omega) (by omega)
  have q2:((turnS k n n:Nat):Int)/(n:Int)≤((turnS k n n:Nat):Int):=Int.ediv_le_self _ (by omega)
  unfold I64
  omega
theorem pkBea:PkBea (fun a b=>ringE a b) (fun a b=>if ringE a b=0 then beadsN a b else 0):=by
 intro a b w1 hW h0 h1
 have hrg:0≤ringE a b∧ringE a b≤6:=by
  unfold ringE
  repeat' split
  all_goals decide
 by_cases hE:ringE a b=0
 ·have hab:1≤a∧1≤b∧b^a≤1000000000000000000:=by
   unfold ringE at hE
   split at hE
   ·cases hE
   ·split at hE
    ·cases hE
    ·rename_i g1 g2
     simp only[Int.toNat_natCast]at g2
     exact⟨by omega,by omega,by omega⟩
  have hI:=beads_I hab.1 hab.2.1 hab.2.2
  refine(Beads_ok a b w1 hab.1 hab.2.1 (by unfold I64;omega) (by unfold I64;omega) hab.2.2).mono ?_
  rintro e w' ⟨rfl,m,rfl⟩
  exact⟨by dsimp only;rw[if_pos hE,hE],hrg,fun _=>by dsimp only;rw[if_pos hE];exact hI,below_drewN (Below.refl _ _) m⟩
 ·refine(Beads_bad a b w1 (by unfold I64;omega) (by unfold I64;omega) hE).mono ?_
  rintro e w' ⟨rfl,rfl⟩
  exact⟨by dsimp only;rw[if_neg hE],hrg,fun h2=>absurd h2 hE,Below.refl _ _⟩
theorem bchE_rng (l:List Int):0≤bchE l∧bchE l≤6:=by
 unfold bchE
 repeat' split
 all_goals decide
theorem pkBen:PkBen (fun l=>bchE (intsN l)) (fun l=>bnX (intsN l)):=by
 intro a0 v0 w1 hW hr
 refine(Bent_any v0 (intsN a0) w1 hr.1 (intsN_I64 hr.2.1) (by rw[show(intsN a0).length=a0.length by simp[intsN]];omega)).mono ?_
 rintro e w' ⟨rfl,hb⟩
 exact⟨rfl,bchE_rng _,fun _=>trivial,hb⟩
theorem permE_rg (l:List Int):0≤permE l∧permE l≤6:=by
 unfold permE
 repeat' split
 all_goals decide
theorem pkCyc:PkCyc (fun a=>permE (intsN a)) (fun a=>if permE (intsN a)=0 then wrT (fL (intsN a)) (intsN a).length else[]):=by
 intro a v w1 hW hr
 by_cases hE:permE (intsN a)=0
 ·refine(Cycles_ok v (intsN a) _ _ w1 hr.1 (pm_of hE) hE).mono ?_
  rintro e w' ⟨rfl,hb⟩
  exact⟨by dsimp only;rw[if_pos hE,hE],permE_rg _,fun _=>trivial,hb⟩
 ·refine(Cycles_bad v (intsN a) w1 hr.1 hE).mono ?_
  rintro e w' ⟨rfl,hb⟩
  exact⟨by dsimp only;rw[if_neg hE],permE_rg _,fun h2=>absurd h2 hE,hb⟩
theorem gauE_rng (n k q:Nat):0≤gauE n k q∧gauE n k q≤6:=by
 unfold gauE
 repeat' split
 all_goals decide
theorem gauX_bd (n k q:Nat):I64 (gauX n k q):=by
 unfold gauX gauE
 by_cases h:gauB n k q
 ·rw[if_pos h,if_neg (by decide)]
  unfold I64
  omega
 ·rw[if_neg h]
  by_cases h2:1000000000000000000<(gsR q n).getD k 0
  ·rw[if_pos h2,if_neg (by decide)]
   unfold I64
   omega
  ·rw[if_neg h2,if_pos rfl]
   unfold I64
   omega
theorem pkGau:PkGau gauE gauX:=by
 intro k s t w1 hW h0 h1 h2
 by_cases h:gauB k s t
 ·have e1:gauE k s t=1:=if_pos h
  have e2:gauX k s t=0:=by unfold gauX;rw[e1,if_neg (by decide)]
  refine(Gauss_bad k s t w1 h).mono ?_
  rintro e w' ⟨rfl,rfl⟩
  exact⟨by rw[e1,e2],gauE_rng _ _ _,fun _=>gauX_bd _ _ _,Below.refl _ _⟩
 ·refine(Gauss_ok k s t w1 h).mono ?_
  rintro e w' ⟨rfl,hb⟩
  exact⟨rfl,gauE_rng _ _ _,fun _=>gauX_bd _ _ _,hb⟩
theorem raoE_rng (k s t:Nat):0≤raoE k s t∧raoE k s t≤6:=by
 unfold raoE
 repeat' split
 all_goals decide
theorem raoX_bd (k s t:Nat):I64 (raoX k s t):=by
 unfold raoX raoE
 by_cases h:raoB k s t
 ·rw[if_pos h,if_neg (by decide)]
  unfold I64
  omega
 ·rw[if_neg h]
  by_cases h2:1000000000000000000<raoT k s t
  ·rw[if_pos h2,if_neg (by decide)]
   unfold I64
   omega
  ·rw[if_neg h2,if_pos rfl]
   unfold I64
   omega
theorem pkRao:PkRao raoE raoX:=by
 intro k s t w1 hW h0 h1 h2
 by_cases h:raoB k s t
 ·have e1:raoE k s t=1:=if_pos h
  have e2:raoX k s t=0:=by unfold raoX;rw[e1,if_neg (by decide)]
  refine(Rao_bad k s t w1 h0 h1 h2 h).mono ?_
  rintro e w' ⟨rfl,rfl⟩
  exact⟨by rw[e1,e2],raoE_rng _ _ _,fun _=>raoX_bd _ _ _,Below.refl _ _⟩
 ·refine(Rao_ok k s t w1 h).mono ?_
  rintro e w' ⟨rfl,hb⟩
  exact⟨rfl,raoE_rng _ _ _,fun _=>raoX_bd _ _ _,hb⟩
theorem pick_lt {k all code seen:Nat}:∀(f x y:Nat),pick k all code seen f x=some y→y<k
 |0,x,y,h=>by cases h
 |f+1,x,y,h=>by
  unfold pick at h
  split at h
  ·rename_i hx
   split at h
   ·exact pick_lt f (x+1) y h
   ·cases h
    exact hx
  ·cases h
theorem greedy_mem {k all:Nat}:∀(f code seen:Nat) (out:List Int),(∀x∈out,0≤x∧x<k)→∀x∈greedy k all f code seen out,0≤x∧x<k
 |0,code,seen,out,h,x,hx=>h x hx
 |f+1,code,seen,out,h,x,hx=>by
  unfold greedy at hx
  split at hx
  ·rename_i y hy
   have:=pick_lt _ _ _ hy
   refine greedy_mem f _ _ _ (fun z hz=> ?_) x hx
   rcases List.mem_cons.1 hz with rfl|hz
   ·omega
   ·exact h z hz
  ·exact greedy_mem f _ _ _ h x hx
theorem greed_mem {k n:Nat}:∀x∈greed k n,0≤x∧x<k:=fun x hx=>greedy_mem _ _ _ _ (fun z hz=>by cases hz) x (List.mem_reverse.1 hx)
def bruE (k n:Nat):Int:=if k<1∨10<k∨n<1 then 1 else if 12<n∨4096<k^n then 3 else 0
theorem pkBru:PkBru bruE greed:=by
 intro k n w1 hW h0 h1
 have hrg:0≤bruE k n∧bruE k n≤6:=by
  unfold bruE
  repeat' split
  all_goals decide
 have bad:∀c:Int,c≠0→bruE k n=c→(Calls Tryz.prog 137 #[.int .i64 k,.int .i64 n] w1 fun e w'=>e= .returned (.tuple #[.slice none 0 0,.int .i64 c])∧w1=w')→Calls Tryz.prog 137 #[.int .i64 k,.int .i64 n] w1 fun e w'=>∃u0:Value,e= .returned (.tuple #[u0,.int .i64 (bruE k n)])∧(0≤bruE k n∧bruE k n≤6)∧(bruE k n=0→(Sl w' u0 (greed k n)∧(∀x∈greed k n,I64 x)∧(greed k n).length≤10000))∧(∃pa pn pc,u0= .slice pa pn pc)∧Below w1.heap.size w1 w':=by
  intro c hc he h
  refine h.mono ?_
  rintro e w' ⟨rfl,rfl⟩
  exact⟨.slice none 0 0,by rw[he],hrg,fun h2=>absurd (he.symm.trans h2) hc,⟨_,_,_,rfl⟩,Below.refl _ _⟩
 by_cases a1:k<1∨10<k∨n<1
 ·exact bad 1 (by decide) (if_pos a1) (Bruijn_range k n w1 (by omega))
 by_cases a2:12<n
 ·exact bad 3 (by decide) (by unfold bruE;rw[if_neg a1,if_pos (.inl a2)]) (Bruijn_long k n w1 (by omega) (by omega) (by omega))
 by_cases a3:4096<k^n
 ·exact bad 3 (by decide) (by unfold bruE;rw[if_neg a1,if_pos (.inr a3)]) (Bruijn_full k n w1 (by omega) (by omega) (by omega) (by omega) a3)
 have hx:bruE k n=0:=by unfold bruE;rw[if_neg a1,if_neg (by omega)]
 refine(Bruijn_ok k n w1 (by omega) (by omega) (by omega) (by omega) (by omega)).mono ?_
 rintro e w' ⟨⟨u,rfl,hu⟩,hb⟩
 obtain⟨pa,pc,e⟩:=hu.len
 have hl:=greed_len (k:=k) (n:=n) (by omega)
 refine⟨u,by rw[hx],hrg,fun _=>⟨hu.sl (by omega),fun x hx2=> ?_,by omega⟩,⟨pa,_,pc,e⟩,hb⟩
 have:=greed_mem x hx2
 unfold I64
 omega
def cmdV (k:Nat) (F:Nat):Value:= .agg #[.int .i64 k,.func (Fn.func F) #[] #[]]
theorem cmd_info:(Tryz.prog.info? 41).map (·.size)=some 2:=by kernel_rfl
theorem str_eq {a b:List UInt8}:((str a).toList==b)=(a==b):=by rw[Lib.toList_data,str_data]
theorem find_field (w:World):Calls Tryz.prog 16 #[.string (str [102,105,101,108,100])] w fun e w'=>e= .returned (cmdV 2 26)∧Below w.heap.size w w':=by
 have q0:((str [102,105,101,108,100]).toList==[102,105,101,108,100])=true:=by rw[str_eq];rfl
 generalize str [102,105,101,108,100]=s at*
 go_enter Tryz.func16,Tryz.ntmps16
 have HA9:=hid (Arr.new w 41 [.int .i64 2,.func (Fn.func 26) #[] #[]])
 have HB9:=hid ((Below.refl w.heap.size w).alloc (Nat.le_refl _) (.cells #[.int .i64 2,.func (Fn.func 26) #[] #[]] 41))
 go_wp2
 have hld:=run_loadVar_mid (P:=Tryz.prog) _ _ _ 41 _ _ HA9.out.range Tryz.underlying41 rfl cmd_info
 refine⟨rfl,cmdV 2 26,?_,rfl,HB9.out⟩
 show((results _ _).run _ _)=_
 simp[results,Tryz.f16,asAddr,hld,cmdV]
theorem find_times (w:World):Calls Tryz.prog 16 #[.string (str [116,105,109,101,115])] w fun e w'=>e= .returned (cmdV 4 29)∧Below w.heap.size w w':=by
 have q0:((str [116,105,109,101,115]).toList==[102,105,101,108,100])=false:=by rw[str_eq];rfl
 have q1:((str [116,105,109,101,115]).toList==[116,105,109,101,115])=true:=by rw[str_eq];rfl
 generalize str [116,105,109,101,115]=s at*
 go_enter Tryz.func16,Tryz.ntmps16
 have HA9:=hid (Arr.new w 41 [.int .i64 4,.func (Fn.func 29) #[] #[]])
 have HB9:=hid ((Below.refl w.heap.size w).alloc (Nat.le_refl _) (.cells #[.int .i64 4,.func (Fn.func 29) #[] #[]] 41))
 go_wp2
 have hld:=run_loadVar_mid (P:=Tryz.prog) _ _ _ 41 _ _ HA9.out.range Tryz.underlying41 rfl cmd_info
 refine⟨rfl,cmdV 4 29,?_,rfl,HB9.out⟩
 show((results _ _).run _ _)=_
 simp[results,Tryz.f16,asAddr,hld,cmdV]
theorem find_row (w:World):Calls Tryz.prog 16 #[.string (str [114,111,119])] w fun e w'=>e= .returned (cmdV 4 30)∧Below w.heap.size w w':=by
 have q0:((str [114,111,119]).toList==[102,105,101,108,100])=false:=by rw[str_eq];rfl
 have q1:((str [114,111,119]).toList==[116,105,109,101,115])=false:=by rw[str_eq];rfl
 have q2:((str [114,111,119]).toList==[114,111,119])=true:=by rw[str_eq];rfl
 generalize str [114,111,119]=s at*
 go_enter Tryz.func16,Tryz.ntmps16
 have HA9:=hid (Arr.new w 41 [.int .i64 4,.func (Fn.func 30) #[] #[]])
 have HB9:=hid ((Below.refl w.heap.size w).alloc (Nat.le_refl _) (.cells #[.int .i64 4,.func (Fn.func 30) #[] #[]] 41))
 go_wp2
 have hld:=run_loadVar_mid (P:=Tryz.prog) _ _ _ 41 _ _ HA9.out.range Tryz.underlying41 rfl cmd_info
 refine⟨rfl,cmdV 4 30,?_,rfl,HB9.out⟩
 show((results _ _).run _ _)=_
 simp[results,Tryz.f16,asAddr,hld,cmdV]
theorem find_least (w:World):Calls Tryz.prog 16 #[.string (str [108,101,97,115,116])] w fun e w'=>e= .returned (cmdV 2 35)∧Below w.heap.size w w':=by
 have q0:((str [108,101,97,115,116]).toList==[102,105,101,108,100])=false:=by rw[str_eq];rfl
 have q1:((str [108,101,97,115,116]).toList==[116,105,109,101,115])=false:=by rw[str_eq];rfl
 have q2:((str [108,101,97,115,116]).toList==[114,111,119])=false:=by rw[str_eq];rfl
 have q3:((str [108,101,97,115,116]).toList==[108,101,97,115,116])=true:=by rw[str_eq];rfl
 generalize str [108,101,97,115,116]=s at*
 go_enter Tryz.func16,Tryz.ntmps16
 have HA9:=hid (Arr.new w 41 [.int .i64 2,.func (Fn.func 35) #[] #[]])
 have HB9:=hid ((Below.refl w.heap.size w).alloc (Nat.le_refl _) (.cells #[.int .i64 2,.func (Fn.func 35) #[] #[]] 41))
 go_wp2
 have hld:=run_loadVar_mid (P:=Tryz.prog) _ _ _ 41 _ _ HA9.out.range Tryz.underlying41 rfl cmd_info
 refine⟨rfl,cmdV 2 35,?_,rfl,HB9.out⟩
 show((results _ _).run _ _)=_
 simp[results,Tryz.f16,asAddr,hld,cmdV]
theorem find_cycles (w:World):Calls Tryz.prog 16 #[.string (str [99,121,99,108,101,115])] w fun e w'=>e= .returned (cmdV 1 38)∧Below w.heap.size w w':=by
 have q0:((str [99,121,99,108,101,115]).toList==[102,105,101,108,100])=false:=by rw[str_eq];rfl
 have q1:((str [99,121,99,108,101,115]).toList==[116,105,109,101,115])=false:=by rw[str_eq];rfl
 have q2:((str [99,121,99,108,101,115]).toList==[114,111,119])=false:=by rw[str_eq];rfl
 have q3:((str [99,121,99,108,101,115]).toList==[108,101,97,115,116])=false:=by rw[str_eq];rfl
 have q4:((str [99,121,99,108,101,115]).toList==[99,121,99,108,101,115])=true:=by rw[str_eq];rfl
 generalize str [99,121,99,108,101,115]=s at*
 go_enter Tryz.func16,Tryz.ntmps16
 have HA9:=hid (Arr.new w 41 [.int .i64 1,.func (Fn.func 38) #[] #[]])
 have HB9:=hid ((Below.refl w.heap.size w).alloc (Nat.le_refl _) (.cells #[.int .i64 1,.func (Fn.func 38) #[] #[]] 41))
 go_wp2
 have hld:=run_loadVar_mid (P:=Tryz.prog) _ _ _ 41 _ _ HA9.out.range Tryz.underlying41 rfl cmd_info
 refine⟨rfl,cmdV 1 38,?_,rfl,HB9.out⟩
 show((results _ _).run _ _)=_
 simp[results,Tryz.f16,asAddr,hld,cmdV]
theorem find_order (w:World):Calls Tryz.prog 16 #[.string (str [111,114,100,101,114])] w fun e w'=>e= .returned (cmdV 2 41)∧Below w.heap.size w w':=by
 have q0:((str [111,114,100,101,114]).toList==[102,105,101,108,100])=false:=by rw[str_eq];rfl
 have q1:((str [111,114,100,101,114]).toList==[116,105,109,101,115])=false:=by rw[str_eq];rfl
 have q2:((str [111,114,100,101,114]).toList==[114,111,119])=false:=by rw[str_eq];rfl
 have q3:((str [111,114,100,101,114]).toList==[108,101,97,115,116])=false:=by rw[str_eq];rfl
 have q4:((str [111,114,100,101,114]).toList==[99,121,99,108,101,115])=false:=by rw[str_eq];rfl
 have q5:((str [111,114,100,101,114]).toList==[111,114,100,101,114])=true:=by rw[str_eq];rfl
 generalize str [111,114,100,101,114]=s at*
 go_enter Tryz.func16,Tryz.ntmps16
 have HA9:=hid (Arr.new w 41 [.int .i64 2,.func (Fn.func 41) #[] #[]])
 have HB9:=hid ((Below.refl w.heap.size w).alloc (Nat.le_refl _) (.cells #[.int .i64 2,.func (Fn.func 41) #[] #[]] 41))
 go_wp2
 have hld:=run_loadVar_mid (P:=Tryz.prog) _ _ _ 41 _ _ HA9.out.range Tryz.underlying41 rfl cmd_info
 refine⟨rfl,cmdV 2 41,?_,rfl,HB9.out⟩
 show((results _ _).run _ _)=_
 simp[results,Tryz.f16,asAddr,hld,cmdV]
theorem find_beads (w:World):Calls Tryz.prog 16 #[.string (str [98,101,97,100,115])] w fun e w'=>e= .returned (cmdV 2 45)∧Below w.heap.size w w':=by
 have q0:((str [98,101,97,100,115]).toList==[102,105,101,108,100])=false:=by rw[str_eq];rfl
 have q1:((str [98,101,97,100,115]).toList==[116,105,109,101,115])=false:=by rw[str_eq];rfl
 have q2:((str [98,101,97,100,115]).toList==[114,111,119])=false:=by rw[str_eq];rfl
 have q3:((str [98,101,97,100,115]).toList==[108,101,97,115,116])=false:=by rw[str_eq];rfl
 have q4:((str [98,101,97,100,115]).toList==[99,121,99,108,101,115])=false:=by rw[str_eq];rfl
 have q5:((str [98,101,97,100,115]).toList==[111,114,100,101,114])=false:=by rw[str_eq];rfl
 have q6:((str [98,101,97,100,115]).toList==[98,101,97,100,115])=true:=by rw[str_eq];rfl
 generalize str [98,101,97,100,115]=s at*
 go_enter Tryz.func16,Tryz.ntmps16
 have HA9:=hid (Arr.new w 41 [.int .i64 2,.func (Fn.func 45) #[] #[]])
 have HB9:=hid ((Below.refl w.heap.size w).alloc (Nat.le_refl _) (.cells #[.int .i64 2,.func (Fn.func 45) #[] #[]] 41))
 go_wp2
 have hld:=run_loadVar_mid (P:=Tryz.prog) _ _ _ 41 _ _ HA9.out.range Tryz.underlying41 rfl cmd_info
 refine⟨rfl,cmdV 2 45,?_,rfl,HB9.out⟩
 show((results _ _).run _ _)=_
 simp[results,Tryz.f16,asAddr,hld,cmdV]
theorem find_extend (w:World):Calls Tryz.prog 16 #[.string (str [101,120,116,101,110,100])] w fun e w'=>e= .returned (cmdV 2 47)∧Below w.heap.size w w':=by
 have q0:((str [101,120,116,101,110,100]).toList==[102,105,101,108,100])=false:=by rw[str_eq];rfl
 have q1:((str [101,120,116,101,110,100]).toList==[116,105,109,101,115])=false:=by rw[str_eq];rfl
 have q2:((str [101,120,116,101,110,100]).toList==[114,111,119])=false:=by rw[str_eq];rfl
 have q3:((str [101,120,116,101,110,100]).toList==[108,101,97,115,116])=false:=by rw[str_eq];rfl
 have q4:((str [101,120,116,101,110,100]).toList==[99,121,99,108,101,115])=false:=by rw[str_eq];rfl
 have q5:((str [101,120,116,101,110,100]).toList==[111,114,100,101,114])=false:=by rw[str_eq];rfl
 have q6:((str [101,120,116,101,110,100]).toList==[98,101,97,100,115])=false:=by rw[str_eq];rfl
 have q7:((str [101,120,116,101,110,100]).toList==[101,120,116,101,110,100])=true:=by rw[str_eq];rfl
 generalize str [101,120,116,101,110,100]=s at*
 go_enter Tryz.func16,Tryz.ntmps16
 have HA9:=hid (Arr.new w 41 [.int .i64 2,.func (Fn.func 47) #[] #[]])
 have HB9:=hid ((Below.refl w.heap.size w).alloc (Nat.le_refl _) (.cells #[.int .i64 2,.func (Fn.func 47) #[] #[]] 41))
 go_wp2
 have hld:=run_loadVar_mid (P:=Tryz.prog) _ _ _ 41 _ _ HA9.out.range Tryz.underlying41 rfl cmd_info
 refine⟨rfl,cmdV 2 47,?_,rfl,HB9.out⟩
 show((results _ _).run _ _)=_
 simp[results,Tryz.f16,asAddr,hld,cmdV]
theorem find_level (w:World):Calls Tryz.prog 16 #[.string (str [108,101,118,101,108])] w fun e w'=>e= .returned (cmdV 3 48)∧Below w.heap.size w w':=by
 have q0:((str [108,101,118,101,108]).toList==[102,105,101,108,100])=false:=by rw[str_eq];rfl
 have q1:((str [108,101,118,101,108]).toList==[116,105,109,101,115])=false:=by rw[str_eq];rfl
 have q2:((str [108,101,118,101,108]).toList==[114,111,119])=false:=by rw[str_eq];rfl
 have q3:((str [108,101,118,101,108]).toList==[108,101,97,115,116])=false:=by rw[str_eq];rfl
 have q4:((str [108,101,118,101,108]).toList==[99,121,99,108,101,115])=false:=by rw[str_eq];rfl
 have q5:((str [108,101,118,101,108]).toList==[111,114,100,101,114])=false:=by rw[str_eq];rfl
 have q6:((str [108,101,118,101,108]).toList==[98,101,97,100,115])=false:=by rw[str_eq];rfl
 have q7:((str [108,101,118,101,108]).toList==[101,120,116,101,110,100])=false:=by rw[str_eq];rfl
 have q8:((str [108,101,118,101,108]).toList==[108,101,118,101,108])=true:=by rw[str_eq];rfl
 generalize str [108,101,118,101,108]=s at*
 go_enter Tryz.func16,Tryz.ntmps16
 have HA9:=hid (Arr.new w 41 [.int .i64 3,.func (Fn.func 48) #[] #[]])
 have HB9:=hid ((Below.refl w.heap.size w).alloc (Nat.le_refl _) (.cells #[.int .i64 3,.func (Fn.func 48) #[] #[]] 41))
 go_wp2
 have hld:=run_loadVar_mid (P:=Tryz.prog) _ _ _ 41 _ _ HA9.out.range Tryz.underlying41 rfl cmd_info
 refine⟨rfl,cmdV 3 48,?_,rfl,HB9.out⟩
 show((results _ _).run _ _)=_
 simp[results,Tryz.f16,asAddr,hld,cmdV]
theorem find_triples (w:World):Calls Tryz.prog 16 #[.string (str [116,114,105,112,108,101,115])] w fun e w'=>e= .returned (cmdV 1 49)∧Below w.heap.size w w':=by
 have q0:((str [116,114,105,112,108,101,115]).toList==[102,105,101,108,100])=false:=by rw[str_eq];rfl
 have q1:((str [116,114,105,112,108,101,115]).toList==[116,105,109,101,115])=false:=by rw[str_eq];rfl
 have q2:((str [116,114,105,112,108,101,115]).toList==[114,111,119])=false:=by rw[str_eq];rfl
 have q3:((str [116,114,105,112,108,101,115]).toList==[108,101,97,115,116])=false:=by rw[str_eq];rfl
 have q4:((str [116,114,105,112,108,101,115]).toList==[99,121,99,108,101,115])=false:=by rw[str_eq];rfl
 have q5:((str [116,114,105,112,108,101,115]).toList==[111,114,100,101,114])=false:=by rw[str_eq];rfl
 have q6:((str [116,114,105,112,108,101,115]).toList==[98,101,97,100,115])=false:=by rw[str_eq];rfl
 have q7:((str [116,114,105,112,108,101,115]).toList==[101,120,116,101,110,100])=false:=by rw[str_eq];rfl
 have q8:((str [116,114,105,112,108,101,115]).toList==[108,101,118,101,108])=false:=by rw[str_eq];rfl
 have q9:((str [116,114,105,112,108,101,115]).toList==[116,114,105,112,108,101,115])=true:=by rw[str_eq];rfl
 generalize str [116,114,105,112,108,101,115]=s at*
 go_enter Tryz.func16,Tryz.ntmps16
 have HA9:=hid (Arr.new w 41 [.int .i64 1,.func (Fn.func 49) #[] #[]])
 have HB9:=hid ((Below.refl w.heap.size w).alloc (Nat.le_refl _) (.cells #[.int .i64 1,.func (Fn.func 49) #[] #[]] 41))
 go_wp2
 have hld:=run_loadVar_mid (P:=Tryz.prog) _ _ _ 41 _ _ HA9.out.range Tryz.underlying41 rfl cmd_info
 refine⟨rfl,cmdV 1 49,?_,rfl,HB9.out⟩
 show((results _ _).run _ _)=_
 simp[results,Tryz.f16,asAddr,hld,cmdV]
theorem later_differ (w:World):Calls Tryz.prog 50 #[.string (str [100,105,102,102,101,114])] w fun e w'=>e= .returned (cmdV 2 122)∧Below w.heap.size w w':=by
 have q0:((str [100,105,102,102,101,114]).toList==[100,105,102,102,101,114])=true:=by rw[str_eq];rfl
 generalize str [100,105,102,102,101,114]=s at*
 go_enter Tryz.func50,Tryz.ntmps50
 have HA9:=hid (Arr.new w 41 [.int .i64 2,.func (Fn.func 122) #[] #[]])
 have HB9:=hid ((Below.refl w.heap.size w).alloc (Nat.le_refl _) (.cells #[.int .i64 2,.func (Fn.func 122) #[] #[]] 41))
 go_wp2
 have hld:=run_loadVar_mid (P:=Tryz.prog) _ _ _ 41 _ _ HA9.out.range Tryz.underlying41 rfl cmd_info
 refine⟨rfl,cmdV 2 122,?_,rfl,HB9.out⟩
 show((results _ _).run _ _)=_
 simp[results,Tryz.f50,asAddr,hld,cmdV]
theorem later_ruler (w:World):Calls Tryz.prog 50 #[.string (str [114,117,108,101,114])] w fun e w'=>e= .returned (cmdV 1 123)∧Below w.heap.size w w':=by
 have q0:((str [114,117,108,101,114]).toList==[100,105,102,102,101,114])=false:=by rw[str_eq];rfl
 have q1:((str [114,117,108,101,114]).toList==[114,117,108,101,114])=true:=by rw[str_eq];rfl
 generalize str [114,117,108,101,114]=s at*
 go_enter Tryz.func50,Tryz.ntmps50
 have HA9:=hid (Arr.new w 41 [.int .i64 1,.func (Fn.func 123) #[] #[]])
 have HB9:=hid ((Below.refl w.heap.size w).alloc (Nat.le_refl _) (.cells #[.int .i64 1,.func (Fn.func 123) #[] #[]] 41))
 go_wp2
 have hld:=run_loadVar_mid (P:=Tryz.prog) _ _ _ 41 _ _ HA9.out.range Tryz.underlying41 rfl cmd_info
 refine⟨rfl,cmdV 1 123,?_,rfl,HB9.out⟩
 show((results _ _).run _ _)=_
 simp[results,Tryz.f50,asAddr,hld,cmdV]
theorem later_gauss (w:World):Calls Tryz.prog 50 #[.string (str [103,97,117,115,115])] w fun e w'=>e= .returned (cmdV 3 125)∧Below w.heap.size w w':=by
 have q0:((str [103,97,117,115,115]).toList==[100,105,102,102,101,114])=false:=by rw[str_eq];rfl
 have q1:((str [103,97,117,115,115]).toList==[114,117,108,101,114])=false:=by rw[str_eq];rfl
 have q2:((str [103,97,117,115,115]).toList==[103,97,117,115,115])=true:=by rw[str_eq];rfl
 generalize str [103,97,117,115,115]=s at*
 go_enter Tryz.func50,Tryz.ntmps50
 have HA9:=hid (Arr.new w 41 [.int .i64 3,.func (Fn.func 125) #[] #[]])
 have HB9:=hid ((Below.refl w.heap.size w).alloc (Nat.le_refl _) (.cells #[.int .i64 3,.func (Fn.func 125) #[] #[]] 41))
 go_wp2
 have hld:=run_loadVar_mid (P:=Tryz.prog) _ _ _ 41 _ _ HA9.out.range Tryz.underlying41 rfl cmd_info
 refine⟨rfl,cmdV 3 125,?_,rfl,HB9.out⟩
 show((results _ _).run _ _)=_
 simp[results,Tryz.f50,asAddr,hld,cmdV]
theorem later_bent (w:World):Calls Tryz.prog 50 #[.string (str [98,101,110,116])] w fun e w'=>e= .returned (cmdV 1 127)∧Below w.heap.size w w':=by
 have q0:((str [98,101,110,116]).toList==[100,105,102,102,101,114])=false:=by rw[str_eq];rfl
 have q1:((str [98,101,110,116]).toList==[114,117,108,101,114])=false:=by rw[str_eq];rfl
 have q2:((str [98,101,110,116]).toList==[103,97,117,115,115])=false:=by rw[str_eq];rfl
 have q3:((str [98,101,110,116]).toList==[98,101,110,116])=true:=by rw[str_eq];rfl
 generalize str [98,101,110,116]=s at*
 go_enter Tryz.func50,Tryz.ntmps50
 have HA9:=hid (Arr.new w 41 [.int .i64 1,.func (Fn.func 127) #[] #[]])
 have HB9:=hid ((Below.refl w.heap.size w).alloc (Nat.le_refl _) (.cells #[.int .i64 1,.func (Fn.func 127) #[] #[]] 41))
 go_wp2
 have hld:=run_loadVar_mid (P:=Tryz.prog) _ _ _ 41 _ _ HA9.out.range Tryz.underlying41 rfl cmd_info
 refine⟨rfl,cmdV 1 127,?_,rfl,HB9.out⟩
 show((results _ _).run _ _)=_
 simp[results,Tryz.f50,asAddr,hld,cmdV]
theorem later_rao (w:World):Calls Tryz.prog 50 #[.string (str [114,97,111])] w fun e w'=>e= .returned (cmdV 3 130)∧Below w.heap.size w w':=by
 have q0:((str [114,97,111]).toList==[100,105,102,102,101,114])=false:=by rw[str_eq];rfl
 have q1:((str [114,97,111]).toList==[114,117,108,101,114])=false:=by rw[str_eq];rfl
 have q2:((str [114,97,111]).toList==[103,97,117,115,115])=false:=by rw[str_eq];rfl
 have q3:((str [114,97,111]).toList==[98,101,110,116])=false:=by rw[str_eq];rfl
 have q4:((str [114,97,111]).toList==[114,97,111])=true:=by rw[str_eq];rfl
 generalize str [114,97,111]=s at*
 go_enter Tryz.func50,Tryz.ntmps50
 have HA9:=hid (Arr.new w 41 [.int .i64 3,.func (Fn.func 130) #[] #[]])
 have HB9:=hid ((Below.refl w.heap.size w).alloc (Nat.le_refl _) (.cells #[.int .i64 3,.func (Fn.func 130) #[] #[]] 41))
 go_wp2
 have hld:=run_loadVar_mid (P:=Tryz.prog) _ _ _ 41 _ _ HA9.out.range Tryz.underlying41 rfl cmd_info
 refine⟨rfl,cmdV 3 130,?_,rfl,HB9.out⟩
 show((results _ _).run _ _)=_
 simp[results,Tryz.f50,asAddr,hld,cmdV]
theorem later_circle (w:World):Calls Tryz.prog 50 #[.string (str [99,105,114,99,108,101])] w fun e w'=>e= .returned (cmdV 1 132)∧Below w.heap.size w w':=by
 have q0:((str [99,105,114,99,108,101]).toList==[100,105,102,102,101,114])=false:=by rw[str_eq];rfl
 have q1:((str [99,105,114,99,108,101]).toList==[114,117,108,101,114])=false:=by rw[str_eq];rfl
 have q2:((str [99,105,114,99,108,101]).toList==[103,97,117,115,115])=false:=by rw[str_eq];rfl
 have q3:((str [99,105,114,99,108,101]).toList==[98,101,110,116])=false:=by rw[str_eq];rfl
 have q4:((str [99,105,114,99,108,101]).toList==[114,97,111])=false:=by rw[str_eq];rfl
 have q5:((str [99,105,114,99,108,101]).toList==[99,105,114,99,108,101])=true:=by rw[str_eq];rfl
 generalize str [99,105,114,99,108,101]=s at*
 go_enter Tryz.func50,Tryz.ntmps50
 have HA9:=hid (Arr.new w 41 [.int .i64 1,.func (Fn.func 132) #[] #[]])
 have HB9:=hid ((Below.refl w.heap.size w).alloc (Nat.le_refl _) (.cells #[.int .i64 1,.func (Fn.func 132) #[] #[]] 41))
 go_wp2
 have hld:=run_loadVar_mid (P:=Tryz.prog) _ _ _ 41 _ _ HA9.out.range Tryz.underlying41 rfl cmd_info
 refine⟨rfl,cmdV 1 132,?_,rfl,HB9.out⟩
 show((results _ _).run _ _)=_
 simp[results,Tryz.f50,asAddr,hld,cmdV]
theorem later_could (w:World):Calls Tryz.prog 50 #[.string (str [99,111,117,108,100])] w fun e w'=>e= .returned (cmdV 1 134)∧Below w.heap.size w w':=by
 have q0:((str [99,111,117,108,100]).toList==[100,105,102,102,101,114])=false:=by rw[str_eq];rfl
 have q1:((str [99,111,117,108,100]).toList==[114,117,108,101,114])=false:=by rw[str_eq];rfl
 have q2:((str [99,111,117,108,100]).toList==[103,97,117,115,115])=false:=by rw[str_eq];rfl
 have q3:((str [99,111,117,108,100]).toList==[98,101,110,116])=false:=by rw[str_eq];rfl
 have q4:((str [99,111,117,108,100]).toList==[114,97,111])=false:=by rw[str_eq];rfl
 have q5:((str [99,111,117,108,100]).toList==[99,105,114,99,108,101])=false:=by rw[str_eq];rfl
 have q6:((str [99,111,117,108,100]).toList==[99,111,117,108,100])=true:=by rw[str_eq];rfl
 generalize str [99,111,117,108,100]=s at*
 go_enter Tryz.func50,Tryz.ntmps50
 have HA9:=hid (Arr.new w 41 [.int .i64 1,.func (Fn.func 134) #[] #[]])
 have HB9:=hid ((Below.refl w.heap.size w).alloc (Nat.le_refl _) (.cells #[.int .i64 1,.func (Fn.func 134) #[] #[]] 41))
 go_wp2
 have hld:=run_loadVar_mid (P:=Tryz.prog) _ _ _ 41 _ _ HA9.out.range Tryz.underlying41 rfl cmd_info
 refine⟨rfl,cmdV 1 134,?_,rfl,HB9.out⟩
 show((results _ _).run _ _)=_
 simp[results,Tryz.f50,asAddr,hld,cmdV]
theorem later_bruijn (w:World):Calls Tryz.prog 50 #[.string (str [98,114,117,105,106,110])] w fun e w'=>e= .returned (cmdV 2 136)∧Below w.heap.size w w':=by
 have q0:((str [98,114,117,105,106,110]).toList==[100,105,102,102,101,114])=false:=by rw[str_eq];rfl
 have q1:((str [98,114,117,105,106,110]).toList==[114,117,108,101,114])=false:=by rw[str_eq];rfl
 have q2:((str [98,114,117,105,106,110]).toList==[103,97,117,115,115])=false:=by rw[str_eq];rfl
 have q3:((str [98,114,117,105,106,110]).toList==[98,101,110,116])=false:=by rw[str_eq];rfl
 have q4:((str [98,114,117,105,106,110]).toList==[114,97,111])=false:=by rw[str_eq];rfl
 have q5:((str [98,114,117,105,106,110]).toList==[99,105,114,99,108,101])=false:=by rw[str_eq];rfl
 have q6:((str [98,114,117,105,106,110]).toList==[99,111,117,108,100])=false:=by rw[str_eq];rfl
 have q7:((str [98,114,117,105,106,110]).toList==[98,114,117,105,106,110])=true:=by rw[str_eq];rfl
 generalize str [98,114,117,105,106,110]=s at*
 go_enter Tryz.func50,Tryz.ntmps50
 have HA9:=hid (Arr.new w 41 [.int .i64 2,.func (Fn.func 136) #[] #[]])
 have HB9:=hid ((Below.refl w.heap.size w).alloc (Nat.le_refl _) (.cells #[.int .i64 2,.func (Fn.func 136) #[] #[]] 41))
 go_wp2
 have hld:=run_loadVar_mid (P:=Tryz.prog) _ _ _ 41 _ _ HA9.out.range Tryz.underlying41 rfl cmd_info
 refine⟨rfl,cmdV 2 136,?_,rfl,HB9.out⟩
 show((results _ _).run _ _)=_
 simp[results,Tryz.f50,asAddr,hld,cmdV]
theorem later_cascade (w:World):Calls Tryz.prog 50 #[.string (str [99,97,115,99,97,100,101])] w fun e w'=>e= .returned (cmdV 2 138)∧Below w.heap.size w w':=by
 have q0:((str [99,97,115,99,97,100,101]).toList==[100,105,102,102,101,114])=false:=by rw[str_eq];rfl
 have q1:((str [99,97,115,99,97,100,101]).toList==[114,117,108,101,114])=false:=by rw[str_eq];rfl
 have q2:((str [99,97,115,99,97,100,101]).toList==[103,97,117,115,115])=false:=by rw[str_eq];rfl
 have q3:((str [99,97,115,99,97,100,101]).toList==[98,101,110,116])=false:=by rw[str_eq];rfl
 have q4:((str [99,97,115,99,97,100,101]).toList==[114,97,111])=false:=by rw[str_eq];rfl
 have q5:((str [99,97,115,99,97,100,101]).toList==[99,105,114,99,108,101])=false:=by rw[str_eq];rfl
 have q6:((str [99,97,115,99,97,100,101]).toList==[99,111,117,108,100])=false:=by rw[str_eq];rfl
 have q7:((str [99,97,115,99,97,100,101]).toList==[98,114,117,105,106,110])=false:=by rw[str_eq];rfl
 have q8:((str [99,97,115,99,97,100,101]).toList==[99,97,115,99,97,100,101])=true:=by rw[str_eq];rfl
 generalize str [99,97,115,99,97,100,101]=s at*
 go_enter Tryz.func50,Tryz.ntmps50
 have HA9:=hid (Arr.new w 41 [.int .i64 2,.func (Fn.func 138) #[] #[]])
 have HB9:=hid ((Below.refl w.heap.size w).alloc (Nat.le_refl _) (.cells #[.int .i64 2,.func (Fn.func 138) #[] #[]] 41))
 go_wp2
 have hld:=run_loadVar_mid (P:=Tryz.prog) _ _ _ 41 _ _ HA9.out.range Tryz.underlying41 rfl cmd_info
 refine⟨rfl,cmdV 2 138,?_,rfl,HB9.out⟩
 show((results _ _).run _ _)=_
 simp[results,Tryz.f50,asAddr,hld,cmdV]
end Go.Proofs.YtnnaadmegeeinaaGreatDoor
