/-
  Part 1 of a proof: what it proves stands in the last text.
-/
set_option linter.unusedVariables false
set_option maxHeartbeats 8000000
set_option maxRecDepth 100000
namespace Go.Proofs.YtnnaadmegeeinaaGreatDoor
def allB (f:Nat→Bool):Nat→Bool
 |0=>true
 |n+1=>f n&&allB f n
theorem allB_spec {f:Nat→Bool}:∀{n:Nat},allB f n=true→∀x,x<n→f x=true
 |0,_,x,h=>by omega
 |n+1,hb,x,h=>by
  simp only[allB,Bool.and_eq_true]at hb
  by_cases e:x=n
  ·rw[e];exact hb.1
  ·exact allB_spec hb.2 x (by omega)
def dot (taps l:List Int):Nat→Int
 |0=>0
 |j+1=>dot taps l j+taps.getD j 0*l.getD (l.length-1-j) 0
def nxt (p:Int) (taps seed l:List Int):Int:=if l.length<seed.length then seed.getD l.length 0 else dot taps l taps.length%p
def rowL (p:Int) (taps seed:List Int):Nat→List Int
 |0=>[]
 |i+1=>rowL p taps seed i++[nxt p taps seed (rowL p taps seed i)]
theorem rowL_len (p:Int) (taps seed:List Int):∀i,(rowL p taps seed i).length=i
 |0=>rfl
 |i+1=>by simp[rowL,rowL_len p taps seed i]
theorem getD_nn {l:List Int} {p:Int} (hp:0<p) (h:∀x∈l,0≤x∧x<p) (j:Nat):0≤l.getD j 0∧l.getD j 0<p:=by
 rw[List.getD_eq_getElem?_getD]
 cases e:l[j]? with
 |none=>simpa using hp
 |some x=>exact h x (List.mem_of_getElem? e)
theorem mul_bd {x y p:Int} (h1:0≤x∧x<p) (h2:0≤y∧y<p) (hp:p≤7):0≤x*y∧x*y≤36:=by
 refine⟨Int.mul_nonneg h1.1 h2.1,?_⟩
 have:x*y≤6*6:=Int.mul_le_mul (by omega) (by omega) h2.1 (by omega)
 omega
theorem dot_bd {taps l:List Int} {p:Int} (hp:0<p) (hp7:p≤7) (h1:∀x∈taps,0≤x∧x<p) (h2:∀x∈l,0≤x∧x<p):∀j:Nat,0≤dot taps l j∧dot taps l j≤36*(j:Int)
 |0=>by simp[dot]
 |j+1=>by
  have ih:=dot_bd hp hp7 h1 h2 j
  have:=mul_bd (getD_nn hp h1 j) (getD_nn hp h2 (l.length-1-j)) hp7
  simp only[dot]
  omega
theorem row_mem {p:Int} {taps seed:List Int} (hp:0<p) (hs:∀x∈seed,0≤x∧x<p):∀i,∀x∈rowL p taps seed i,0≤x∧x<p
 |0,x,h=>by simp[rowL]at h
 |i+1,x,h=>by
  simp only[rowL,List.mem_append,List.mem_singleton]at h
  rcases h with h|rfl
  ·exact row_mem hp hs i x h
  ·unfold nxt
   split
   ·exact getD_nn hp hs _
   ·exact⟨Int.emod_nonneg _ (by omega),Int.emod_lt_of_pos _ hp⟩
theorem row_take (p:Int) (taps seed:List Int) (i:Nat):∀d,(rowL p taps seed (i+d)).take i=rowL p taps seed i
 |0=>by rw[Nat.add_zero,List.take_of_length_le (by rw[rowL_len];exact Nat.le_refl _)]
 |d+1=>by
  have:rowL p taps seed (i+(d+1))=rowL p taps seed (i+d)++[nxt p taps seed (rowL p taps seed (i+d))]:=rfl
  rw[this,List.take_append_of_le_length (by rw[rowL_len];omega),row_take p taps seed i d]
theorem row_get {p:Int} {taps seed:List Int} {i n m:Nat} (h1:i<n) (h2:n≤m):(rowL p taps seed n).getD i 0=(rowL p taps seed m).getD i 0:=by
 have:=row_take p taps seed n (m-n)
 rw[show n+(m-n)=m by omega]at this
 rw[←this,List.getD_eq_getElem?_getD,List.getElem?_take,if_pos h1,←List.getD_eq_getElem?_getD]
def rowF (p:Int) (taps seed:List Int) (i:Nat):Int:=(rowL p taps seed (i+1)).getD i 0
theorem row_at {p:Int} {taps seed:List Int} {i n:Nat} (h:i<n):(rowL p taps seed n).getD i 0=rowF p taps seed i:=(row_get (Nat.lt_succ_self i) h).symm
theorem row_list (p:Int) (taps seed:List Int) (n:Nat):rowL p taps seed n=(List.range n).map (rowF p taps seed):=by
 refine List.ext_getElem (by simp[rowL_len]) fun i h1 h2=> ?_
 have h1':=h1
 rw[rowL_len]at h1'
 have:=row_at (p:=p) (taps:=taps) (seed:=seed) h1'
 rw[List.getD_eq_getElem?_getD,List.getElem?_eq_getElem h1]at this
 simpa using this
theorem row_seed {p:Int} {taps seed:List Int}:rowL p taps seed seed.length=seed:=by
 refine List.ext_getElem (by rw[rowL_len]) fun i h1 h2=> ?_
 have h:=row_at (p:=p) (taps:=taps) (seed:=seed) h2
 rw[List.getD_eq_getElem?_getD,List.getElem?_eq_getElem h1]at h
 have e:rowF p taps seed i=seed[i]:=by
  unfold rowF
  simp only[rowL]
  rw[List.getD_eq_getElem?_getD,List.getElem?_append_right (by rw[rowL_len];exact Nat.le_refl _),rowL_len,Nat.sub_self]
  unfold nxt
  rw[rowL_len,if_pos h2]
  simp[h2]
 simpa [e]using h
def winL (p:Int) (taps seed:List Int) (m:Nat):List Int:=(rowL p taps seed (m+seed.length)).drop m
theorem win_len (p:Int) (taps seed:List Int) (m:Nat):(winL p taps seed m).length=seed.length:=by simp[winL,rowL_len]
theorem win_zero (p:Int) (taps seed:List Int):winL p taps seed 0=seed:=by simp[winL,row_seed]
theorem win_get {p:Int} {taps seed:List Int} {m i:Nat} (h:i<seed.length):(winL p taps seed m).getD i 0=rowF p taps seed (m+i):=by
 unfold winL
 rw[List.getD_eq_getElem?_getD,List.getElem?_drop,←List.getD_eq_getElem?_getD,row_at (by omega)]
theorem win_next (p:Int) (taps seed:List Int) (m:Nat) (hk:1≤seed.length):winL p taps seed (m+1)=(winL p taps seed m).drop 1++[dot taps (winL p taps seed m) taps.length%p]∨taps.length≠seed.length:=by
 by_cases hl:taps.length=seed.length
 ·left
  unfold winL
  rw[show m+1+seed.length=(m+seed.length)+1 by omega]
  simp only[rowL]
  rw[List.drop_append_of_le_length (by rw[rowL_len];omega),List.drop_drop]
  congr 2
  unfold nxt
  rw[rowL_len,if_neg (by omega)]
  congr 1
  have key:∀j,j≤seed.length→dot taps (rowL p taps seed (m+seed.length)) j=dot taps ((rowL p taps seed (m+seed.length)).drop m) j:=by
   intro j
   induction j with
   |zero=>intro _;rfl
   |succ j ih=>
    intro hj
    simp only[dot]
    rw[ih (by omega)]
    congr 2
    rw[List.length_drop,rowL_len,List.getD_eq_getElem?_getD,List.getD_eq_getElem?_getD,List.getElem?_drop]
    congr 2
    omega
  exact key _ (by omega)
 ·exact .inr hl
theorem pigeon:∀(n:Nat) (f:Nat→Nat),(∀i,i≤n→f i<n)→∃i j,i<j∧j≤n∧f i=f j
 |0,f,h=>by have:=h 0 (Nat.le_refl _);omega
 |n+1,f,h=>by
  by_cases hex:∃i,i≤n∧f i=f (n+1)
  ·obtain⟨i,hi,he⟩:=hex
   exact⟨i,n+1,by omega,Nat.le_refl _,he⟩
  ·
   have hne:∀i,i≤n→f i≠f (n+1):=fun i hi e=>hex ⟨i,hi,e⟩
   have hl:=h (n+1) (Nat.le_refl _)
   obtain⟨i,j,h1,h2,h3⟩:=pigeon n (fun i=>if f i=n then f (n+1)else f i) (fun i hi=>by
    have h4:=h i (by omega)
    have h5:=hne i hi
    show(if f i=n then f (n+1)else f i)<n
    split
    ·omega
    ·omega)
   refine⟨i,j,h1,by omega,?_⟩
   have h5:=hne i (by omega)
   have h6:=hne j h2
   split at h3<;>split at h3<;>omega
def tab (z d:Int) (code:Nat→Int) (S:Nat):Nat→List Int
 |0=>List.replicate S z
 |m+1=>(tab z d code S m).set (code m).toNat ((m:Int)+d)
end Go.Proofs.YtnnaadmegeeinaaGreatDoor
namespace Go.Proofs.YtnnaadmegeeinaaGreatDoor
structure Pm (n:Nat) (f:Nat→Nat):Prop where
 lt:∀i,i<n→f i<n
 inj:∀i j,i<n→j<n→f i=f j→i=j
def it (f:Nat→Nat):Nat→Nat→Nat
 |0,i=>i
 |k+1,i=>f (it f k i)
theorem it_add (f:Nat→Nat) (a:Nat) (i:Nat):∀b,it f (b+a) i=it f b (it f a i)
 |0=>by rw[Nat.zero_add];rfl
 |b+1=>by rw[show b+1+a=(b+a)+1 by omega];simp only[it];rw[it_add f a i b]
section
variable {n:Nat} {f:Nat→Nat}
theorem Pm.it_lt (P:Pm n f) {i:Nat} (hi:i<n):∀k,it f k i<n
 |0=>hi
 |k+1=>P.lt _ (P.it_lt hi k)
theorem Pm.it_inj (P:Pm n f) {i j:Nat} (hi:i<n) (hj:j<n):∀k,it f k i=it f k j→i=j
 |0,h=>h
 |k+1,h=>P.it_inj hi hj k (P.inj _ _ (P.it_lt hi k) (P.it_lt hj k) h)
def per (f:Nat→Nat) (n i:Nat):Nat:=((List.range n).find? (fun m=>it f (m+1) i==i)).getD 0+1
theorem Pm.per_spec (P:Pm n f) {i:Nat} (hi:i<n):it f (per f n i) i=i∧1≤per f n i∧per f n i≤n∧∀k,1≤k→k<per f n i→it f k i≠i:=by
 obtain⟨a,b,hab,hb,he⟩:=pigeon n (fun k=>it f k i) (fun k _=>P.it_lt hi k)
 have hback:it f (b-a) i=i:=by
  have h1:it f b i=it f a (it f (b-a) i):=by rw[←it_add];congr 1;omega
  have h2:it f a i=it f b i:=he
  rw[h1]at h2
  exact(P.it_inj hi (P.it_lt hi _) a h2).symm
 cases hf:(List.range n).find? (fun m=>it f (m+1) i==i)with
 |none=>
  have:=List.find?_eq_none.1 hf (b-a-1) (List.mem_range.2 (by omega))
  rw[show b-a-1+1=b-a by omega]at this
  simp[hback]at this
 |some m=>
  obtain⟨h1,h2,h3⟩:=List.find?_range_eq_some.1 hf
  have hp:per f n i=m+1:=by unfold per;rw[hf];rfl
  rw[hp]
  refine⟨by simpa using h1,by omega,by have:=List.mem_range.1 h2;omega,fun k hk1 hk2 e=> ?_⟩
  have:=h3 (k-1) (by omega)
  rw[show k-1+1=k by omega]at this
  simp[e]at this
theorem Pm.it_mul (P:Pm n f) {i:Nat} (hi:i<n):∀k,it f (k*per f n i) i=i
 |0=>by simp[it]
 |k+1=>by rw[Nat.succ_mul,it_add,(P.per_spec hi).1,P.it_mul hi k]
theorem Pm.it_mod (P:Pm n f) {i:Nat} (hi:i<n) (k:Nat):it f k i=it f (k%per f n i) i:=by
 have h:=Nat.mod_add_div k (per f n i)
 conv=>lhs;rw[←h,Nat.mul_comm,it_add,P.it_mul hi]
theorem Pm.it_unlike (P:Pm n f) {i a b:Nat} (hi:i<n) (hb:b<per f n i) (hab:a<b):it f a i≠it f b i:=by
 intro h
 have h1:it f b i=it f a (it f (b-a) i):=by rw[←it_add];congr 1;omega
 rw[h1]at h
 exact(P.per_spec hi).2.2.2 (b-a) (by omega) (by omega) (P.it_inj hi (P.it_lt hi _) a h).symm
def Reach (f:Nat→Nat) (i x:Nat):Prop:=∃k,x=it f k i
theorem Reach.trans {i j x:Nat} (h:Reach f i j) (g:Reach f j x):Reach f i x:=by
 obtain⟨a,rfl⟩:=h
 obtain⟨b,rfl⟩:=g
 exact⟨b+a,(it_add f a i b).symm⟩
theorem Pm.reach_symm (P:Pm n f) {i x:Nat} (hi:i<n) (h:Reach f i x):Reach f x i:=by
 obtain⟨k,rfl⟩:=h
 have h2:=(P.per_spec hi).2.1
 refine⟨k*per f n i-k,?_⟩
 rw[←it_add,Nat.sub_add_cancel (Nat.le_mul_of_pos_right k h2),P.it_mul hi]
theorem Pm.reach_lt (P:Pm n f) {i x:Nat} (hi:i<n) (h:Reach f i x):x<n:=by
 obtain⟨k,rfl⟩:=h
 exact P.it_lt hi k
theorem Pm.reach_small (P:Pm n f) {i x:Nat} (hi:i<n) (h:Reach f i x):∃k,k<per f n i∧x=it f k i:=by
 obtain⟨k,rfl⟩:=h
 exact⟨k%per f n i,Nat.mod_lt _ (P.per_spec hi).2.1,P.it_mod hi k⟩
def orb (f:Nat→Nat) (m i:Nat):List Nat:=(List.range m).map fun k=>it f k i
theorem orb_len (f:Nat→Nat) (m i:Nat):(orb f m i).length=m:=by simp[orb]
theorem orb_succ (f:Nat→Nat) (m i:Nat):orb f (m+1) i=orb f m i++[it f m i]:=by simp[orb,List.range_succ]
def leadB (f:Nat→Nat) (n i:Nat):Bool:=(List.range i).all fun j=> !(orb f (per f n j) j).contains i
theorem Pm.mem_orb (P:Pm n f) {i x:Nat} (hi:i<n):x∈orb f (per f n i) i↔Reach f i x:=by
 simp only[orb,List.mem_map,List.mem_range]
 constructor
 ·rintro⟨k,_,rfl⟩;exact⟨k,rfl⟩
 ·intro h
  obtain⟨k,hk,rfl⟩:=P.reach_small hi h
  exact⟨k,hk,rfl⟩
theorem Pm.lead_iff (P:Pm n f) {i:Nat} (hi:i<n):leadB f n i=true↔∀j,j<i→¬Reach f j i:=by
 simp only[leadB,List.all_eq_true,List.mem_range,Bool.not_eq_true',List.contains_eq_mem,decide_eq_false_iff_not]
 constructor
 ·exact fun h j hj hr=>h j hj ((P.mem_orb (by omega)).2 hr)
 ·exact fun h j hj hr=>h j hj ((P.mem_orb (by omega)).1 hr)
theorem Pm.lead_not (P:Pm n f) {i:Nat} (hi:i<n) (h:leadB f n i=false):∃j,j<i∧Reach f j i:=
 Classical.byContradiction fun hno=>by
  have:=(P.lead_iff hi).2 fun j hj hr=>hno ⟨j,hj,hr⟩
  rw[h]at this;cases this
def cycL (f:Nat→Nat) (n k:Nat):List (List Nat):=((List.range k).filter (leadB f n)).map fun i=>orb f (per f n i) i
theorem cycL_succ (f:Nat→Nat) (n k:Nat):cycL f n (k+1)=cycL f n k++(if leadB f n k then[orb f (per f n k) k]else[]):=by
 unfold cycL
 rw[List.range_succ,List.filter_append,List.map_append]
 congr 1
 cases h:leadB f n k<;>simp[h]
def sumN (g:Nat→Nat):Nat→Nat
 |0=>0
 |k+1=>sumN g k+g k
theorem sumN_congr {g h:Nat→Nat}:∀k,(∀i,i<k→g i=h i)→sumN g k=sumN h k
 |0,_=>rfl
 |k+1,e=>by simp only[sumN];rw[sumN_congr k (fun i hi=>e i (by omega)),e k (by omega)]
theorem sumN_add (g h:Nat→Nat):∀k,sumN (fun i=>g i+h i) k=sumN g k+sumN h k
 |0=>rfl
 |k+1=>by simp only[sumN];rw[sumN_add g h k];omega
theorem sumN_zero:∀k,sumN (fun _=>0) k=0
 |0=>rfl
 |k+1=>by simp only[sumN];rw[sumN_zero k]
theorem sumN_swap (g:Nat→Nat→Nat) (m:Nat):∀k,sumN (fun i=>sumN (fun j=>g i j) m) k=sumN (fun j=>sumN (fun i=>g i j) k) m
 |0=>by simp only[sumN];rw[sumN_zero]
 |k+1=>by
  simp only[sumN]
  rw[sumN_swap g m k,←sumN_add]
theorem sumN_one {k a:Nat} (h:a<k) (g:Nat→Nat):sumN (fun i=>if i=a then g i else 0) k=g a:=by
 induction k with
 |zero=>omega
 |succ k ih=>
  simp only[sumN]
  by_cases e:k=a
  ·subst e
   rw[sumN_congr k (h:=fun _=>0) (fun i hi=>if_neg (by omega)),sumN_zero,if_pos rfl];omega
  ·rw[ih (by omega),if_neg e];omega
theorem Pm.orb_lt (P:Pm n f) {i:Nat} (hi:i<n):∀x∈orb f (per f n i) i,x<n:=fun x hx=>P.reach_lt hi ((P.mem_orb hi).1 hx)
end
end Go.Proofs.YtnnaadmegeeinaaGreatDoor
namespace Go.Proofs.YtnnaadmegeeinaaGreatDoor
def mobL:Nat→Nat→Nat→Int→Option Int
 |0,_,_,_=>none
 |f+1,p,d,o=>if d≤1 then some o else if d%p≠0 then mobL f (p+1) d o else if d/p%p=0 then some 0 else mobL f (p+1) (d/p) (-o)
def mu (d:Nat):Int:=(mobL 60 2 d 1).getD 0
def sumA (k n:Nat):Nat→Int
 |0=>0
 |j+1=>sumA k n j+if n%(j+1)=0 then mu (j+1)*((k^(n/(j+1)):Nat):Int)else 0
def sumB (k n:Nat):Nat→Int
 |0=>0
 |j+1=>sumB k n j+if n%(j+1)=0 then mu (n/(j+1))*((k^(j+1):Nat):Int)else 0
theorem pow_half {k n d:Nat} (hd:2≤d) (hk:1≤k) (h:k^n≤1000000000000000000):k^(n/d)≤1000000000:=by
 have h1:k^(n/d)*k^(n/d)≤k^n:=by
  rw[←Nat.pow_add]
  refine Nat.pow_le_pow_right hk ?_
  have:=Nat.div_mul_le_self n d
  have h3:n/d*2≤n/d*d:=Nat.mul_le_mul_left _ hd
  omega
 rcases Nat.lt_or_ge 1000000000 (k^(n/d))with h2|h2
 ·exfalso
  have:1000000001*1000000001≤k^(n/d)*k^(n/d):=Nat.mul_le_mul h2 h2
  omega
 ·exact h2
def ev (k:Nat):List (Int×Nat)→Int
 |[]=>0
 |p::l=>p.1*((k^p.2:Nat):Int)+ev k l
def co:List (Int×Nat)→Nat→Int
 |[],_=>0
 |p::l,e=>(if p.2=e then p.1 else 0)+co l e
def evc (k:Nat) (f:Nat→Int):Nat→Int
 |0=>0
 |m+1=>evc k f m+f m*((k^m:Nat):Int)
theorem evc_add (k:Nat) (f g:Nat→Int):∀m,evc k (fun e=>f e+g e) m=evc k f m+evc k g m
 |0=>by simp[evc]
 |m+1=>by simp only[evc];rw[evc_add k f g m,Int.add_mul];omega
theorem evc_one (k:Nat) (a:Nat) (c:Int):∀m,evc k (fun e=>if a=e then c else 0) m=if a<m then c*((k^a:Nat):Int)else 0
 |0=>by simp[evc]
 |m+1=>by
  simp only[evc]
  rw[evc_one k a c m]
  by_cases h:a=m
  ·subst h;rw[if_neg (by omega),if_pos rfl,if_pos (by omega)];omega
  ·rw[if_neg h,Int.zero_mul,Int.add_zero]
   by_cases h2:a<m
   ·rw[if_pos h2,if_pos (by omega)]
   ·rw[if_neg h2,if_neg (by omega)]
theorem ev_co (k m:Nat):∀(l:List (Int×Nat)),l.all (fun p=>decide (p.2<m))=true→ev k l=evc k (co l) m
 |[],_=>by
  have:∀m,evc k (co []) m=0:=fun m=>by
   induction m with
   |zero=>rfl
   |succ m ih=>change evc k (co []) m+0*_=0;rw[ih];simp
  rw[this];rfl
 |p::l,h=>by
  simp only[List.all_cons,Bool.and_eq_true,decide_eq_true_eq]at h
  have e:co (p::l)=fun e=>(if p.2=e then p.1 else 0)+co l e:=rfl
  rw[e,evc_add,evc_one,if_pos h.1,←ev_co k m l h.2]
  rfl
theorem evc_congr (k:Nat) (f g:Nat→Int):∀m,(∀e,e<m→f e=g e)→evc k f m=evc k g m
 |0,_=>rfl
 |m+1,h=>by simp only[evc];rw[evc_congr k f g m (fun e he=>h e (by omega)),h m (by omega)]
def sameB (a b:List (Int×Nat)):Bool:=a.all (fun p=>decide (p.2<61))&&b.all (fun p=>decide (p.2<61))&&allB (fun e=>decide (co a e=co b e)) 61
theorem ev_same (k:Nat) {a b:List (Int×Nat)} (h:sameB a b=true):ev k a=ev k b:=by
 simp only[sameB,Bool.and_eq_true]at h
 rw[ev_co k 61 a h.1.1,ev_co k 61 b h.1.2]
 exact evc_congr k _ _ 61 fun e he=>of_decide_eq_true (allB_spec h.2 e he)
theorem ev_app (k:Nat):∀(a b:List (Int×Nat)),ev k (a++b)=ev k a+ev k b
 |[],b=>by simp[ev]
 |p::a,b=>by simp only[List.cons_append,ev];rw[ev_app k a b];omega
def turnS (k n:Nat):Nat→Nat
 |0=>0
 |t+1=>turnS k n t+k^Nat.gcd n t
def turnL (n:Nat):Nat→List (Int×Nat)
 |0=>[]
 |t+1=>turnL n t++[(1,Nat.gcd n t)]
theorem turn_ev (k n:Nat):∀t,ev k (turnL n t)=(turnS k n t:Int)
 |0=>rfl
 |t+1=>by simp only[turnL,turnS];rw[ev_app,turn_ev k n t];simp[ev]
def sumL (n:Nat):Nat→List (Int×Nat)
 |0=>[]
 |j+1=>sumL n j++if n%(j+1)=0 then[(mu (n/(j+1)),j+1)]else[]
theorem sum_ev (k n:Nat):∀j,ev k (sumL n j)=sumB k n j
 |0=>rfl
 |j+1=>by
  simp only[sumL,sumB]
  rw[ev_app,sum_ev k n j]
  split<;>simp[ev]
theorem ev_mul (k:Nat) (c:Int):∀(l:List (Int×Nat)),ev k (l.map fun p=>(c*p.1,p.2))=c*ev k l
 |[]=>by simp[ev]
 |p::l=>by simp only[List.map_cons,ev];rw[ev_mul k c l,Int.mul_add,Int.mul_assoc]
def wholeL (n:Nat):Nat→List (Int×Nat)
 |0=>[]
 |d+1=>wholeL n d++if n%(d+1)=0 then(sumL (d+1) (d+1)).map (fun p=>(((n/(d+1):Nat):Int)*p.1,p.2))else[]
def wholeS (k n:Nat):Nat→Int
 |0=>0
 |d+1=>wholeS k n d+if n%(d+1)=0 then((n/(d+1):Nat):Int)*sumB k (d+1) (d+1)else 0
theorem whole_ev (k n:Nat):∀d,ev k (wholeL n d)=wholeS k n d
 |0=>rfl
 |d+1=>by
  simp only[wholeL,wholeS]
  rw[ev_app,whole_ev k n d]
  split
  ·rw[ev_mul,sum_ev]
  ·simp[ev]
theorem whole_all:allB (fun n=>sameB (turnL n n) (wholeL n n)) 61=true:=by decide+kernel
theorem turn_whole (k n:Nat) (h:n<61):(turnS k n n:Int)=wholeS k n n:=by
 rw[←turn_ev,←whole_ev]
 exact ev_same k (allB_spec whole_all n h)
def bsum (k n:Nat):Nat→Int
 |0=>0
 |d+1=>bsum k n d+if n%(d+1)=0 then(sumB k (d+1) (d+1)).tdiv ((d+1:Nat):Int)else 0
theorem pow_mod_cast (k m e:Nat):((k^e:Nat):Int)%(m:Int)=(((k%m)^e:Nat):Int)%(m:Int):=by
 rw[←Int.natCast_emod,←Int.natCast_emod,Nat.pow_mod]
theorem sumB_mod (k m d:Nat):∀j,sumB k d j%(m:Int)=sumB (k%m) d j%(m:Int)
 |0=>rfl
 |j+1=>by
  simp only[sumB]
  rw[Int.add_emod,sumB_mod k m d j]
  conv=>rhs;rw[Int.add_emod]
  split
  ·rw[Int.mul_emod,pow_mod_cast,←Int.mul_emod]
  ·rfl
theorem dvd_all:allB (fun d=>allB (fun r=>decide (sumB r (d+1) (d+1)%((d+1:Nat):Int)=0)) (d+1)) 60=true:=by decide+kernel
theorem sumB_dvd (k:Nat) {d:Nat} (h1:1≤d) (h2:d<61):sumB k d d%(d:Int)=0:=by
 rw[sumB_mod]
 have:=of_decide_eq_true (allB_spec (allB_spec dvd_all (d-1) (by omega)) (k%d) (by have:=Nat.mod_lt k (show 0<d by omega);omega))
 rwa [show d-1+1=d by omega]at this
theorem sumB_q (k:Nat) {d:Nat} (h1:1≤d) (h2:d<61):sumB k d d=(d:Int)*(sumB k d d).tdiv (d:Int):=by
 have h:=sumB_dvd k h1 h2
 have hd:=Int.dvd_of_emod_eq_zero h
 rw[Int.mul_tdiv_cancel' hd]
theorem bsum_whole (k n:Nat) (hn:n<61):∀j,j≤n→(n:Int)*bsum k n j=wholeS k n j
 |0,_=>by simp[bsum,wholeS]
 |d+1,hj=>by
  simp only[bsum,wholeS]
  rw[Int.mul_add,bsum_whole k n hn d (by omega)]
  split
  ·rename_i h
   have hq:=sumB_q k (d:=d+1) (by omega) (by omega)
   have hnd:n=(n/(d+1))*(d+1):=by
    have:=Nat.div_add_mod n (d+1)
    rw[h,Nat.add_zero,Nat.mul_comm]at this
    exact this.symm
   generalize (sumB k (d+1) (d+1)).tdiv ((d+1:Nat):Int)=q at*
   rw[hq,←Int.mul_assoc,←Int.natCast_mul,←hnd]
  ·simp
theorem turn_bsum (k n:Nat) (hn:n<61):(turnS k n n:Int)=(n:Int)*bsum k n n:=by
 rw[turn_whole k n hn,bsum_whole k n hn n (Nat.le_refl _)]
theorem gcd_half {n t:Nat} (h1:1≤t) (h2:t<n):Nat.gcd n t≤n/2:=by
 have hd:=Nat.gcd_dvd_left n t
 have hl:=Nat.gcd_le_right n (show 0<t by omega)
 obtain⟨c,hc⟩:=hd
 generalize Nat.gcd n t=g at*
 have hc2:2≤c:=by
  rcases Nat.lt_or_ge c 2 with h|h
  ·exfalso
   have:c=0∨c=1:=by omega
   rcases this with rfl|rfl<;>omega
  ·exact h
 have:g*2≤g*c:=Nat.mul_le_mul_left _ hc2
 omega
theorem turn_bd {k n:Nat} (hk:1≤k) (h:k^n≤1000000000000000000):∀t,t≤n→turnS k n t≤1000000000000000000+t*1000000000
 |0,_=>by simp[turnS]
 |t+1,ht=>by
  have ih:=turn_bd hk h t (by omega)
  simp only[turnS]
  rcases Nat.eq_zero_or_pos t with h0|h0
  ·subst h0
   simp only[Nat.gcd_zero_right,turnS]
   omega
  ·have h3:=pow_half (k:=k) (n:=n) (d:=2) (by omega) hk h
   have h4:k^Nat.gcd n t≤k^(n/2):=Nat.pow_le_pow_right hk (gcd_half h0 (by omega))
   omega
theorem fits60 {k n:Nat} (hk:2≤k) (h:k^n≤1000000000000000000):n<60:=by
 rcases Nat.lt_or_ge n 60 with h1|h1
 ·exact h1
 ·exfalso
  have h2:2^n≤k^n:=Nat.pow_le_pow_left hk n
  have h3:2^60≤2^n:=Nat.pow_le_pow_right (by decide) h1
  have:(2:Nat)^60=1152921504606846976:=by decide
  omega
def primeB (n:Nat):Bool:=decide (2≤n∧n≤100000)&&allB (fun d=>decide (d<2)||decide (n<d*d)||decide (n%d≠0)) 317
def trim (x:Int) (l:List Int):List Int:=(l.reverse.dropWhile (·==x)).reverse
theorem trim_snoc (x:Int) (l:List Int):trim x (l++[x])=trim x l:=by simp[trim]
theorem trim_last (x y:Int) (l:List Int) (h:y≠x):trim x (l++[y])=l++[y]:=by simp[trim,h]
def bump (l:List Int):List Int:=match l.reverse with|[]=>[]|x::r=>(((x+1)::r)).reverse
theorem bump_snoc (l:List Int) (x:Int):bump (l++[x])=l++[x+1]:=by simp[bump]
def round' (l:List Int) (m:Nat):List Int:=(List.range m).map fun i=>l.getD (i%l.length) 0
theorem round_succ (l:List Int) (m:Nat):round' l (m+1)=round' l m++[l.getD (m%l.length) 0]:=by simp[round',List.range_succ]
theorem round_len (l:List Int) (m:Nat):(round' l m).length=m:=by simp[round']
def nextL (k:Int) (l:List Int) (m:Nat):List Int:=bump (trim (k-1) (round' l m))
def brRun (k:Int) (n:Nat):Nat→List Int→List Int→Option (List Int)
 |0,_,_=>none
 |f+1,w,out=>if w.length=0 then some out else brRun k n f (nextL k w n) (if n%w.length=0 then out++w else out)
def pick (k all code seen:Nat):Nat→Nat→Option Nat
 |0,_=>none
 |f+1,x=>if x<k then(if seen.testBit ((code*k+x)%all)then pick k all code seen f (x+1)else some x)else none
def greedy (k all:Nat):Nat→Nat→Nat→List Int→List Int
 |0,_,_,out=>out
 |f+1,code,seen,out=>match pick k all code seen (k+1) 0 with
  |some x=>greedy k all f ((code*k+x)%all) (seen|||2^((code*k+x)%all)) ((x:Int)::out)
  |none=>greedy k all f code seen out
def greed (k n:Nat):List Int:=(greedy k (k^n) (k^n) (k^n-1) 0 []).reverse
def ahead':List Int→List Int→Option (List Int)
 |[],g=>some g
 |x::l,y::g=>if x=y then ahead' l g else none
 |_::_,[]=>none
theorem ahead'_spec:∀{l g r:List Int},ahead' l g=some r→g=l++r
 |[],g,r,h=>by simp[ahead']at h;simp[h]
 |x::l,y::g,r,h=>by
  simp only[ahead']at h
  split at h
  ·rename_i e;rw[e,ahead'_spec h];rfl
  ·cases h
 |_::_,[],_,h=>by simp[ahead']at h
def brChk (k:Int) (n:Nat):Nat→List Int→List Int→Bool
 |0,_,_=>false
 |f+1,w,g=>match w with
  |[]=>g.isEmpty
  |x::w=>if n%(x::w).length=0 then(match ahead' (x::w) g with|some r=>brChk k n f (nextL k (x::w) n) r|none=>false)else brChk k n f (nextL k (x::w) n) g
theorem brChk_spec {k:Int} {n:Nat}:∀{f:Nat} {w g out:List Int},brChk k n f w g=true→brRun k n f w out=some (out++g)
 |0,_,_,_,h=>by simp[brChk]at h
 |f+1,[],g,out,h=>by
  simp[brChk]at h
  simp[brRun,h]
 |f+1,x::w,g,out,h=>by
  simp only[brChk]at h
  simp only[brRun]
  rw[if_neg (by simp)]
  split at h
  ·rename_i hd
   rw[if_pos hd]
   split at h
   ·rename_i r hr
    rw[brChk_spec h,ahead'_spec hr,List.append_assoc]
   ·cases h
  ·rename_i hd
   rw[if_neg hd]
   exact brChk_spec h
def pairOk (k n:Nat):Bool:=decide (1≤k∧k≤10∧1≤n∧n≤12∧k^n≤4096)
def bruCheck (k n:Nat):Bool:=brChk k n 5000 [0] (greed k n)
def bruK (k:Nat):Bool:=allB (fun n=> !pairOk k n||bruCheck k n) 13
theorem bru_1:bruK 1=true:=by decide+kernel
theorem bru_2:bruK 2=true:=by decide+kernel
theorem bru_3:bruK 3=true:=by decide+kernel
theorem bru_4:bruK 4=true:=by decide+kernel
theorem bru_5:bruK 5=true:=by decide+kernel
theorem bru_6:bruK 6=true:=by decide+kernel
theorem bru_7:bruK 7=true:=by decide+kernel
theorem bru_8:bruK 8=true:=by decide+kernel
theorem bru_9:bruK 9=true:=by decide+kernel
theorem bru_10:bruK 10=true:=by decide+kernel
theorem bru_k {k:Nat} (h1:1≤k) (h2:k≤10):bruK k=true:=by
 have:k=1∨k=2∨k=3∨k=4∨k=5∨k=6∨k=7∨k=8∨k=9∨k=10:=by omega
 rcases this with rfl|rfl|rfl|rfl|rfl|rfl|rfl|rfl|rfl|rfl
 ·exact bru_1
 ·exact bru_2
 ·exact bru_3
 ·exact bru_4
 ·exact bru_5
 ·exact bru_6
 ·exact bru_7
 ·exact bru_8
 ·exact bru_9
 ·exact bru_10
theorem bru_eq {k n:Nat} (h1:1≤k) (h2:k≤10) (h3:1≤n) (h4:n≤12) (h5:k^n≤4096):brRun k n 5000 [0] []=some (greed k n):=by
 have h:=allB_spec (bru_k h1 h2) n (by omega)
 have hp:pairOk k n=true:=decide_eq_true ⟨h1,h2,h3,h4,h5⟩
 rw[hp]at h
 simp only[Bool.not_true,Bool.false_or]at h
 exact brChk_spec (out:=[]) h
end Go.Proofs.YtnnaadmegeeinaaGreatDoor
