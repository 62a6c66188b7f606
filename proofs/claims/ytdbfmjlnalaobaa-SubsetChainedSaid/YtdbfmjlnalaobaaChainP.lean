/-
  The chains of up to 10 things, looked at one by one. No program in sight.
-/
import Derived.Test.YtdbfmjlnalaobaaChains
import Derived.Test.YtdbfmjlnalaobaaBin
import Derived.Test.YtdbfmjlnalaobaaShadP
namespace Go.Proofs.Ytdbfmjlnalaobaa
set_option linter.unusedVariables false

def okCh (prev : Nat) : List Nat → Bool
  | [] => true
  | x :: l => (x &&& prev == prev) && (pop x == pop prev + 1) && okCh x l
def okOne (n : Nat) : List Nat → Bool
  | [] => false
  | x :: l => okCh x l && (pop x + pop ((x :: l).getD l.length 0) == n)
def noTwice : List Nat → Nat → Bool
  | [], _ => true
  | x :: l, m => (m / 2 ^ x % 2 == 0) && noTwice l (m ||| 2 ^ x)
def chkLL (n : Nat) (LL : List (List Nat)) : Bool := LL.all (okOne n) && LL.flatten.all (fun x => decide (x < 2 ^ n)) && noTwice LL.flatten 0 && (LL.flatten.length == 2 ^ n) && (LL.length == bin n (n / 2))
def litC0 : List (List Nat) := [[0]]
theorem lit_0 : chainsF 0 (2 ^ 0) = litC0 := by decide +kernel
theorem chk_0 : chkLL 0 litC0 = true := by decide +kernel
def litC1 : List (List Nat) := [[0,1]]
theorem lit_1 : chainsF 1 (2 ^ 1) = litC1 := by decide +kernel
theorem chk_1 : chkLL 1 litC1 = true := by decide +kernel
def litC2 : List (List Nat) := [[0,1,3],[2]]
theorem lit_2 : chainsF 2 (2 ^ 2) = litC2 := by decide +kernel
theorem chk_2 : chkLL 2 litC2 = true := by decide +kernel
def litC3 : List (List Nat) := [[0,1,3,7],[2,6],[4,5]]
theorem lit_3 : chainsF 3 (2 ^ 3) = litC3 := by decide +kernel
theorem chk_3 : chkLL 3 litC3 = true := by decide +kernel
def litC4 : List (List Nat) := [[0,1,3,7,15],[2,6,14],[4,5,13],[8,9,11],[10],[12]]
theorem lit_4 : chainsF 4 (2 ^ 4) = litC4 := by decide +kernel
theorem chk_4 : chkLL 4 litC4 = true := by decide +kernel
def litC5 : List (List Nat) := [[0,1,3,7,15,31],[2,6,14,30],[4,5,13,29],[8,9,11,27],[10,26],[12,28],[16,17,19,23],[18,22],[20,21],[24,25]]
theorem lit_5 : chainsF 5 (2 ^ 5) = litC5 := by decide +kernel
theorem chk_5 : chkLL 5 litC5 = true := by decide +kernel
def litC6 : List (List Nat) := [[0,1,3,7,15,31,63],[2,6,14,30,62],[4,5,13,29,61],[8,9,11,27,59],[10,26,58],[12,28,60],[16,17,19,23,55],[18,22,54],[20,21,53],[24,25,57],[32,33,35,39,47],[34,38,46],[36,37,45],[40,41,43],[42],[44],[48,49,51],[50],[52],[56]]
theorem lit_6 : chainsF 6 (2 ^ 6) = litC6 := by decide +kernel
theorem chk_6 : chkLL 6 litC6 = true := by decide +kernel
def litC7 : List (List Nat) := [[0,1,3,7,15,31,63,127],[2,6,14,30,62,126],[4,5,13,29,61,125],[8,9,11,27,59,123],[10,26,58,122],[12,28,60,124],[16,17,19,23,55,119],[18,22,54,118],[20,21,53,117],[24,25,57,121],[32,33,35,39,47,111],[34,38,46,110],[36,37,45,109],[40,41,43,107],[42,106],[44,108],[48,49,51,115],[50,114],[52,116],[56,120],[64,65,67,71,79,95],[66,70,78,94],[68,69,77,93],[72,73,75,91],[74,90],[76,92],[80,81,83,87],[82,86],[84,85],[88,89],[96,97,99,103],[98,102],[100,101],[104,105],[112,113]]
theorem lit_7 : chainsF 7 (2 ^ 7) = litC7 := by decide +kernel
theorem chk_7 : chkLL 7 litC7 = true := by decide +kernel
def litC8 : List (List Nat) := [[0,1,3,7,15,31,63,127,255],[2,6,14,30,62,126,254],[4,5,13,29,61,125,253],[8,9,11,27,59,123,251],[10,26,58,122,250],[12,28,60,124,252],[16,17,19,23,55,119,247],[18,22,54,118,246],[20,21,53,117,245],[24,25,57,121,249],[32,33,35,39,47,111,239],[34,38,46,110,238],[36,37,45,109,237],[40,41,43,107,235],[42,106,234],[44,108,236],[48,49,51,115,243],[50,114,242],[52,116,244],[56,120,248],[64,65,67,71,79,95,223],[66,70,78,94,222],[68,69,77,93,221],[72,73,75,91,219],[74,90,218],[76,92,220],[80,81,83,87,215],[82,86,214],[84,85,213],[88,89,217],[96,97,99,103,231],[98,102,230],[100,101,229],[104,105,233],[112,113,241],[128,129,131,135,143,159,191],[130,134,142,158,190],[132,133,141,157,189],[136,137,139,155,187],[138,154,186],[140,156,188],[144,145,147,151,183],[146,150,182],[148,149,181],[152,153,185],[160,161,163,167,175],[162,166,174],[164,165,173],[168,169,171],[170],[172],[176,177,179],[178],[180],[184],[192,193,195,199,207],[194,198,206],[196,197,205],[200,201,203],[202],[204],[208,209,211],[210],[212],[216],[224,225,227],[226],[228],[232],[240]]
theorem lit_8 : chainsF 8 (2 ^ 8) = litC8 := by decide +kernel
theorem chk_8 : chkLL 8 litC8 = true := by decide +kernel
def litC9 : List (List Nat) := [[0,1,3,7,15,31,63,127,255,511],[2,6,14,30,62,126,254,510],[4,5,13,29,61,125,253,509],[8,9,11,27,59,123,251,507],[10,26,58,122,250,506],[12,28,60,124,252,508],[16,17,19,23,55,119,247,503],[18,22,54,118,246,502],[20,21,53,117,245,501],[24,25,57,121,249,505],[32,33,35,39,47,111,239,495],[34,38,46,110,238,494],[36,37,45,109,237,493],[40,41,43,107,235,491],[42,106,234,490],[44,108,236,492],[48,49,51,115,243,499],[50,114,242,498],[52,116,244,500],[56,120,248,504],[64,65,67,71,79,95,223,479],[66,70,78,94,222,478],[68,69,77,93,221,477],[72,73,75,91,219,475],[74,90,218,474],[76,92,220,476],[80,81,83,87,215,471],[82,86,214,470],[84,85,213,469],[88,89,217,473],[96,97,99,103,231,487],[98,102,230,486],[100,101,229,485],[104,105,233,489],[112,113,241,497],[128,129,131,135,143,159,191,447],[130,134,142,158,190,446],[132,133,141,157,189,445],[136,137,139,155,187,443],[138,154,186,442],[140,156,188,444],[144,145,147,151,183,439],[146,150,182,438],[148,149,181,437],[152,153,185,441],[160,161,163,167,175,431],[162,166,174,430],[164,165,173,429],[168,169,171,427],[170,426],[172,428],[176,177,179,435],[178,434],[180,436],[184,440],[192,193,195,199,207,463],[194,198,206,462],[196,197,205,461],[200,201,203,459],[202,458],[204,460],[208,209,211,467],[210,466],[212,468],[216,472],[224,225,227,483],[226,482],[228,484],[232,488],[240,496],[256,257,259,263,271,287,319,383],[258,262,270,286,318,382],[260,261,269,285,317,381],[264,265,267,283,315,379],[266,282,314,378],[268,284,316,380],[272,273,275,279,311,375],[274,278,310,374],[276,277,309,373],[280,281,313,377],[288,289,291,295,303,367],[290,294,302,366],[292,293,301,365],[296,297,299,363],[298,362],[300,364],[304,305,307,371],[306,370],[308,372],[312,376],[320,321,323,327,335,351],[322,326,334,350],[324,325,333,349],[328,329,331,347],[330,346],[332,348],[336,337,339,343],[338,342],[340,341],[344,345],[352,353,355,359],[354,358],[356,357],[360,361],[368,369],[384,385,387,391,399,415],[386,390,398,414],[388,389,397,413],[392,393,395,411],[394,410],[396,412],[400,401,403,407],[402,406],[404,405],[408,409],[416,417,419,423],[418,422],[420,421],[424,425],[432,433],[448,449,451,455],[450,454],[452,453],[456,457],[464,465],[480,481]]
theorem lit_9 : chainsF 9 (2 ^ 9) = litC9 := by decide +kernel
theorem chk_9 : chkLL 9 litC9 = true := by decide +kernel
def litC10 : List (List Nat) := [[0,1,3,7,15,31,63,127,255,511,1023],[2,6,14,30,62,126,254,510,1022],[4,5,13,29,61,125,253,509,1021],[8,9,11,27,59,123,251,507,1019],[10,26,58,122,250,506,1018],[12,28,60,124,252,508,1020],[16,17,19,23,55,119,247,503,1015],[18,22,54,118,246,502,1014],[20,21,53,117,245,501,1013],[24,25,57,121,249,505,1017],[32,33,35,39,47,111,239,495,1007],[34,38,46,110,238,494,1006],[36,37,45,109,237,493,1005],[40,41,43,107,235,491,1003],[42,106,234,490,1002],[44,108,236,492,1004],[48,49,51,115,243,499,1011],[50,114,242,498,1010],[52,116,244,500,1012],[56,120,248,504,1016],[64,65,67,71,79,95,223,479,991],[66,70,78,94,222,478,990],[68,69,77,93,221,477,989],[72,73,75,91,219,475,987],[74,90,218,474,986],[76,92,220,476,988],[80,81,83,87,215,471,983],[82,86,214,470,982],[84,85,213,469,981],[88,89,217,473,985],[96,97,99,103,231,487,999],[98,102,230,486,998],[100,101,229,485,997],[104,105,233,489,1001],[112,113,241,497,1009],[128,129,131,135,143,159,191,447,959],[130,134,142,158,190,446,958],[132,133,141,157,189,445,957],[136,137,139,155,187,443,955],[138,154,186,442,954],[140,156,188,444,956],[144,145,147,151,183,439,951],[146,150,182,438,950],[148,149,181,437,949],[152,153,185,441,953],[160,161,163,167,175,431,943],[162,166,174,430,942],[164,165,173,429,941],[168,169,171,427,939],[170,426,938],[172,428,940],[176,177,179,435,947],[178,434,946],[180,436,948],[184,440,952],[192,193,195,199,207,463,975],[194,198,206,462,974],[196,197,205,461,973],[200,201,203,459,971],[202,458,970],[204,460,972],[208,209,211,467,979],[210,466,978],[212,468,980],[216,472,984],[224,225,227,483,995],[226,482,994],[228,484,996],[232,488,1000],[240,496,1008],[256,257,259,263,271,287,319,383,895],[258,262,270,286,318,382,894],[260,261,269,285,317,381,893],[264,265,267,283,315,379,891],[266,282,314,378,890],[268,284,316,380,892],[272,273,275,279,311,375,887],[274,278,310,374,886],[276,277,309,373,885],[280,281,313,377,889],[288,289,291,295,303,367,879],[290,294,302,366,878],[292,293,301,365,877],[296,297,299,363,875],[298,362,874],[300,364,876],[304,305,307,371,883],[306,370,882],[308,372,884],[312,376,888],[320,321,323,327,335,351,863],[322,326,334,350,862],[324,325,333,349,861],[328,329,331,347,859],[330,346,858],[332,348,860],[336,337,339,343,855],[338,342,854],[340,341,853],[344,345,857],[352,353,355,359,871],[354,358,870],[356,357,869],[360,361,873],[368,369,881],[384,385,387,391,399,415,927],[386,390,398,414,926],[388,389,397,413,925],[392,393,395,411,923],[394,410,922],[396,412,924],[400,401,403,407,919],[402,406,918],[404,405,917],[408,409,921],[416,417,419,423,935],[418,422,934],[420,421,933],[424,425,937],[432,433,945],[448,449,451,455,967],[450,454,966],[452,453,965],[456,457,969],[464,465,977],[480,481,993],[512,513,515,519,527,543,575,639,767],[514,518,526,542,574,638,766],[516,517,525,541,573,637,765],[520,521,523,539,571,635,763],[522,538,570,634,762],[524,540,572,636,764],[528,529,531,535,567,631,759],[530,534,566,630,758],[532,533,565,629,757],[536,537,569,633,761],[544,545,547,551,559,623,751],[546,550,558,622,750],[548,549,557,621,749],[552,553,555,619,747],[554,618,746],[556,620,748],[560,561,563,627,755],[562,626,754],[564,628,756],[568,632,760],[576,577,579,583,591,607,735],[578,582,590,606,734],[580,581,589,605,733],[584,585,587,603,731],[586,602,730],[588,604,732],[592,593,595,599,727],[594,598,726],[596,597,725],[600,601,729],[608,609,611,615,743],[610,614,742],[612,613,741],[616,617,745],[624,625,753],[640,641,643,647,655,671,703],[642,646,654,670,702],[644,645,653,669,701],[648,649,651,667,699],[650,666,698],[652,668,700],[656,657,659,663,695],[658,662,694],[660,661,693],[664,665,697],[672,673,675,679,687],[674,678,686],[676,677,685],[680,681,683],[682],[684],[688,689,691],[690],[692],[696],[704,705,707,711,719],[706,710,718],[708,709,717],[712,713,715],[714],[716],[720,721,723],[722],[724],[728],[736,737,739],[738],[740],[744],[752],[768,769,771,775,783,799,831],[770,774,782,798,830],[772,773,781,797,829],[776,777,779,795,827],[778,794,826],[780,796,828],[784,785,787,791,823],[786,790,822],[788,789,821],[792,793,825],[800,801,803,807,815],[802,806,814],[804,805,813],[808,809,811],[810],[812],[816,817,819],[818],[820],[824],[832,833,835,839,847],[834,838,846],[836,837,845],[840,841,843],[842],[844],[848,849,851],[850],[852],[856],[864,865,867],[866],[868],[872],[880],[896,897,899,903,911],[898,902,910],[900,901,909],[904,905,907],[906],[908],[912,913,915],[914],[916],[920],[928,929,931],[930],[932],[936],[944],[960,961,963],[962],[964],[968],[976],[992]]
theorem lit_10 : chainsF 10 (2 ^ 10) = litC10 := by decide +kernel
theorem chk_10 : chkLL 10 litC10 = true := by decide +kernel
theorem chains_chk {n : Nat} (hn : n ≤ 10) : chkLL n (chainsF n (2 ^ n)) = true := by
  rcases (show n = 0 ∨ n = 1 ∨ n = 2 ∨ n = 3 ∨ n = 4 ∨ n = 5 ∨ n = 6 ∨ n = 7 ∨ n = 8 ∨ n = 9 ∨ n = 10 by omega) with h | h | h | h | h | h | h | h | h | h | h <;> subst h
  · rw [lit_0]; exact chk_0
  · rw [lit_1]; exact chk_1
  · rw [lit_2]; exact chk_2
  · rw [lit_3]; exact chk_3
  · rw [lit_4]; exact chk_4
  · rw [lit_5]; exact chk_5
  · rw [lit_6]; exact chk_6
  · rw [lit_7]; exact chk_7
  · rw [lit_8]; exact chk_8
  · rw [lit_9]; exact chk_9
  · rw [lit_10]; exact chk_10
theorem noTwice_spec : ∀ (l : List Nat) (m : Nat), noTwice l m = true → l.Nodup ∧ ∀ x ∈ l, m.testBit x = false
  | [], m, _ => ⟨List.nodup_nil, fun x h => by cases h⟩
  | x :: l, m, h => by
    simp only [noTwice, Bool.and_eq_true, beq_iff_eq] at h
    obtain ⟨h1, h2⟩ := h
    obtain ⟨h3, h4⟩ := noTwice_spec l _ h2
    have hb : m.testBit x = false := by
      rw [Nat.testBit_eq_decide_div_mod_eq]
      simpa using h1
    refine ⟨List.nodup_cons.2 ⟨fun hx => ?_, h3⟩, fun y hy => ?_⟩
    · have := h4 x hx
      rw [Nat.testBit_or, Nat.testBit_two_pow_self] at this
      simp at this
    · rcases List.mem_cons.1 hy with e | hy
      · rw [e]; exact hb
      · have := h4 y hy
        rw [Nat.testBit_or] at this
        simp only [Bool.or_eq_false_iff] at this
        exact this.1

/-- What stands ahead of place j in chain i. -/
def preC (LL : List (List Nat)) (i j : Nat) : List Nat := (LL.take i).flatten ++ (LL.getD i []).take j
theorem pre_zero (LL : List (List Nat)) : preC LL 0 0 = [] := by simp [preC]
theorem pre_snoc {LL : List (List Nat)} {i j : Nat} (hj : j < (LL.getD i []).length) : preC LL i (j + 1) = preC LL i j ++ [(LL.getD i []).getD j 0] := by
  unfold preC
  rw [List.append_assoc]
  congr 1
  rw [List.take_add_one, List.getElem?_eq_getElem hj, List.getD_eq_getElem?_getD (l := LL.getD i []), List.getElem?_eq_getElem hj]
  rfl
theorem pre_row {LL : List (List Nat)} {i : Nat} (hi : i < LL.length) : preC LL i (LL.getD i []).length = preC LL (i + 1) 0 := by
  have h1 : LL.getD i [] = LL[i] := by rw [List.getD_eq_getElem?_getD, List.getElem?_eq_getElem hi]; rfl
  have e : LL.take (i + 1) = LL.take i ++ [LL[i]] := (List.take_append_getElem hi).symm
  unfold preC
  rw [List.take_length, h1, e, List.flatten_append, List.flatten_singleton, List.take_zero, List.append_nil]
theorem pre_all (LL : List (List Nat)) : preC LL LL.length 0 = LL.flatten := by simp [preC]
theorem pre_split {LL : List (List Nat)} {i j : Nat} (hi : i < LL.length) (hj : j < (LL.getD i []).length) : ∃ r, LL.flatten = preC LL i j ++ (LL.getD i []).getD j 0 :: r := by
  have h1 : LL.getD i [] = LL[i] := by rw [List.getD_eq_getElem?_getD, List.getElem?_eq_getElem hi]; rfl
  have h2 : (LL.getD i []).getD j 0 = LL[i][j]'(by rw [h1] at hj; exact hj) := by
    rw [List.getD_eq_getElem?_getD (l := LL.getD i []), List.getElem?_eq_getElem hj]
    simp only [h1, Option.getD_some]
  refine ⟨LL[i].drop (j + 1) ++ (LL.drop (i + 1)).flatten, ?_⟩
  unfold preC
  rw [h2]
  conv => lhs; rw [← List.take_append_drop i LL, List.flatten_append, List.drop_eq_getElem_cons hi, List.flatten_cons]
  rw [List.append_assoc]
  congr 1
  conv => lhs; rw [← List.take_append_drop j LL[i], List.drop_eq_getElem_cons (by rw [h1] at hj; exact hj)]
  have e3 : (LL.getD i []).take j = LL[i].take j := by rw [h1]
  rw [e3, List.append_assoc, List.cons_append]

/-- What the law asks of the chains. -/
structure ChOk (n : Nat) (LL : List (List Nat)) : Prop where
  ne : ∀ i, i < LL.length → 0 < (LL.getD i []).length
  lt : ∀ i j, i < LL.length → j < (LL.getD i []).length → (LL.getD i []).getD j 0 < 2 ^ n
  new : ∀ i j, i < LL.length → j < (LL.getD i []).length → (preC LL i j).contains ((LL.getD i []).getD j 0) = false
  up : ∀ i j, i < LL.length → j + 1 < (LL.getD i []).length → (LL.getD i []).getD (j + 1) 0 &&& (LL.getD i []).getD j 0 = (LL.getD i []).getD j 0 ∧ pop ((LL.getD i []).getD (j + 1) 0) = pop ((LL.getD i []).getD j 0) + 1
  ends : ∀ i, i < LL.length → pop ((LL.getD i []).getD 0 0) + pop ((LL.getD i []).getD ((LL.getD i []).length - 1) 0) = n
  all : LL.flatten.length = 2 ^ n
  many : LL.length = bin n (n / 2)
theorem okCh_at : ∀ (l : List Nat) (p j : Nat), okCh p l = true → j < l.length → l.getD j 0 &&& (p :: l).getD j 0 = (p :: l).getD j 0 ∧ pop (l.getD j 0) = pop ((p :: l).getD j 0) + 1
  | [], p, j, h, hj => by simp at hj
  | x :: l, p, 0, h, _ => by
    simp only [okCh, Bool.and_eq_true, beq_iff_eq] at h
    exact h.1
  | x :: l, p, j + 1, h, hj => by
    simp only [okCh, Bool.and_eq_true, beq_iff_eq] at h
    have := okCh_at l x j h.2 (by simpa using hj)
    simpa using this
theorem ch_ok {n : Nat} {LL : List (List Nat)} (h : chkLL n LL = true) : ChOk n LL := by
  simp only [chkLL, Bool.and_eq_true, beq_iff_eq] at h
  obtain ⟨⟨⟨⟨h1, h2⟩, h3⟩, h4⟩, h5⟩ := h
  obtain ⟨hnd, _⟩ := noTwice_spec _ _ h3
  have one : ∀ i, i < LL.length → okOne n (LL.getD i []) = true := fun i hi => by
    rw [List.getD_eq_getElem?_getD, List.getElem?_eq_getElem hi]
    exact List.all_eq_true.1 h1 _ (List.getElem_mem hi)
  refine ⟨fun i hi => ?_, fun i j hi hj => ?_, fun i j hi hj => ?_, fun i j hi hj => ?_, fun i hi => ?_, h4, h5⟩
  · have := one i hi
    cases hc : LL.getD i [] with
    | nil => rw [hc] at this; simp [okOne] at this
    | cons x l => simp
  · obtain ⟨r, hr⟩ := pre_split hi hj
    have hm : (LL.getD i []).getD j 0 ∈ LL.flatten := by rw [hr]; simp
    exact of_decide_eq_true (List.all_eq_true.1 h2 _ hm)
  · obtain ⟨r, hr⟩ := pre_split hi hj
    rw [hr] at hnd
    rw [Bool.eq_false_iff]
    intro hc
    have := (List.nodup_append.1 hnd).2.2 _ (List.contains_iff_mem.1 hc) _ (List.mem_cons_self ..)
    exact this rfl
  · have := one i hi
    cases hc : LL.getD i [] with
    | nil => rw [hc] at hj; simp at hj
    | cons x l =>
      rw [hc] at this hj
      simp only [okOne, Bool.and_eq_true] at this
      have := okCh_at l x j this.1 (by simpa using hj)
      simpa using this
  · have := one i hi
    cases hc : LL.getD i [] with
    | nil => rw [hc] at this; simp [okOne] at this
    | cons x l =>
      rw [hc] at this
      simp only [okOne, Bool.and_eq_true, beq_iff_eq] at this
      simpa using this.2
theorem chains_ok {n : Nat} (hn : n ≤ 10) : ChOk n (chainsF n (2 ^ n)) := ch_ok (chains_chk hn)
end Go.Proofs.Ytdbfmjlnalaobaa
