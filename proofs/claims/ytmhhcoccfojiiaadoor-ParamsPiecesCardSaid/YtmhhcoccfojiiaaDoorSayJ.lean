/- A value that is quoted is read as it was; so is one that stands in pieces: of what is parsed, and the law's own answer. -/
import Derived.Test.YtmhhcoccfojiiaaDoorSayH
namespace Go.Proofs.YtmhhcoccfojiiaaDoor
open Go.Ev Go

theorem skipF_stop {c : UInt8} {r : Bs} (h1 : blankB c = false) (h2 : c ≠ 40) : skipF (c :: r) = c :: r := by
  rw [skipF_cons, h1, if_neg h2]; rfl
theorem skipF_blank {c : UInt8} {r : Bs} (h1 : blankB c = true) : skipF (c :: r) = skipF r := by
  rw [skipF_cons, h1]; rfl
theorem byteF_hit {c : UInt8} {s r : Bs} (h : skipF s = c :: r) : byteF c s = some (skipF r) := by
  unfold byteF; rw [h]; simp
theorem tokF_app : ∀ {t : Bs} {c : UInt8} {r : Bs}, (∀ x ∈ t, tokB x = true) → tokB c = false → tokF (t ++ c :: r) = (t, c :: r)
  | t, c, r, h, hc => by
    unfold tokF
    rw [List.takeWhile_append_of_pos h, List.dropWhile_append_of_pos h, List.takeWhile_cons_of_neg (by simp [hc]), List.dropWhile_cons_of_neg (by simp [hc])]
    simp
theorem quoF_quoted : ∀ (a r : Bs), quoF (a.flatMap escF ++ 34 :: r) = some (a, r)
  | [], r => by simp [quoF_cons]
  | c :: a, r => by
    have ih := quoF_quoted a r
    rw [List.flatMap_cons, List.append_assoc]
    by_cases h : c = 34 ∨ c = 92
    · have : escF c = [92, c] := by unfold escF; rw [if_pos h]
      rw [this]
      show quoF (92 :: c :: (a.flatMap escF ++ 34 :: r)) = _
      rw [quoF_cons, if_neg (by decide), if_pos rfl]
      dsimp only
      rw [ih]; rfl
    · have : escF c = [c] := by unfold escF; rw [if_neg h]
      rw [this]
      show quoF (c :: (a.flatMap escF ++ 34 :: r)) = _
      rw [quoF_cons, if_neg (fun e => h (.inl e)), if_neg (fun e => h (.inr e)), ih]; rfl
theorem quotedF_app (a r : Bs) : quotedF a ++ r = 34 :: (a.flatMap escF ++ 34 :: r) := by simp [quotedF]
theorem valF_quoted (a r : Bs) : valF (34 :: (a.flatMap escF ++ 34 :: r)) = some (a, r) := by
  have h : (34 :: (a.flatMap escF ++ 34 :: r) : Bs).head? = some 34 := rfl
  unfold valF
  rw [if_pos h]
  exact quoF_quoted a r
theorem pairsF_step {s s1 s2 s3 name a r : Bs} (h1 : byteF 59 s = some s1) (h2 : tokF s1 = (name, s2)) (hn : name ≠ []) (h3 : byteF 61 s2 = some s3) (h4 : valF s3 = some (a, r)) : pairsF s = (name.map low8, a) :: pairsF r := by
  rw [pairsF_eq, h1]
  dsimp only
  rw [h2]
  dsimp only
  rw [if_neg hn, h3]
  dsimp only
  rw [h4]
theorem pairsF_nil : pairsF [] = [] := by
  have hb : byteF 59 [] = none := by simp [byteF, skipF_nil]
  rw [pairsF_eq, hb]

def nOne : Bs := [111, 110, 101]
def nTwo : Bs := [116, 119, 111]
def nTwo0 : Bs := [116, 119, 111, 42, 48]
def nTwo1 : Bs := [116, 119, 111, 42, 49]
/-- The text that the law builds. -/
def quoText (a b : Bs) : Bs := (((([120, 47, 121, 59, 111, 110, 101, 61] ++ quotedF a) ++ [32, 59, 32, 116, 119, 111, 42, 48, 61]) ++ quotedF a) ++ [59, 116, 119, 111, 42, 49, 32, 61, 32]) ++ quotedF b

theorem pairs_three (a b : Bs) : pairsF (59 :: (nOne ++ 61 :: (quotedF a ++ (32 :: 59 :: 32 :: (nTwo0 ++ 61 :: (quotedF a ++ (59 :: (nTwo1 ++ 32 :: 61 :: 32 :: (quotedF b ++ []))))))))) = [(nOne, a), (nTwo0, a), (nTwo1, b)] := by
  have e1 : nOne.map low8 = nOne := by decide +kernel
  have e2 : nTwo0.map low8 = nTwo0 := by decide +kernel
  have e3 : nTwo1.map low8 = nTwo1 := by decide +kernel
  have t1 : ∀ x ∈ nOne, tokB x = true := by decide +kernel
  have t2 : ∀ x ∈ nTwo0, tokB x = true := by decide +kernel
  have t3 : ∀ x ∈ nTwo1, tokB x = true := by decide +kernel
  have b61 : blankB 61 = false := by decide
  have b59 : blankB 59 = false := by decide
  have b32 : blankB 32 = true := by decide
  have b34 : blankB 34 = false := by decide
  have k61 : tokB 61 = false := by decide +kernel
  have k32 : tokB 32 = false := by decide +kernel
  have bo : ∀ r : Bs, skipF (nOne ++ r) = nOne ++ r := fun r => skipF_stop (by decide) (by decide)
  have bt0 : ∀ r : Bs, skipF (nTwo0 ++ r) = nTwo0 ++ r := fun r => skipF_stop (by decide) (by decide)
  have bt1 : ∀ r : Bs, skipF (nTwo1 ++ r) = nTwo1 ++ r := fun r => skipF_stop (by decide) (by decide)
  have bq : ∀ x r : Bs, skipF (quotedF x ++ r) = quotedF x ++ r := fun x r => by rw [quotedF_app]; exact skipF_stop b34 (by decide)
  have vq : ∀ x r : Bs, valF (quotedF x ++ r) = some (x, r) := fun x r => by rw [quotedF_app]; exact valF_quoted x r
  rw [pairsF_step (byteF_hit (skipF_stop b59 (by decide))) (by rw [bo]; exact tokF_app t1 k61) (by decide) (byteF_hit (skipF_stop b61 (by decide))) (by rw [bq]; exact vq a _)]
  rw [pairsF_step (byteF_hit (by rw [skipF_blank b32]; exact skipF_stop b59 (by decide))) (by rw [skipF_blank b32, bt0]; exact tokF_app t2 k61) (by decide) (byteF_hit (skipF_stop b61 (by decide))) (by rw [bq]; exact vq a _)]
  rw [pairsF_step (name := nTwo1) (s2 := 32 :: 61 :: 32 :: (quotedF b ++ [])) (a := b) (r := []) (byteF_hit (skipF_stop b59 (by decide))) (by rw [bt1]; exact tokF_app t3 k32) (by decide) (byteF_hit (by rw [skipF_blank b32]; exact skipF_stop b61 (by decide))) (by rw [skipF_blank b32, bq]; exact vq b _)]
  rw [pairsF_nil, e1, e2, e3]

theorem told_one (a b : Bs) : toldF [(nOne, a), (nTwo0, a), (nTwo1, b)] nOne = some a := by
  simp [toldF, findF]
theorem told_two (a b : Bs) : toldF [(nOne, a), (nTwo0, a), (nTwo1, b)] nTwo = some (a ++ b) := by
  have d0 : digF 0 = [48] := by decide +kernel
  have d1 : digF 1 = [49] := by decide +kernel
  have d2 : digF 2 = [50] := by decide +kernel
  have f0 : findF [(nOne, a), (nTwo0, a), (nTwo1, b)] nTwo = none := by simp [findF, nOne, nTwo, nTwo0, nTwo1]
  have f1 : findF [(nOne, a), (nTwo0, a), (nTwo1, b)] (nTwo ++ [42]) = none := by simp [findF, nOne, nTwo, nTwo0, nTwo1]
  have j0 : joinS [(nOne, a), (nTwo0, a), (nTwo1, b)] nTwo 0 = some a := by
    have : findF [(nOne, a), (nTwo0, a), (nTwo1, b)] ((nTwo ++ [42]) ++ digF 0) = some a := by rw [d0]; simp [findF, nOne, nTwo, nTwo0]
    unfold joinS; rw [this]
  have j1 : joinS [(nOne, a), (nTwo0, a), (nTwo1, b)] nTwo 1 = some b := by
    have : findF [(nOne, a), (nTwo0, a), (nTwo1, b)] ((nTwo ++ [42]) ++ digF 1) = some b := by rw [d1]; simp [findF, nOne, nTwo, nTwo0, nTwo1]
    unfold joinS; rw [this]
  have j2 : joinS [(nOne, a), (nTwo0, a), (nTwo1, b)] nTwo 2 = none := by
    have g1 : findF [(nOne, a), (nTwo0, a), (nTwo1, b)] ((nTwo ++ [42]) ++ digF 2) = none := by rw [d2]; simp [findF, nOne, nTwo, nTwo0, nTwo1]
    have g2 : findF [(nOne, a), (nTwo0, a), (nTwo1, b)] (((nTwo ++ [42]) ++ digF 2) ++ [42]) = none := by rw [d2]; simp [findF, nOne, nTwo, nTwo0, nTwo1]
    unfold joinS; rw [g1]; dsimp only; rw [g2]
  unfold toldF
  rw [f0]; dsimp only; rw [f1]; dsimp only
  unfold joinF
  rw [j0]
  simp [joinL, j0, j1, j2]

theorem parse_quo (a b : Bs) : parseF (quoText a b) true = some ([120], [121], [(nOne, a), (nTwo, a ++ b)]) := by
  have e : quoText a b = [120] ++ 47 :: ([121] ++ 59 :: (nOne ++ 61 :: (quotedF a ++ (32 :: 59 :: 32 :: (nTwo0 ++ 61 :: (quotedF a ++ (59 :: (nTwo1 ++ 32 :: 61 :: 32 :: (quotedF b ++ []))))))))) := by
    simp [quoText, nOne, nTwo0, nTwo1]
  have hs : skipF (quoText a b) = quoText a b := by rw [e]; exact skipF_stop (by decide) (by decide)
  have t1 : tokF (quoText a b) = ([120], 47 :: ([121] ++ 59 :: (nOne ++ 61 :: (quotedF a ++ (32 :: 59 :: 32 :: (nTwo0 ++ 61 :: (quotedF a ++ (59 :: (nTwo1 ++ 32 :: 61 :: 32 :: (quotedF b ++ [])))))))))) := by
    rw [e]; exact tokF_app (by decide +kernel) (by decide +kernel)
  unfold parseF
  rw [hs, t1]
  dsimp only
  rw [if_neg (by decide), if_pos rfl]
  rw [byteF_hit (c := 47) (skipF_stop (by decide) (by decide))]
  dsimp only
  have t2 : ∀ r : Bs, tokF (skipF ([121] ++ 59 :: r)) = ([121], 59 :: r) := fun r => by
    rw [show skipF ([121] ++ 59 :: r) = [121] ++ 59 :: r from skipF_stop (by decide) (by decide)]
    exact tokF_app (by decide +kernel) (by decide +kernel)
  rw [t2]
  dsimp only
  rw [if_neg (by decide), pairs_three]
  have b1 : baseF nOne = nOne := by decide +kernel
  have b2 : baseF nTwo0 = nTwo := by decide +kernel
  have b3 : baseF nTwo1 = nTwo := by decide +kernel
  have h1 : ([120] : Bs).map low8 = [120] := by decide +kernel
  have h2 : ([121] : Bs).map low8 = [121] := by decide +kernel
  have hne1 : ¬ (nOne = [] ∨ nOne ∈ ([] : List Bs)) := by decide
  have hne2 : ¬ (nTwo = [] ∨ nTwo ∈ ([nOne] : List Bs)) := by decide
  have hne3 : (nTwo = [] ∨ nTwo ∈ ([nTwo, nOne] : List Bs)) := by decide
  rw [h1, h2, parP, b1, if_neg hne1, told_one]
  dsimp only
  rw [parP, b2, if_neg hne2, told_two]
  dsimp only
  rw [parP, b3, if_pos hne3, parP]

theorem esc_length (a : Bs) : (a.flatMap escF).length ≤ 2 * a.length := by
  induction a with
  | nil => simp
  | cons c a ih =>
    rw [List.flatMap_cons, List.length_append, List.length_cons]
    have : (escF c).length ≤ 2 := by unfold escF; split <;> simp
    omega
theorem quotedF_length (a : Bs) : (quotedF a).length ≤ 2 * a.length + 2 := by
  have := esc_length a
  unfold quotedF
  rw [List.length_append, List.length_append, List.length_singleton]; omega

theorem ret4 (a b : Bs) : Ret 4 [.str a, .str b] [] (.bool true, []) := by
  refine M4 a b ?_
  simp only [T4]
  refine evt_bind ret7 ?_
  simp only [V.getB, Bool.not_true, Bool.false_eq_true, if_false]
  have hor : (if decide (((a.length : Nat) : Int) > 100) = false then some (decide (((b.length : Nat) : Int) > 100)) else some true) = some (decide (a.length > 100 ∨ b.length > 100)) := by
    have d1 : decide (((a.length : Nat) : Int) > 100) = decide (a.length > 100) := decide_eq_decide.2 (by omega)
    have d2 : decide (((b.length : Nat) : Int) > 100) = decide (b.length > 100) := decide_eq_decide.2 (by omega)
    rw [d1, d2]
    by_cases h1 : a.length > 100
    · simp only [h1, decide_true, Bool.true_eq_false, if_false, true_or]
    · simp only [h1, decide_false, if_true, false_or]
  rw [hor]
  simp only [bind_s]
  by_cases h : a.length > 100 ∨ b.length > 100
  · simp only [h, decide_true, if_true]
    exact evt_some _
  · simp only [h, decide_false, Bool.false_eq_true, if_false]
    have ha : a.length ≤ 100 := by omega
    have hb : b.length ≤ 100 := by omega
    have la := quotedF_length a
    have lb := quotedF_length b
    have c1 : ∀ x y : Bs, x.length ≤ 2000 → y.length ≤ 2000 → catOk x y = true := fun x y hx hy => cat_ok (by omega)
    have c0 : catOk a b = true := c1 _ _ (by omega) (by omega)
    refine evt_bind (ret14 a (by omega)) ?_
    simp only [V.getS, chk_b (c1 [120, 47, 121, 59, 111, 110, 101, 61] (quotedF a) (by simp) (by omega)), chk_b (c1 ([120, 47, 121, 59, 111, 110, 101, 61] ++ quotedF a) [32, 59, 32, 116, 119, 111, 42, 48, 61] (by simp; omega) (by simp))]
    refine evt_bind (ret14 a (by omega)) ?_
    simp only [V.getS, chk_b (c1 (([120, 47, 121, 59, 111, 110, 101, 61] ++ quotedF a) ++ [32, 59, 32, 116, 119, 111, 42, 48, 61]) (quotedF a) (by simp; omega) (by omega)),
      chk_b (c1 ((([120, 47, 121, 59, 111, 110, 101, 61] ++ quotedF a) ++ [32, 59, 32, 116, 119, 111, 42, 48, 61]) ++ quotedF a) [59, 116, 119, 111, 42, 49, 32, 61, 32] (by simp; omega) (by simp))]
    refine evt_bind (ret14 b (by omega)) ?_
    simp only [V.getS, chk_b (c1 (((([120, 47, 121, 59, 111, 110, 101, 61] ++ quotedF a) ++ [32, 59, 32, 116, 119, 111, 42, 48, 61]) ++ quotedF a) ++ [59, 116, 119, 111, 42, 49, 32, 61, 32]) (quotedF b) (by simp; omega) (by omega))]
    have h8 := ret8 (quoText a b) (by simp [quoText]; omega) true
    rw [parse_quo] at h8
    refine evt_bind h8 ?_
    have g1 := ret10 [120] [121] [(nOne, a), (nTwo, a ++ b)] (by simp) (by simp [nOne, nTwo]) [111, 110, 101] (by simp)
    have e1 : getF [(nOne, a), (nTwo, a ++ b)] [111, 110, 101] = some a := by
      have : nOne.map low8 = ([111, 110, 101] : Bs).map low8 := by decide +kernel
      simp [getF, this]
    rw [e1] at g1
    refine evt_bind g1 ?_
    have g2 := ret10 [120] [121] [(nOne, a), (nTwo, a ++ b)] (by simp) (by simp [nOne, nTwo]) [84, 87, 79] (by simp)
    have e2 : getF [(nOne, a), (nTwo, a ++ b)] [84, 87, 79] = some (a ++ b) := by
      have h1 : ¬ nOne.map low8 = ([84, 87, 79] : Bs).map low8 := by decide +kernel
      have h2 : nTwo.map low8 = ([84, 87, 79] : Bs).map low8 := by decide +kernel
      rw [getF, if_neg h1, getF, if_pos h2]
    rw [e2] at g2
    refine evt_bind g2 ?_
    have s1 : sEq a a = true := by simp [sEq]
    have s2 : sEq (a ++ b) (a ++ b) = true := by simp [sEq]
    simp only [parseV, V.getT, V.cells, List.headD_cons, List.tail_cons, V.getB, V.getS, V.getL, if_true, Option.getD_some, Option.isSome_some, s1, s2, chk_b c0, bind_s, List.length_map, List.length_cons, List.length_nil]
    exact evt_some _
end Go.Proofs.YtmhhcoccfojiiaaDoor
