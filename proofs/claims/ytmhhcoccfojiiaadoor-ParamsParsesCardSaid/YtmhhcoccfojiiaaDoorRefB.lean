/- What the document's functions give: find, base, opening, digits, a base's value. -/
import Derived.Test.YtmhhcoccfojiiaaDoorRefA
namespace Go.Proofs.YtmhhcoccfojiiaaDoor
open Go.Ev Go

/-- Where the first of a name stands. -/
def posF : Ps → Bs → Option Nat
  | [], _ => none
  | p :: r, name => if p.1 = name then some 0 else (posF r name).map (· + 1)
def posI (o : Option Nat) : Int := match o with | some k => (k : Int) | none => -1
theorem posF_find : ∀ (l : Ps) (name : Bs), match posF l name with
    | some k => ∃ h : k < l.length, findF l name = some l[k].2
    | none => findF l name = none
  | [], name => rfl
  | p :: r, name => by
    have ih := posF_find r name
    unfold posF findF
    by_cases h : p.1 = name
    · simp [h]
    · simp only [h, if_false]
      cases hp : posF r name with
      | none => rw [hp] at ih; simpa using ih
      | some k =>
        rw [hp] at ih
        obtain ⟨hk, e⟩ := ih
        simp only [Option.map_some]
        exact ⟨by simpa using hk, by simpa using e⟩
theorem loop45 (name : Bs) (l : Ps) (hl : l.length ≤ 1000000) : ∀ (n i : Nat), l.length - i ≤ n →
    Evt (fun k m => L45 (callN cfg k) m (l.map pV) name (i : Nat)) (.int .i64 (match posF (l.drop i) name with | some j => ((i + j : Nat) : Int) | none => -1), []) := by
  have fin : ∀ i : Nat, l.length ≤ i → Evt (fun k m => L45 (callN cfg k) m (l.map pV) name (i : Nat)) (.int .i64 (match posF (l.drop i) name with | some j => ((i + j : Nat) : Int) | none => -1), []) := by
    intro i h
    refine N45_0 (l.map pV) name (i : Nat) ?_
    have h1 : ¬ ((i : Int) < (((l.map pV).length : Nat) : Int)) := by simp; omega
    rw [List.drop_eq_nil_of_le h]
    simp only [T45_0, h1, decide_false, Bool.false_eq_true, if_false, posF]
    exact evt_some _
  intro n
  induction n with
  | zero => intro i h; exact fin i (by omega)
  | succ n ih =>
    intro i h
    by_cases hlt : i < l.length
    · refine N45_0 (l.map pV) name (i : Nat) ?_
      have h1 : ((i : Int) < (((l.map pV).length : Nat) : Int)) := by simp; omega
      have h2 : (0 : Int) ≤ (i : Int) := by omega
      have hw : IntKind.wrap .i64 ((i : Int) + 1) = ((i + 1 : Nat) : Int) := by rw [wrap64 (by omega) (by omega)]; omega
      have hd : l.drop i = l[i] :: l.drop (i + 1) := List.drop_eq_getElem_cons hlt
      rw [hd, posF]
      simp only [T45_0, h1, decide_true, if_true, chk_p h2, chk_t, Int.toNat_natCast, getD_pV hlt, pV, V.cells, List.headD_cons, V.getS, sEq, hw]
      by_cases hn : l[i].1 = name
      · simp only [hn, beq_self_eq_true, if_true, Nat.add_zero]
        exact evt_some _
      · have : (l[i].1 == name) = false := by simpa using hn
        simp only [this, Bool.false_eq_true, if_false, hn]
        have g := ih (i + 1) (by omega)
        cases hp : posF (l.drop (i + 1)) name with
        | none => rw [hp] at g; exact g
        | some j =>
          rw [hp] at g
          simp only [Option.map_some]
          have : (i + (j + 1)) = (i + 1 + j) := by omega
          rw [this]; exact g
    · exact fin i (by omega)
theorem ret45 (l : Ps) (hl : l.length ≤ 1000000) (name : Bs) : Ret 45 [.lst 62 false (l.map pV), .str name] [] (.int .i64 (posI (posF l name)), []) := by
  refine M45 (l.map pV) name ?_
  simp only [T45]
  have := loop45 name l hl l.length 0 (by omega)
  unfold posI
  cases hp : posF l name with
  | none => simpa [hp] using this
  | some j => simpa [hp] using this

theorem loop27 (s : Bs) (hs : s.length ≤ 1000000) : ∀ (n i : Nat), s.length - i = n → i ≤ s.length → (∀ j (h : j < s.length), j < i → s[j] ≠ 42) →
    Evt (fun k m => L27 (callN cfg k) m s (i : Nat)) (.str (baseF s), []) := by
  have none_of : (∀ j (h : j < s.length), s[j] ≠ 42) → baseF s = s := by
    intro h
    unfold baseF
    cases ha : aroundF 42 s with
    | none => rfl
    | some p =>
      have e := around_eq ha
      have : (42 : UInt8) ∈ s := by rw [e]; simp
      obtain ⟨j, hj, e⟩ := List.getElem_of_mem this
      exact absurd e (h j hj)
  have some_of : ∀ i (hi : i < s.length), (∀ j (h : j < s.length), j < i → s[j] ≠ 42) → s[i] = 42 → baseF s = s.take i := by
    intro i hi h e
    have key : ∀ (i : Nat) (s : Bs) (hi : i < s.length), (∀ j (h : j < s.length), j < i → s[j] ≠ 42) → s[i] = 42 → aroundF 42 s = some (s.take i, s.drop (i + 1)) := by
      intro i
      induction i with
      | zero =>
        intro s hi _ e
        cases s with
        | nil => simp at hi
        | cons c r => simp at e; unfold aroundF; simp [e]
      | succ i ih =>
        intro s hi h e
        cases s with
        | nil => simp at hi
        | cons c r =>
          have hc : c ≠ 42 := h 0 (by simp) (by omega)
          unfold aroundF
          rw [if_neg hc, ih r (by simpa using hi) (fun j hj hji => h (j + 1) (by simpa using hj) (by omega)) (by simpa using e)]
          rfl
    unfold baseF
    rw [key i s hi h e]
  intro n
  induction n with
  | zero =>
    intro i h hi hb
    refine N27_0 s (i : Nat) ?_
    have h1 : ¬ ((i : Int) < (s.length : Int)) := by omega
    rw [none_of fun j hj => hb j hj (by omega)]
    simp only [T27_0, h1, decide_false, Bool.false_eq_true, if_false]
    exact evt_some _
  | succ n ih =>
    intro i h hi hb
    refine N27_0 s (i : Nat) ?_
    have hlt : i < s.length := by omega
    have h1 : ((i : Int) < (s.length : Int)) := by omega
    have h2 : (0 : Int) ≤ (i : Int) := by omega
    have h3 : ((i : Int) ≤ (s.length : Int)) := by omega
    have hw : IntKind.wrap .i64 ((i : Int) + 1) = ((i + 1 : Nat) : Int) := by rw [wrap64 (by omega) (by omega)]; omega
    have e42 : (((s[i].toNat : Nat) : Int) == (42 : Int)) = (s[i] == 42) := intB_lit s[i] 42 (by omega)
    simp only [T27_0, h1, decide_true, if_true, chk_p h2, chk_p h3, chk_t, chk_p (Int.le_refl 0), Int.toNat_natCast, getD_at hlt, e42, hw]
    by_cases c42 : s[i] = 42
    · rw [some_of i hlt hb c42]
      simp only [c42, beq_self_eq_true, if_true]
      exact evt_some _
    · have b42 : (s[i] == 42) = false := by simpa using c42
      simp only [b42, Bool.false_eq_true, if_false]
      refine ih (i + 1) (by omega) (by omega) fun j hj hji => ?_
      by_cases e : j = i
      · subst e; exact c42
      · exact hb j hj (by omega)
theorem ret27 (s : Bs) (hs : s.length ≤ 1000000) : Ret 27 [.str s] [] (.str (baseF s), []) := by
  refine M27 s ?_
  simp only [T27]
  exact loop27 s hs _ 0 rfl (by omega) (fun j h hj => by omega)

def lowD : Bs := [48, 49, 50, 51, 52, 53, 54, 55, 56, 57, 97, 98, 99, 100, 101, 102]
def upD : Bs := [48, 49, 50, 51, 52, 53, 54, 55, 56, 57, 65, 66, 67, 68, 69, 70]
theorem hex_at : ∀ i : Fin 16, hexN (lowD.getD i.val 0) = some i.val ∧ hexN (upD.getD i.val 0) = some i.val := by decide +kernel
theorem hex_not : ∀ n : Fin 256, (∀ i : Fin 16, lowD.getD i.val 0 ≠ UInt8.ofNat n.val ∧ upD.getD i.val 0 ≠ UInt8.ofNat n.val) → hexN (UInt8.ofNat n.val) = none := by decide +kernel
theorem loop56 (c : UInt8) : ∀ (n i : Nat), 16 - i = n → i ≤ 16 → (∀ j, j < i → lowD.getD j 0 ≠ c ∧ upD.getD j 0 ≠ c) → Evt (fun k m => L56 (callN cfg k) m (c.toNat : Nat) (i : Nat)) (.int .i64 (((hexN c).getD 16 : Nat) : Int), []) := by
  intro n
  induction n with
  | zero =>
    intro i h hi hb
    refine N56_0 (c.toNat : Nat) (i : Nat) ?_
    have h1 : ¬ ((i : Int) < (16 : Int)) := by omega
    have hl := hex_not ⟨c.toNat, c.toNat_lt⟩ (fun j => by rw [u8_of]; exact hb j.val (by omega))
    rw [u8_of] at hl
    simp only [T56_0, h1, decide_false, Bool.false_eq_true, if_false, hl]
    exact evt_some _
  | succ n ih =>
    intro i h hi hb
    refine N56_0 (c.toNat : Nat) (i : Nat) ?_
    have h1 : ((i : Int) < (16 : Int)) := by omega
    have h2 : (0 : Int) ≤ (i : Int) := by omega
    have hw : IntKind.wrap .i64 ((i : Int) + 1) = ((i + 1 : Nat) : Int) := by rw [wrap64 (by omega) (by omega)]; omega
    have ht := hex_at ⟨i, by omega⟩
    simp only at ht
    have hor : (chk (decide ((0 : Int) ≤ (i : Int))) (chk (decide ((i : Int) < ((lowD.length : Nat) : Int))) (if (((c.toNat : Nat) : Int) == (((lowD.getD i 0).toNat : Nat) : Int)) = false then
        chk (decide ((0 : Int) ≤ (i : Int))) (chk (decide ((i : Int) < ((upD.length : Nat) : Int))) (some (((c.toNat : Nat) : Int) == (((upD.getD i 0).toNat : Nat) : Int)))) else some true))) = some (decide (lowD.getD i 0 = c ∨ upD.getD i 0 = c)) := by
      rw [chk_p h2, chk_p (show (i : Int) < ((lowD.length : Nat) : Int) by have : lowD.length = 16 := rfl; omega), chk_p h2, chk_p (show (i : Int) < ((upD.length : Nat) : Int) by have : upD.length = 16 := rfl; omega), intB_inj, intB_inj]
      by_cases a : lowD.getD i 0 = c
      · rw [a]; simp
      · have b : (c == lowD.getD i 0) = false := by simpa using fun e : c = lowD.getD i 0 => a e.symm
        rw [b, if_pos rfl]
        congr 1
        by_cases d : upD.getD i 0 = c
        · rw [d]; simp
        · have b' : (c == upD.getD i 0) = false := by simpa using fun e : c = upD.getD i 0 => d e.symm
          rw [b', decide_eq_false (by rintro (h | h); exact a h; exact d h)]
    have hT : ∀ {r : V × List Ob}, Evt (fun k m => Option.bind (some (decide (lowD.getD i 0 = c ∨ upD.getD i 0 = c))) fun b0 => if b0 = true then some (V.int IntKind.i64 (i : Int), ([] : List Ob)) else L56 (callN cfg k) m ((c.toNat : Nat) : Int) (IntKind.wrap IntKind.i64 ((i : Int) + 1))) r →
        Evt (fun k m => T56_0 (callN cfg k) (L56 (callN cfg k) m) ((c.toNat : Nat) : Int) (i : Int)) r := by
      intro r hr
      rw [← hor] at hr
      simp only [T56_0, h1, decide_true, if_true, Int.toNat_natCast]
      exact hr
    refine hT ?_
    simp only [bind_s, hw]
    by_cases hc : lowD.getD i 0 = c ∨ upD.getD i 0 = c
    · have he : hexN c = some i := by
        rcases hc with e | e
        · rw [← e]; exact ht.1
        · rw [← e]; exact ht.2
      simp only [hc, decide_true, if_true, he]
      exact evt_some _
    · simp only [hc, decide_false, Bool.false_eq_true, if_false]
      refine ih (i + 1) (by omega) (by omega) fun j hj => ?_
      by_cases e : j = i
      · subst e; exact ⟨fun h => hc (.inl h), fun h => hc (.inr h)⟩
      · exact hb j (by omega)
theorem ret56 (c : UInt8) : Ret 56 [.int .u8 (c.toNat : Nat)] [] (.int .i64 (((hexN c).getD 16 : Nat) : Int), []) := by
  refine M56 (c.toNat : Nat) ?_
  simp only [T56]
  exact loop56 c 16 0 rfl (by omega) (fun j hj => by omega)

theorem loop46 (s : Bs) (hs : s.length ≤ 1000000) : ∀ (n i : Nat) (out : Bs), s.length - i ≤ n → out.length ≤ i → i ≤ s.length →
    Evt (fun k m => L46 (callN cfg k) m s (ofBytes out) (i : Nat)) (.str (out ++ openF (s.drop i)), []) := by
  have fin : ∀ (i : Nat) (out : Bs), s.length ≤ i → Evt (fun k m => L46 (callN cfg k) m s (ofBytes out) (i : Nat)) (.str (out ++ openF (s.drop i)), []) := by
    intro i out h
    refine N46_0 s (ofBytes out) (i : Nat) ?_
    have h1 : ¬ ((i : Int) < (s.length : Int)) := by omega
    rw [List.drop_eq_nil_of_le h]
    simp only [T46_0, h1, decide_false, Bool.false_eq_true, if_false, bytesOf_ofBytes, openF, List.append_nil]
    exact evt_some _
  intro n
  induction n with
  | zero => intro i out h _ _; exact fin i out (by omega)
  | succ n ih =>
    intro i out h ho hi
    by_cases hlt : i < s.length
    · refine N46_0 s (ofBytes out) (i : Nat) ?_
      have h1 : ((i : Int) < (s.length : Int)) := by omega
      have h2 : (0 : Int) ≤ (i : Int) := by omega
      have hw : IntKind.wrap .i64 ((i : Int) + 1) = ((i + 1 : Nat) : Int) := by rw [wrap64 (by omega) (by omega)]; omega
      have hw2 : IntKind.wrap .i64 ((i : Int) + 2) = ((i + 2 : Nat) : Int) := by rw [wrap64 (by omega) (by omega)]; omega
      have hw3 : IntKind.wrap .i64 ((i : Int) + 3) = ((i + 3 : Nat) : Int) := by rw [wrap64 (by omega) (by omega)]; omega
      have e37 : (((s[i].toNat : Nat) : Int) == (37 : Int)) = (s[i] == 37) := intB_lit s[i] 37 (by omega)
      have hap : ∀ c : Int, appOk (ofBytes out) [V.int IntKind.u8 c] 2 = true := fun c => app_ok (by simp [ofBytes_length]; omega)
      have plain : openF (s.drop i) = s[i] :: openF (s.drop (i + 1)) → Evt (fun k m => L46 (callN cfg k) m s (ofBytes (out ++ [s[i]])) ((i + 1 : Nat) : Int)) (.str (out ++ openF (s.drop i)), []) := by
        intro e
        have := ih (i + 1) (out ++ [s[i]]) (by omega) (by simp; omega) (by omega)
        rw [e]
        simpa using this
      by_cases c37 : s[i] = 37
      · have b37 : (s[i] == 37) = true := by simpa using c37
        by_cases h3 : i + 2 < s.length
        · have g3 : ((i + 2 : Nat) : Int) < (s.length : Int) := by omega
          have g4 : ((i + 1 : Nat) : Int) < (s.length : Int) := by omega
          have g5 : (0 : Int) ≤ ((i + 1 : Nat) : Int) := by omega
          have g6 : (0 : Int) ≤ ((i + 2 : Nat) : Int) := by omega
          have hlt1 : i + 1 < s.length := by omega
          have hd : s.drop i = s[i] :: s[i+1] :: s[i+2] :: s.drop (i + 3) := by rw [drop_at hlt, drop_at hlt1, drop_at h3]
          simp only [T46_0, h1, decide_true, if_true, chk_p h2, chk_t, Int.toNat_natCast, getD_at hlt, e37, b37, hw2, g3, hw, chk_p g5, chk_p g4, getD_at hlt1]
          refine evt_bind (ret56 s[i+1]) ?_
          cases ha : hexN s[i+1] with
          | none =>
            have hno : ¬ (((Option.none.getD 16 : Nat) : Int) < 16) := by simp
            have e : openF (s.drop i) = s[i] :: openF (s.drop (i + 1)) := by
              rw [hd, openF, if_pos c37, ha, drop_at hlt1, drop_at h3]
            simp only [V.getI, hno, decide_false, Bool.false_eq_true, if_false, chk_b (hap _), ofBytes_snoc]
            exact plain e
          | some x =>
            have hx := hexN_lt ha
            have hyes : (((some x).getD 16 : Nat) : Int) < 16 := by simp; omega
            simp only [V.getI, hyes, decide_true, if_true, chk_p g6, chk_p g3, getD_at h3]
            refine evt_bind (ret56 s[i+2]) ?_
            cases hb : hexN s[i+2] with
            | none =>
              have hno : ¬ (((Option.none.getD 16 : Nat) : Int) < 16) := by simp
              have e : openF (s.drop i) = s[i] :: openF (s.drop (i + 1)) := by
                rw [hd, openF, if_pos c37, ha, hb, drop_at hlt1, drop_at h3]
              simp only [V.getI, hno, decide_false, Bool.false_eq_true, if_false, chk_b (hap _), ofBytes_snoc]
              exact plain e
            | some y =>
              have hy := hexN_lt hb
              have hyes2 : (((some y).getD 16 : Nat) : Int) < 16 := by simp; omega
              have h56a := ret56 s[i+1]
              have h56b := ret56 s[i+2]
              rw [ha] at h56a
              rw [hb] at h56b
              simp only [V.getI, hyes2, decide_true, if_true]
              refine evt_bind h56a ?_
              refine evt_bind h56b ?_
              have hv : IntKind.wrap .u8 (IntKind.wrap .i64 (IntKind.wrap .i64 ((16 : Int) * ((x : Nat) : Int)) + ((y : Nat) : Int))) = (((UInt8.ofNat (16 * x + y)).toNat : Nat) : Int) := by
                rw [wrap64 (n := 16 * ((x : Nat) : Int)) (by omega) (by omega), wrap64 (by omega) (by omega), wrap8 (by omega) (by omega)]
                simp only [UInt8.toNat_ofNat']
                omega
              simp only [V.getI, Option.getD_some, hv, chk_b (hap _), ofBytes_snoc, hw3]
              have := ih (i + 3) (out ++ [UInt8.ofNat (16 * x + y)]) (by omega) (by simp; omega) (by omega)
              rw [hd, openF, if_pos c37, ha, hb]
              simpa using this
        · have g3 : ¬ (((i + 2 : Nat) : Int) < (s.length : Int)) := by omega
          have e : openF (s.drop i) = s[i] :: openF (s.drop (i + 1)) := by
            rw [drop_at hlt]; exact openF_plain _ _ (.inr (by simp; omega))
          simp only [T46_0, h1, decide_true, decide_false, if_true, chk_p h2, chk_t, Int.toNat_natCast, getD_at hlt, e37, b37, hw2, g3, Bool.false_eq_true, if_false, hw, chk_b (hap _), ofBytes_snoc]
          exact plain e
      · have b37 : (s[i] == 37) = false := by simpa using c37
        have e : openF (s.drop i) = s[i] :: openF (s.drop (i + 1)) := by
          rw [drop_at hlt]; exact openF_plain _ _ (.inl c37)
        simp only [T46_0, h1, decide_true, if_true, chk_p h2, chk_t, Int.toNat_natCast, getD_at hlt, e37, b37, Bool.false_eq_true, if_false, hw, chk_b (hap _), ofBytes_snoc]
        exact plain e
    · exact fin i out (by omega)
theorem ret46 (s : Bs) (hs : s.length ≤ 1000000) : Ret 46 [.str s] [] (.str (openF s), []) := by
  refine M46 s ?_
  simp only [T46]
  exact loop46 s hs s.length 0 [] (by omega) (by simp) (by omega)

/-- What stands behind so many quotes more. -/
def behindF (two : Bool) (s : Bs) : Option Bs := if two then (aroundF 39 s).bind fun p => (aroundF 39 p.2).map (·.2) else (aroundF 39 s).map (·.2)
theorem behind_bare (s : Bs) : (behindF true s).getD s = bareF s := by
  unfold behindF bareF
  cases aroundF 39 s with
  | none => rfl
  | some p =>
    simp only [if_true, Option.bind_some]
    cases aroundF 39 p.2 <;> rfl
theorem loop47 (s : Bs) (hs : s.length ≤ 1000000) : ∀ (n i : Nat) (two : Bool), s.length - i ≤ n →
    Evt (fun k m => L47 (callN cfg k) m s (if two then 0 else 1) (i : Nat)) (.str ((behindF two (s.drop i)).getD s), []) := by
  have fin : ∀ (i : Nat) (two : Bool), s.length ≤ i → Evt (fun k m => L47 (callN cfg k) m s (if two then 0 else 1) (i : Nat)) (.str ((behindF two (s.drop i)).getD s), []) := by
    intro i two h
    refine N47_0 s (if two then 0 else 1) (i : Nat) ?_
    have h1 : ¬ ((i : Int) < (s.length : Int)) := by omega
    have hb : (behindF two []).getD s = s := by cases two <;> rfl
    rw [List.drop_eq_nil_of_le h, hb]
    simp only [T47_0, h1, decide_false, Bool.false_eq_true, if_false]
    exact evt_some _
  intro n
  induction n with
  | zero => intro i two h; exact fin i two (by omega)
  | succ n ih =>
    intro i two h
    by_cases hlt : i < s.length
    · refine N47_0 s (if two then 0 else 1) (i : Nat) ?_
      have h1 : ((i : Int) < (s.length : Int)) := by omega
      have h2 : (0 : Int) ≤ (i : Int) := by omega
      have hw : IntKind.wrap .i64 ((i : Int) + 1) = ((i + 1 : Nat) : Int) := by rw [wrap64 (by omega) (by omega)]; omega
      have h3 : (0 : Int) ≤ ((i + 1 : Nat) : Int) := by omega
      have h4 : ((i + 1 : Nat) : Int) ≤ (s.length : Int) := by omega
      have e39 : (((s[i].toNat : Nat) : Int) == (39 : Int)) = (s[i] == 39) := intB_lit s[i] 39 (by omega)
      rw [drop_at hlt]
      simp only [T47_0, h1, decide_true, if_true, chk_p h2, chk_t, Int.toNat_natCast, getD_at hlt, e39, hw, chk_p h3, chk_p h4]
      by_cases c39 : s[i] = 39
      · cases two with
        | true =>
          have hq : (IntKind.wrap .i64 ((0 : Int) + 1) == 2) = false := by decide
          have hq1 : IntKind.wrap .i64 ((0 : Int) + 1) = 1 := by decide
          have hb : behindF true (39 :: s.drop (i + 1)) = behindF false (s.drop (i + 1)) := by simp [behindF, aroundF]
          simp only [c39, beq_self_eq_true, if_true, hq, Bool.false_eq_true, if_false, hb, hq1]
          exact ih (i + 1) false (by omega)
        | false =>
          have hq : (IntKind.wrap .i64 ((1 : Int) + 1) == 2) = true := by decide
          have hb : behindF false (39 :: s.drop (i + 1)) = some (s.drop (i + 1)) := by simp [behindF, aroundF]
          simp only [c39, beq_self_eq_true, if_true, hq, Bool.false_eq_true, if_false, hb, Option.getD_some]
          exact evt_some _
      · have b39 : (s[i] == 39) = false := by simpa using c39
        have hn2 : ((if two = true then (0 : Int) else 1) == 2) = false := by cases two <;> decide
        have hb : behindF two (s[i] :: s.drop (i + 1)) = behindF two (s.drop (i + 1)) := by
          unfold behindF
          rw [aroundF, if_neg c39]
          cases two <;> cases aroundF 39 (s.drop (i + 1)) <;> rfl
        simp only [b39, Bool.false_eq_true, if_false, hn2, hb]
        exact ih (i + 1) two (by omega)
    · exact fin i two (by omega)
theorem ret47 (s : Bs) (hs : s.length ≤ 1000000) : Ret 47 [.str s] [] (.str (bareF s), []) := by
  refine M47 s ?_
  simp only [T47]
  have := loop47 s hs s.length 0 true (by omega)
  rw [List.drop_zero, behind_bare] at this
  exact this

theorem digit_cut : ∀ k : Fin 10, List.drop k.val (List.take (k.val + 1) [48, 49, 50, 51, 52, 53, 54, 55, 56, 57]) = ([UInt8.ofNat (48 + k.val)] : Bs) := by decide +kernel
theorem wrapu {n : Nat} (h : n < 18446744073709551616) : IntKind.wrap .u64 (n : Int) = (n : Int) := by rw [IntKind.wrap_u64]; omega
theorem ret57 : ∀ (n : Nat), n ≤ 2000000 → Ret 57 [.int .u64 (n : Int)] [] (.str (digF n), []) := by
  intro n
  induction n using Nat.strongRecOn with
  | _ n ih =>
    intro hn
    refine M57 (n : Int) ?_
    have h10 : ((([48, 49, 50, 51, 52, 53, 54, 55, 56, 57] : List Nat).length : Nat) : Int) = 10 := rfl
    by_cases h : n < 10
    · have h1 : (n : Int) < 10 := by omega
      have hw : IntKind.wrap .u64 ((n : Int) + 1) = ((n + 1 : Nat) : Int) := by rw [show (n : Int) + 1 = ((n + 1 : Nat) : Int) by omega, wrapu (by omega)]
      have g1 : (0 : Int) ≤ ((n + 1 : Nat) : Int) := by omega
      have g2 : ((n + 1 : Nat) : Int) ≤ ((([48, 49, 50, 51, 52, 53, 54, 55, 56, 57] : List Nat).length : Nat) : Int) := by rw [h10]; omega
      have g3 : (0 : Int) ≤ (n : Int) := by omega
      have g4 : (n : Int) ≤ ((n + 1 : Nat) : Int) := by omega
      have hd := digit_cut ⟨n, h⟩
      simp only at hd
      simp only [T57, h1, decide_true, if_true, hw, chk_p g1, chk_p g2, chk_p g3, chk_p g4, Int.toNat_natCast, hd, digF_small h]
      exact evt_some _
    · have h1 : ¬ (n : Int) < 10 := by omega
      have b10 : ((10 : Int) != 0) = true := by decide
      have hq : IntKind.wrap .u64 (Int.tdiv (n : Int) 10) = ((n / 10 : Nat) : Int) := by
        rw [Int.tdiv_eq_ediv_of_nonneg (by omega), show (n : Int) / 10 = ((n / 10 : Nat) : Int) by omega, wrapu (by omega)]
      have ht : Int.tmod (n : Int) 10 = ((n % 10 : Nat) : Int) := by rw [Int.tmod_eq_emod_of_nonneg (by omega)]; omega
      have hw : IntKind.wrap .u64 (((n % 10 : Nat) : Int) + 1) = ((n % 10 + 1 : Nat) : Int) := by rw [show ((n % 10 : Nat) : Int) + 1 = ((n % 10 + 1 : Nat) : Int) by omega, wrapu (by omega)]
      have g1 : (0 : Int) ≤ ((n % 10 + 1 : Nat) : Int) := by omega
      have g2 : ((n % 10 + 1 : Nat) : Int) ≤ ((([48, 49, 50, 51, 52, 53, 54, 55, 56, 57] : List Nat).length : Nat) : Int) := by rw [h10]; omega
      have g3 : (0 : Int) ≤ ((n % 10 : Nat) : Int) := by omega
      have g4 : ((n % 10 : Nat) : Int) ≤ ((n % 10 + 1 : Nat) : Int) := by omega
      have hd := digit_cut ⟨n % 10, by omega⟩
      simp only at hd
      have hl := digF_length (n / 10)
      have hc : catOk (digF (n / 10)) [UInt8.ofNat (48 + n % 10)] = true := cat_ok (by simp; omega)
      simp only [T57, h1, decide_false, Bool.false_eq_true, if_false, chk_b b10, hq]
      refine evt_bind (ih (n / 10) (by omega) (by omega)) ?_
      simp only [V.getS, ht, hw, chk_p g1, chk_p g2, chk_p g3, chk_p g4, Int.toNat_natCast, hd, chk_b hc, digF_big h]
      exact evt_some _
theorem ret48 (n : Nat) (hn : n ≤ 2000000) : Ret 48 [.int .i64 (n : Int)] [] (.str (digF n), []) := by
  refine M48 (n : Int) ?_
  have h1 : ¬ (n : Int) < 0 := by omega
  simp only [T48, h1, decide_false, Bool.false_eq_true, if_false, wrapu (show n < 18446744073709551616 by omega)]
  refine evt_bind (ret57 n hn) ?_
  exact evt_some _
end Go.Proofs.YtmhhcoccfojiiaaDoor
