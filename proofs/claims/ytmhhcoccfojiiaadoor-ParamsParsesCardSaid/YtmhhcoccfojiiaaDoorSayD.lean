/- What the functions of params give: find, hex, open, cut, bare, digits. -/
import Derived.Test.YtmhhcoccfojiiaaDoorSayC
namespace Go.Proofs.YtmhhcoccfojiiaaDoor
open Go.Ev Go

/-- The value of the first of a name. -/
def findF : Ps → Bs → Option Bs
  | [], _ => none
  | p :: r, name => if p.1 = name then some p.2 else findF r name
theorem getD_pV {l : Ps} {i : Nat} (h : i < l.length) (pv : Bs × Bs → V) : (l.map pv).getD i .bot = pv l[i] := by simp [List.getD, h]
theorem loop37 (name : Bs) (l : Ps) (hl : l.length ≤ 1000000) : ∀ (n i : Nat), l.length - i ≤ n →
    Evt (fun k n => L37 (callN cfg k) n name (l.map pV) (l.length : Nat) (i : Nat)) (.tup [.str ((findF (l.drop i) name).getD []), .bool (findF (l.drop i) name).isSome], []) := by
  have fin : ∀ i : Nat, l.length ≤ i → Evt (fun k n => L37 (callN cfg k) n name (l.map pV) (l.length : Nat) (i : Nat)) (.tup [.str ((findF (l.drop i) name).getD []), .bool (findF (l.drop i) name).isSome], []) := by
    intro i h
    refine N37_0 name (l.map pV) (l.length : Nat) (i : Nat) ?_
    have h1 : ¬ ((i : Int) < (l.length : Int)) := by omega
    rw [List.drop_eq_nil_of_le h]
    simp only [T37_0, h1, decide_false, Bool.false_eq_true, if_false, findF]
    exact evt_some _
  intro n
  induction n with
  | zero => intro i h; exact fin i (by omega)
  | succ n ih =>
    intro i h
    by_cases hlt : i < l.length
    · refine N37_0 name (l.map pV) (l.length : Nat) (i : Nat) ?_
      have h1 : ((i : Int) < (l.length : Int)) := by omega
      have h2 : (0 : Int) ≤ (i : Int) := by omega
      have hw : IntKind.wrap .i64 ((i : Int) + 1) = ((i + 1 : Nat) : Int) := by rw [wrap64 (by omega) (by omega)]; omega
      have hd : l.drop i = l[i] :: l.drop (i + 1) := List.drop_eq_getElem_cons hlt
      rw [hd, findF]
      simp only [T37_0, h1, decide_true, if_true, chk_p h2, List.length_map, chk_t, Int.toNat_natCast, getD_pV hlt, pV, V.cells, List.headD_cons, List.tail_cons, V.getS, sEq, hw]
      by_cases hn : l[i].1 = name
      · simp only [hn, beq_self_eq_true, if_true]
        exact evt_some _
      · have : (l[i].1 == name) = false := by simpa using hn
        simp only [this, Bool.false_eq_true, if_false, hn]
        exact ih (i + 1) (by omega)
    · exact fin i (by omega)
theorem ret37 (l : Ps) (hl : l.length ≤ 1000000) (name : Bs) : Ret 37 [.lst 42 false (l.map pV), .str name] [] (.tup [.str ((findF l name).getD []), .bool (findF l name).isSome], []) := by
  refine M37 (l.map pV) name ?_
  simp only [T37, List.length_map]
  exact loop37 name l hl l.length 0 (by omega)

theorem low8_int (c : UInt8) : (((low8 c).toNat : Nat) : Int) = lowI (c.toNat : Nat) := by
  have h := lowI_range (c := (c.toNat : Nat)) ⟨by omega, by have := c.toNat_lt; omega⟩
  unfold low8
  simp only [UInt8.toNat_ofNat']
  omega
theorem ret33 (c : UInt8) : Ret 33 [.int .u8 (c.toNat : Nat)] [] (.int .u8 ((low8 c).toNat : Nat), []) := by
  refine M33 (c.toNat : Nat) ?_
  rw [low8_int]
  have hc := c.toNat_lt
  unfold lowI
  simp only [T33]
  by_cases h1 : (65 : Int) ≤ (c.toNat : Int)
  · by_cases h2 : (c.toNat : Int) ≤ 90
    · have hw : IntKind.wrap .u8 (IntKind.wrap .u8 ((c.toNat : Int) - 65) + 97) = (c.toNat : Int) + 32 := by
        rw [wrap8 (by omega) (by omega : (c.toNat : Int) - 65 < 256), wrap8 (by omega) (by omega)]; omega
      simp only [ge_iff_le, h1, h2, decide_true, if_true, bind_s, and_self, hw]
      exact evt_some _
    · simp only [ge_iff_le, h1, h2, decide_true, decide_false, if_true, bind_s, and_false, if_false, Bool.false_eq_true]
      exact evt_some _
  · simp only [ge_iff_le, h1, decide_false, bind_s, false_and, if_false, Bool.false_eq_true]
    exact evt_some _

/-- A digit's value. -/
def hexN (c : UInt8) : Option Nat :=
  if 48 ≤ (low8 c).toNat ∧ (low8 c).toNat ≤ 57 then some ((low8 c).toNat - 48) else if 97 ≤ (low8 c).toNat ∧ (low8 c).toNat ≤ 102 then some ((low8 c).toNat - 87) else none
theorem hexN_lt {c : UInt8} {n : Nat} (h : hexN c = some n) : n < 16 := by
  unfold hexN at h
  split at h
  · cases h; omega
  · split at h
    · cases h; omega
    · cases h
theorem ret52 (c : UInt8) : Ret 52 [.int .u8 (c.toNat : Nat)] [] (.tup [.int .u8 (((hexN c).getD 0 : Nat) : Int), .bool (hexN c).isSome], []) := by
  refine M52 (c.toNat : Nat) ?_
  simp only [T52]
  refine evt_bind (ret33 c) ?_
  unfold hexN
  generalize hd : (low8 c).toNat = d
  show Evt (fun _ _ => Option.bind (if decide ((d : Int) ≥ 48) = true then some (decide ((d : Int) ≤ 57)) else some false) fun b1 => if b1 = true then some (V.tup [V.int .u8 (IntKind.wrap .u8 ((d : Int) - 48)), V.bool true], []) else
    Option.bind (if decide ((d : Int) ≥ 97) = true then some (decide ((d : Int) ≤ 102)) else some false) fun b2 => if b2 = true then some (V.tup [V.int .u8 (IntKind.wrap .u8 (IntKind.wrap .u8 ((d : Int) - 97) + 10)), V.bool true], []) else
      some (V.tup [V.int .u8 0, V.bool false], [])) _
  simp only [ge_iff_le]
  by_cases h1 : 48 ≤ d ∧ d ≤ 57
  · have g1 : (48 : Int) ≤ (d : Int) := by omega
    have g2 : (d : Int) ≤ 57 := by omega
    have hw : IntKind.wrap .u8 ((d : Int) - 48) = ((d - 48 : Nat) : Int) := by rw [wrap8 (by omega) (by omega)]; omega
    simp only [g1, g2, decide_true, if_true, bind_s, hw, h1, and_self, Option.getD_some, Option.isSome_some]
    exact evt_some _
  · rw [if_neg h1]
    have hb : (if decide ((48 : Int) ≤ (d : Int)) = true then some (decide ((d : Int) ≤ 57)) else some false) = some false := by
      by_cases a : 48 ≤ d
      · have b : ¬ (d : Int) ≤ 57 := by omega
        simp [b]
      · have b : ¬ (48 : Int) ≤ (d : Int) := by omega
        simp [b]
    simp only [hb, bind_s, Bool.false_eq_true, if_false]
    by_cases h2 : 97 ≤ d ∧ d ≤ 102
    · have g1 : (97 : Int) ≤ (d : Int) := by omega
      have g2 : (d : Int) ≤ 102 := by omega
      have hw : IntKind.wrap .u8 (IntKind.wrap .u8 ((d : Int) - 97) + 10) = ((d - 87 : Nat) : Int) := by rw [wrap8 (by omega) (by omega : (d : Int) - 97 < 256), wrap8 (by omega) (by omega)]; omega
      simp only [g1, g2, decide_true, if_true, bind_s, hw, h2, and_self, Option.getD_some, Option.isSome_some]
      exact evt_some _
    · rw [if_neg h2]
      have hb : (if decide ((97 : Int) ≤ (d : Int)) = true then some (decide ((d : Int) ≤ 102)) else some false) = some false := by
        by_cases a : 97 ≤ d
        · have b : ¬ (d : Int) ≤ 102 := by omega
          simp [b]
        · have b : ¬ (97 : Int) ≤ (d : Int) := by omega
          simp [b]
      simp only [hb, bind_s, Bool.false_eq_true, if_false]
      exact evt_some _

/-- A value that is opened. -/
def openF : Bs → Bs
  | [] => []
  | [c] => [c]
  | [c, a] => [c, a]
  | c :: a :: b :: r => if c = 37 then (match hexN a, hexN b with
      | some x, some y => UInt8.ofNat (16 * x + y) :: openF r
      | _, _ => c :: openF (a :: b :: r)) else c :: openF (a :: b :: r)
theorem openF_plain (c : UInt8) (r : Bs) (h : c ≠ 37 ∨ r.length < 2) : openF (c :: r) = c :: openF r := by
  match r, h with
  | [], _ => rfl
  | [a], _ => rfl
  | a :: b :: r, h =>
    have : c ≠ 37 := by rcases h with h | h; exact h; simp at h; omega
    rw [openF, if_neg this]
theorem openF_length : ∀ (n : Nat) (s : Bs), s.length ≤ n → (openF s).length ≤ s.length
  | _, [], _ => by simp [openF]
  | _, [c], _ => by simp [openF]
  | _, [c, a], _ => by simp [openF]
  | 0, c :: a :: b :: r, h => by simp at h
  | n + 1, c :: a :: b :: r, h => by
    simp at h
    have h1 := openF_length n r (by omega)
    have h2 := openF_length n (a :: b :: r) (by simp; omega)
    simp at h2
    rw [openF]
    split
    · split <;> simp <;> omega
    · simp; omega
theorem openF_le (s : Bs) : (openF s).length ≤ s.length := openF_length _ s (Nat.le_refl _)

theorem or16 : ∀ x y : Fin 16, bits .or .u8 (IntKind.wrap .u8 (((x.val : Nat) : Int) * 2 ^ min (Int.toNat 4) (IntKind.bits .u8))) ((y.val : Nat) : Int) = ((((UInt8.ofNat (16 * x.val + y.val)).toNat : Nat)) : Int) := by decide +kernel

theorem loop38 (s : Bs) (hs : s.length ≤ 1000000) : ∀ (n i : Nat) (out : Bs), s.length - i ≤ n → out.length ≤ i → i ≤ s.length →
    Evt (fun k n => L38 (callN cfg k) n s (ofBytes out) (i : Nat)) (.str (out ++ openF (s.drop i)), []) := by
  have fin : ∀ (i : Nat) (out : Bs), s.length ≤ i → Evt (fun k n => L38 (callN cfg k) n s (ofBytes out) (i : Nat)) (.str (out ++ openF (s.drop i)), []) := by
    intro i out h
    refine N38_0 s (ofBytes out) (i : Nat) ?_
    have h1 : ¬ ((i : Int) < (s.length : Int)) := by omega
    rw [List.drop_eq_nil_of_le h]
    simp only [T38_0, h1, decide_false, Bool.false_eq_true, if_false, bytesOf_ofBytes, openF, List.append_nil]
    exact evt_some _
  intro n
  induction n with
  | zero => intro i out h _ _; exact fin i out (by omega)
  | succ n ih =>
    intro i out h ho hi
    by_cases hlt : i < s.length
    · refine N38_0 s (ofBytes out) (i : Nat) ?_
      have h1 : ((i : Int) < (s.length : Int)) := by omega
      have h2 : (0 : Int) ≤ (i : Int) := by omega
      have hw : IntKind.wrap .i64 ((i : Int) + 1) = ((i + 1 : Nat) : Int) := by rw [wrap64 (by omega) (by omega)]; omega
      have hw2 : IntKind.wrap .i64 ((i : Int) + 2) = ((i + 2 : Nat) : Int) := by rw [wrap64 (by omega) (by omega)]; omega
      have hw3 : IntKind.wrap .i64 (((i + 2 : Nat) : Int) + 1) = ((i + 3 : Nat) : Int) := by rw [wrap64 (by omega) (by omega)]; omega
      have e37 : (((s[i].toNat : Nat) : Int) == (37 : Int)) = (s[i] == 37) := intB_lit s[i] 37 (by omega)
      have hap : ∀ c : Int, appOk (ofBytes out) [V.int IntKind.u8 c] 2 = true := fun c => app_ok (by simp [ofBytes_length]; omega)
      have plain : openF (s.drop i) = s[i] :: openF (s.drop (i + 1)) → Evt (fun k n => chk (decide (0 ≤ (i : Int))) (chk (decide ((i : Int) < (s.length : Int))) (chk (appOk (ofBytes out) [V.int IntKind.u8 ((UInt8.toNat (List.getD s (Int.toNat (i : Int)) 0) : Nat) : Int)] 2) (L38 (callN cfg k) n s (ofBytes out ++ [V.int IntKind.u8 ((UInt8.toNat (List.getD s (Int.toNat (i : Int)) 0) : Nat) : Int)]) (IntKind.wrap .i64 ((i : Int) + 1)))))) (.str (out ++ openF (s.drop i)), []) := by
        intro e
        have := ih (i + 1) (out ++ [s[i]]) (by omega) (by simp; omega) (by omega)
        simp only [chk_p h2, chk_p h1, chk_b (hap _), Int.toNat_natCast, getD_at hlt, ofBytes_snoc, hw]
        rw [e]
        simpa using this
      by_cases c37 : s[i] = 37
      · have b37 : (s[i] == 37) = true := by simpa using c37
        by_cases h3 : i + 2 < s.length
        · have g3 : ((i + 2 : Nat) : Int) < (s.length : Int) := by omega
          have g4 : ((i + 1 : Nat) : Int) < (s.length : Int) := by omega
          have g5 : (0 : Int) ≤ ((i + 1 : Nat) : Int) := by omega
          have g6 : (0 : Int) ≤ ((i + 2 : Nat) : Int) := by omega
          have hlt1 : i + 1 < s.length := by omega
          have hd : s.drop i = s[i] :: s[i+1] :: s[i+2] :: s.drop (i + 3) := by rw [drop_at hlt, drop_at hlt1, drop_at h3]
          simp only [T38_0, h1, decide_true, if_true, chk_p h2, chk_t, bind_s, Int.toNat_natCast, getD_at hlt, e37, b37, hw2, g3, hw, chk_p g5, chk_p g4, getD_at hlt1]
          refine evt_bind (ret52 s[i+1]) ?_
          simp only [chk_p g6, chk_p g3, getD_at h3]
          refine evt_bind (ret52 s[i+2]) ?_
          simp only [V.getT, V.getB, V.getI, List.headD_cons, List.tail_cons]
          cases ha : hexN s[i+1] with
          | none =>
            simp only [Option.isSome_none, Bool.false_eq_true, if_false, bind_s]
            have e : openF (s.drop i) = s[i] :: openF (s.drop (i + 1)) := by
              rw [hd, openF, if_pos c37, ha, drop_at hlt1, drop_at h3]
            have := plain e
            simp only [Int.toNat_natCast, getD_at hlt, hw, chk_p h2, chk_p h1] at this
            exact this
          | some x =>
            cases hb : hexN s[i+2] with
            | none =>
              simp only [Option.isSome_none, Option.isSome_some, Bool.false_eq_true, if_false, if_true, bind_s]
              have e : openF (s.drop i) = s[i] :: openF (s.drop (i + 1)) := by
                rw [hd, openF, if_pos c37, ha, hb, drop_at hlt1, drop_at h3]
              have := plain e
              simp only [Int.toNat_natCast, getD_at hlt, hw, chk_p h2, chk_p h1] at this
              exact this
            | some y =>
              have ho16 := or16 ⟨x, hexN_lt ha⟩ ⟨y, hexN_lt hb⟩
              simp only [Option.isSome_some, if_true, bind_s, Option.getD_some, ho16, chk_p (show (0 : Int) ≤ 4 by omega), chk_b (hap _), ofBytes_snoc, hw3]
              have := ih (i + 3) (out ++ [UInt8.ofNat (16 * x + y)]) (by omega) (by simp; omega) (by omega)
              rw [hd, openF, if_pos c37, ha, hb]
              simpa using this
        · have g3 : ¬ (((i + 2 : Nat) : Int) < (s.length : Int)) := by omega
          have e : openF (s.drop i) = s[i] :: openF (s.drop (i + 1)) := by
            rw [drop_at hlt]; exact openF_plain _ _ (.inr (by simp; omega))
          have := plain e
          simp only [Int.toNat_natCast, getD_at hlt, hw, chk_p h2, chk_p h1] at this
          simp only [T38_0, h1, decide_true, decide_false, if_true, chk_p h2, chk_t, bind_s, Int.toNat_natCast, getD_at hlt, e37, b37, hw2, g3, Bool.false_eq_true, if_false, hw]
          exact this
      · have b37 : (s[i] == 37) = false := by simpa using c37
        have e : openF (s.drop i) = s[i] :: openF (s.drop (i + 1)) := by
          rw [drop_at hlt]; exact openF_plain _ _ (.inl c37)
        have := plain e
        simp only [Int.toNat_natCast, getD_at hlt, hw, chk_p h2, chk_p h1] at this
        simp only [T38_0, h1, decide_true, if_true, chk_p h2, chk_t, bind_s, Int.toNat_natCast, getD_at hlt, e37, b37, Bool.false_eq_true, if_false, hw]
        exact this
    · exact fin i out (by omega)
theorem ret38 (s : Bs) (hs : s.length ≤ 1000000) : Ret 38 [.str s] [] (.str (openF s), []) := by
  refine M38 s ?_
  simp only [T38]
  exact loop38 s hs s.length 0 [] (by omega) (by simp) (by omega)
end Go.Proofs.YtmhhcoccfojiiaaDoor
