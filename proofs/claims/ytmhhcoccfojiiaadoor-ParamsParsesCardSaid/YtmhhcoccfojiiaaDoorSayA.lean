/- What the functions of params give: small ones. -/
import Derived.Test.YtmhhcoccfojiiaaDoorSay
import Derived.Test.YtmhhcoccfojiiaaDoorFnsA
namespace Go.Proofs.YtmhhcoccfojiiaaDoor
open Go.Ev Go

def specials : Bs := [40, 41, 60, 62, 64, 44, 59, 58, 92, 34, 47, 91, 93, 63, 61]
def tokB (c : UInt8) : Bool := 33 ≤ c && c ≤ 126 && !specials.contains c
def blankB (c : UInt8) : Bool := c == 32 || c == 9

theorem intB_inj (a b : UInt8) : (((a.toNat : Nat) : Int) == ((b.toNat : Nat) : Int)) = (a == b) := by
  by_cases h : a = b
  · subst h; simp
  · have : a.toNat ≠ b.toNat := fun e => h (UInt8.toNat_inj.1 e)
    have h1 : (a == b) = false := by simpa using h
    rw [h1]; simp; omega
theorem intB_lit (a : UInt8) (n : Nat) (h : n < 256) : (((a.toNat : Nat) : Int) == (n : Int)) = (a == UInt8.ofNat n) := by
  have : (UInt8.ofNat n).toNat = n := by simp; omega
  have := intB_inj a (UInt8.ofNat n)
  rwa [‹(UInt8.ofNat n).toNat = n›] at this
theorem intB_le (a b : UInt8) : (((a.toNat : Nat) : Int) ≤ ((b.toNat : Nat) : Int)) ↔ a ≤ b := by
  rw [UInt8.le_iff_toNat_le]; omega

theorem ret30 (s : Bs) (i : Nat) : Ret 30 [.ref 0 0, .int .i64 i] [.cells [.str s]] (.int .u8 ((s.getD i 0).toNat : Nat), [.cells [.str s]]) := by
  refine M30 s i ?_
  simp only [T30]
  by_cases h : i < s.length
  · have h1 : ¬ ((i : Int) ≥ (s.length : Int)) := by omega
    have h2 : (i : Int) < (s.length : Int) := by omega
    have h3 : (0 : Int) ≤ (i : Int) := by omega
    simp only [h1, decide_false, Bool.false_eq_true, if_false, chk_p h2, chk_p h3, Int.toNat_natCast]
    exact evt_some _
  · have h1 : ((i : Int) ≥ (s.length : Int)) := by omega
    have h4 : s.getD i 0 = 0 := by simp [List.getD, List.getElem?_eq_none (by omega : s.length ≤ i)]
    simp only [h1, decide_true, if_true, h4]
    exact evt_some _

theorem ret31 (c : UInt8) : Ret 31 [.int .u8 (c.toNat : Nat)] [] (.bool (blankB c), []) := by
  refine M31 (c.toNat : Nat) ?_
  have h32 : (((c.toNat : Nat) : Int) == (32 : Int)) = (c == 32) := intB_lit c 32 (by omega)
  have h9 : (((c.toNat : Nat) : Int) == (9 : Int)) = (c == 9) := intB_lit c 9 (by omega)
  simp only [T31, h32, h9, blankB]
  cases h : (c == 32)
  · simp only [if_true, bind_s, Bool.false_or]; exact evt_some _
  · simp only [Bool.true_eq_false, if_false, bind_s, Bool.true_or]; exact evt_some _

/-- A text of plain bytes is decoded byte by byte. -/
theorem decode_plain (s : Bs) (i : Nat) (h : i < s.length) (hb : s[i] < 128) : Utf8.decode ⟨s.toArray⟩ i = (s[i].toNat, 1) := by
  have e : (ByteArray.get! ⟨s.toArray⟩ (i + 0)).toNat = s[i].toNat := by simp [ByteArray.get!, h]
  have hlt : s[i].toNat < 0x80 := by have := UInt8.lt_iff_toNat_lt.1 hb; simpa using this
  unfold Utf8.decode
  simp only [e, hlt, if_true]

theorem loop49 (c : UInt8) (s : Bs) (hs : ∀ b ∈ s, b < 128) : ∀ (n i : Nat), s.length - i = n → i ≤ s.length →
    Evt (fun k n => L49 (callN cfg k) n (c.toNat : Nat) s (i : Nat)) (.bool ((s.drop i).contains c), [])
  | 0, i, h, hi => by
    refine N49_0 (c.toNat : Nat) s (i : Nat) ?_
    have h1 : ¬ (i < s.length) := by omega
    have h2 : s.drop i = [] := List.drop_eq_nil_of_le (by omega)
    simp only [T49_0, Int.toNat_natCast, h1, if_false, h2, List.contains_nil]
    exact evt_some _
  | n + 1, i, h, hi => by
    refine N49_0 (c.toNat : Nat) s (i : Nat) ?_
    have h1 : i < s.length := by omega
    have hd := decode_plain s i h1 (hs _ (List.getElem_mem h1))
    have hw : IntKind.wrap .i32 ((c.toNat : Nat) : Int) = ((c.toNat : Nat) : Int) := by
      rw [IntKind.wrap_i32]; have := c.toNat_lt; omega
    simp only [T49_0, Int.toNat_natCast, h1, if_true, hd, hw, intB_inj]
    rw [drop_at h1]
    cases he : (s[i] == c)
    · have hx : (s[i] :: s.drop (i + 1)).contains c = (s.drop (i + 1)).contains c := by
        have : (c == s[i]) = false := by rw [BEq.comm]; exact he
        rw [List.contains_cons, this]; simp
      simp only [Bool.false_eq_true, if_false, hx]
      exact loop49 c s hs n (i + 1) (by omega) (by omega)
    · have hx : (s[i] :: s.drop (i + 1)).contains c = true := by
        have : (c == s[i]) = true := by rw [BEq.comm]; exact he
        rw [List.contains_cons, this]; simp
      simp only [if_true, hx]
      exact evt_some _
theorem ret49 (c : UInt8) (s : Bs) (hs : ∀ b ∈ s, b < 128) : Ret 49 [.str s, .int .u8 (c.toNat : Nat)] [] (.bool (s.contains c), []) := by
  refine M49 s (c.toNat : Nat) ?_
  simp only [T49]
  exact loop49 c s hs _ 0 rfl (by omega)

theorem ret34 (c : UInt8) : Ret 34 [.int .u8 (c.toNat : Nat)] [] (.bool (tokB c), []) := by
  refine M34 (c.toNat : Nat) ?_
  simp only [T34, tokB]
  by_cases h1 : 33 ≤ c
  · have g1 : ((c.toNat : Nat) : Int) ≥ 33 := (intB_le 33 c).2 h1
    by_cases h2 : c ≤ 126
    · have g2 : ((c.toNat : Nat) : Int) ≤ 126 := (intB_le c 126).2 h2
      simp only [g1, g2, h1, h2, decide_true, if_true, Bool.true_and]
      refine evt_bind (ret49 c specials (by decide)) ?_
      exact evt_some _
    · have g2 : ¬ ((c.toNat : Nat) : Int) ≤ 126 := fun e => h2 ((intB_le c 126).1 e)
      simp only [g1, g2, h1, h2, decide_true, decide_false, if_true, Bool.false_eq_true, if_false, Bool.true_and, Bool.false_and]
      exact evt_some _
  · have g1 : ¬ ((c.toNat : Nat) : Int) ≥ 33 := fun e => h1 ((intB_le 33 c).1 e)
    simp only [g1, h1, decide_false, Bool.false_eq_true, if_false, Bool.false_and]
    exact evt_some _

theorem ret17 (s : Bs) (hs : s.length < 4294967281) : Ret 17 [.str s] [] (.str (s.map low8), []) :=
  ret_hand (h := foldF) rfl (by simp [foldF, hs])

theorem ret29 (a b : Bs) (ha : a.length < 4294967281) (hb : b.length < 4294967281) : Ret 29 [.str a, .str b] [] (.bool (a.map low8 == b.map low8), []) := by
  refine M29 a b ?_
  simp only [T29]
  refine evt_bind (ret17 a ha) (evt_bind (ret17 b hb) ?_)
  exact evt_some _

/-- The token in front, and what stands behind it. -/
def tokF (s : Bs) : Bs × Bs := (s.takeWhile tokB, s.dropWhile tokB)

theorem loop18 (s : Bs) (hs : s.length ≤ 1000000) : ∀ (n i : Nat), s.length - i = n → i ≤ s.length → (∀ j (h : j < s.length), j < i → tokB s[j] = true) →
    Evt (fun k n => L18 (callN cfg k) n (i : Nat) s) (.str (tokF s).1, [.cells [.str (tokF s).2]]) := by
  have fin : ∀ i : Nat, i ≤ s.length → (∀ j (h : j < s.length), j < i → tokB s[j] = true) → (∀ h : i < s.length, tokB s[i] = false) → (tokF s).1 = s.take i ∧ (tokF s).2 = s.drop i := by
    intro i hi h1 h2
    have e : s = s.take i ++ s.drop i := (List.take_append_drop i s).symm
    have h3 : ∀ b ∈ s.take i, tokB b = true := by
      intro b hb
      obtain ⟨j, hj, rfl⟩ := List.getElem_of_mem hb
      have hj' : j < i ∧ j < s.length := by rw [List.length_take] at hj; omega
      rw [List.getElem_take]
      exact h1 j hj'.2 hj'.1
    have h4 : (s.drop i).takeWhile tokB = [] ∧ (s.drop i).dropWhile tokB = s.drop i := by
      by_cases hlt : i < s.length
      · rw [drop_at hlt, List.takeWhile_cons_of_neg (by simp [h2 hlt]), List.dropWhile_cons_of_neg (by simp [h2 hlt])]; exact ⟨rfl, rfl⟩
      · rw [List.drop_eq_nil_of_le (by omega)]; simp
    unfold tokF
    constructor
    · show s.takeWhile tokB = _
      conv => lhs; rw [e]
      rw [List.takeWhile_append_of_pos h3, h4.1, List.append_nil]
    · show s.dropWhile tokB = _
      conv => lhs; rw [e]
      rw [List.dropWhile_append_of_pos h3, h4.2]
  intro n
  induction n with
  | zero =>
    intro i h hi hb
    refine N18_0 (i : Nat) s ?_
    have h1 : ¬ ((i : Int) < (s.length : Int)) := by omega
    have h2 : (0 : Int) ≤ (i : Int) := by omega
    have h3 : ((i : Int) ≤ (s.length : Int)) := by omega
    obtain ⟨e1, e2⟩ := fin i hi hb (fun h => by omega)
    simp only [T18_0, h1, decide_false, Bool.false_eq_true, if_false, chk_p h2, chk_p h3, chk_p (Int.le_refl 0), Int.toNat_natCast, e1, e2]
    exact evt_some _
  | succ n ih =>
    intro i h hi hb
    refine N18_0 (i : Nat) s ?_
    have hlt : i < s.length := by omega
    have h1 : ((i : Int) < (s.length : Int)) := by omega
    have h2 : (0 : Int) ≤ (i : Int) := by omega
    have h3 : ((i : Int) ≤ (s.length : Int)) := by omega
    have hw : IntKind.wrap .i64 ((i : Int) + 1) = ((i + 1 : Nat) : Int) := by rw [wrap64 (by omega) (by omega)]; omega
    simp only [T18_0, h1, decide_true, if_true, chk_p h2, chk_p h3, chk_t, chk_p (Int.le_refl 0), Int.toNat_natCast, getD_at hlt]
    refine evt_bind (ret34 s[i]) ?_
    simp only [V.getB, hw]
    cases ht : tokB s[i]
    · obtain ⟨e1, e2⟩ := fin i hi hb (fun _ => ht)
      simp only [Bool.false_eq_true, if_false, e1, e2]
      exact evt_some _
    · simp only [if_true]
      refine ih (i + 1) (by omega) (by omega) fun j hj hji => ?_
      by_cases e : j = i
      · subst e; exact ht
      · exact hb j hj (by omega)
theorem ret18 (s : Bs) (hs : s.length ≤ 1000000) : Ret 18 [.agg [.ref 0 0]] [.cells [.str s]] (.str (tokF s).1, [.cells [.str (tokF s).2]]) := by
  refine M18 s ?_
  simp only [T18]
  exact loop18 s hs _ 0 rfl (by omega) (fun j h hj => by omega)
end Go.Proofs.YtmhhcoccfojiiaaDoor
