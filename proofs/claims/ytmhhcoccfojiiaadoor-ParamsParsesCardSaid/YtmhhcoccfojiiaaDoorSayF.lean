/- What the functions of params give: a base's value. -/
import Derived.Test.YtmhhcoccfojiiaaDoorSayE
namespace Go.Proofs.YtmhhcoccfojiiaaDoor
open Go.Ev Go

theorem findF_some : ∀ {l : Ps} {name v : Bs}, findF l name = some v → ∃ p ∈ l, p.1 = name ∧ p.2 = v
  | [], _, _, h => by simp [findF] at h
  | p :: l, name, v, h => by
    unfold findF at h
    split at h
    · rename_i e; cases h; exact ⟨p, by simp, e, rfl⟩
    · obtain ⟨q, hq, h1⟩ := findF_some h
      exact ⟨q, by simp [hq], h1⟩

/-- The piece of a number. -/
def joinS (l : Ps) (base : Bs) (n : Nat) : Option Bs :=
  match findF l ((base ++ [42]) ++ digF n) with
  | some v => some v
  | none => match findF l (((base ++ [42]) ++ digF n) ++ [42]) with
    | some v => some (openF (if n = 0 then bareF v else v))
    | none => none
/-- The pieces from a number on. -/
def joinL (l : Ps) (base : Bs) : Nat → Nat → Bs
  | 0, _ => []
  | f + 1, n => match joinS l base n with | none => [] | some v => v ++ joinL l base f (n + 1)

def valD (ds : Bs) : Nat := ds.foldl (fun a d => 10 * a + (d.toNat - 48)) 0
theorem digit_nat {d : Nat} (h : d < 10) : (UInt8.ofNat (48 + d)).toNat = 48 + d := by simp; omega
theorem valD_digF : ∀ n : Nat, valD (digF n) = n := by
  intro n
  induction n using Nat.strongRecOn with
  | _ n ih =>
    by_cases h : n < 10
    · rw [digF_small h]
      show 10 * 0 + ((UInt8.ofNat (48 + n)).toNat - 48) = n
      rw [digit_nat h]; omega
    · rw [digF_big h]
      have := ih (n / 10) (by omega)
      unfold valD at this ⊢
      rw [List.foldl_append, this]
      show 10 * (n / 10) + ((UInt8.ofNat (48 + n % 10)).toNat - 48) = n
      rw [digit_nat (by omega)]; omega
theorem digF_no42 : ∀ n : Nat, ∀ d ∈ digF n, d ≠ 42 := by
  intro n
  have key : ∀ m, m < 10 → UInt8.ofNat (48 + m) ≠ 42 := fun m hm e => by
    have := congrArg UInt8.toNat e
    rw [digit_nat hm] at this
    simp at this; omega
  induction n using Nat.strongRecOn with
  | _ n ih =>
    by_cases h : n < 10
    · rw [digF_small h]
      intro d hd
      rw [List.mem_singleton] at hd; subst hd; exact key n h
    · rw [digF_big h]
      intro d hd
      rw [List.mem_append] at hd
      rcases hd with hd | hd
      · exact ih (n / 10) (by omega) d hd
      · rw [List.mem_singleton] at hd; subst hd; exact key _ (by omega)
theorem digF_strip (n : Nat) (e : Bs) (he : e = [] ∨ e = [42]) : (digF n ++ e).filter (· != 42) = digF n := by
  rw [List.filter_append]
  have h1 : (digF n).filter (· != 42) = digF n := List.filter_eq_self.2 fun d hd => by simpa using digF_no42 n d hd
  rw [h1]
  rcases he with rfl | rfl <;> simp
/-- Does a parameter hold the piece of a number? -/
def matchN (base : Bs) (p : Bs × Bs) (n : Nat) : Bool := p.1 == (base ++ [42]) ++ digF n || p.1 == ((base ++ [42]) ++ digF n) ++ [42]
theorem matchN_one {base : Bs} {p : Bs × Bs} {n m : Nat} (h : matchN base p n = true) (h' : matchN base p m = true) : n = m := by
  have key : ∀ k, matchN base p k = true → ∃ e, (e = [] ∨ e = [42]) ∧ p.1 = (base ++ [42]) ++ (digF k ++ e) := by
    intro k hk
    simp only [matchN, Bool.or_eq_true, beq_iff_eq] at hk
    rcases hk with hk | hk
    · exact ⟨[], .inl rfl, by rw [hk]; simp⟩
    · exact ⟨[42], .inr rfl, by rw [hk]; simp⟩
  obtain ⟨e1, he1, h1⟩ := key n h
  obtain ⟨e2, he2, h2⟩ := key m h'
  have := List.append_cancel_left (h1.symm.trans h2)
  have h3 := congrArg (List.filter (· != 42)) this
  rw [digF_strip n e1 he1, digF_strip m e2 he2] at h3
  rw [← valD_digF n, ← valD_digF m, h3]
theorem joinS_match {l : Ps} {base : Bs} {n : Nat} {v : Bs} (h : joinS l base n = some v) : ∃ p ∈ l, matchN base p n = true ∧ v.length ≤ p.2.length := by
  unfold joinS at h
  split at h
  · rename_i u hu
    cases h
    obtain ⟨p, hp, h1, h2⟩ := findF_some hu
    exact ⟨p, hp, by simp [matchN, h1], by rw [h2]; exact Nat.le_refl _⟩
  · split at h
    · rename_i u hu
      cases h
      obtain ⟨p, hp, h1, h2⟩ := findF_some hu
      refine ⟨p, hp, by simp [matchN, h1], ?_⟩
      rw [h2]
      split
      · exact Nat.le_trans (openF_le _) (bareF_le _)
      · exact openF_le _
    · cases h

theorem filter_split {α : Type} (q : α → Bool) : ∀ S : List α, S.length = (S.filter q).length + (S.filter fun x => !q x).length
  | [] => rfl
  | x :: S => by
    have := filter_split q S
    cases h : q x <;> simp [h] <;> omega
theorem nodup_one {α : Type} : ∀ {S : List α}, S.Nodup → (∀ x ∈ S, ∀ y ∈ S, x = y) → S.length ≤ 1
  | [], _, _ => by simp
  | [x], _, _ => by simp
  | x :: y :: S, h, h' => by
    have := h' x (by simp) y (by simp)
    subst this
    simp at h
theorem pigeon (base : Bs) : ∀ (l : Ps) (S : List Nat), S.Nodup → (∀ n ∈ S, ∃ p ∈ l, matchN base p n = true) → S.length ≤ l.length
  | [], S, _, h => by
    cases S with
    | nil => simp
    | cons n S => obtain ⟨p, hp, _⟩ := h n (by simp); simp at hp
  | p :: l, S, hn, h => by
    have h1 := filter_split (fun n => matchN base p n) S
    have h2 : (S.filter fun n => matchN base p n).length ≤ 1 := nodup_one (hn.filter _) fun x hx y hy => by
      rw [List.mem_filter] at hx hy
      exact matchN_one hx.2 hy.2
    have h3 := pigeon base l (S.filter fun n => !matchN base p n) (hn.filter _) fun n hnm => by
      rw [List.mem_filter] at hnm
      obtain ⟨q, hq, hm⟩ := h n hnm.1
      rw [List.mem_cons] at hq
      rcases hq with rfl | hq
      · rw [hm] at hnm; simp at hnm
      · exact ⟨q, hq, hm⟩
    rw [List.length_cons]; omega
theorem joinS_ends (l : Ps) (base : Bs) : ∃ m, m ≤ l.length ∧ joinS l base m = none := by
  apply Classical.byContradiction
  intro hno
  have : ∀ n ∈ List.range (l.length + 1), ∃ p ∈ l, matchN base p n = true := by
    intro n hn
    rw [List.mem_range] at hn
    cases h : joinS l base n with
    | none => exact absurd ⟨n, by omega, h⟩ hno
    | some v => obtain ⟨p, hp, hm, _⟩ := joinS_match h; exact ⟨p, hp, hm⟩
  have := pigeon base l _ List.nodup_range this
  simp at this; omega

theorem loop40 (l : Ps) (base : Bs) (hl : l.length ≤ 1000000) (hv : ∀ p ∈ l, p.2.length ≤ 1000000) (hb : base.length ≤ 1000000) : ∀ (f n : Nat) (out : Bs), n + f ≤ 1000001 → out.length ≤ n * 1000000 →
    (∃ m, n ≤ m ∧ m < n + f ∧ joinS l base m = none) →
    Evt (fun k j => L40 (callN cfg k) j (l.map pV) base out (n : Int)) (.tup [.str (out ++ joinL l base f n), .bool (decide (0 < n) || (joinS l base n).isSome)], [])
  | 0, n, out, _, _, ⟨m, h1, h2, _⟩ => by omega
  | f + 1, n, out, hf, ho, ⟨m, h1, h2, h3⟩ => by
    refine N40_0 (l.map pV) base out (n : Int) ?_
    have hd := digF_length n
    have c1 : catOk base [42] = true := cat_ok (by simp; omega)
    have c2 : catOk (base ++ [42]) (digF n) = true := cat_ok (by simp; omega)
    have c3 : catOk ((base ++ [42]) ++ digF n) [42] = true := cat_ok (by simp; omega)
    have hw : IntKind.wrap .i64 ((n : Int) + 1) = ((n + 1 : Nat) : Int) := by rw [wrap64 (by omega) (by omega)]; omega
    have next : ∀ v, joinS l base n = some v → catOk out v = true ∧ Evt (fun k j => L40 (callN cfg k) j (l.map pV) base (out ++ v) ((n + 1 : Nat) : Int)) (.tup [.str (out ++ joinL l base (f + 1) n), .bool (decide (0 < n) || (joinS l base n).isSome)], []) := by
      intro v hj
      obtain ⟨p, hp, _, hle⟩ := joinS_match hj
      have := hv p hp
      refine ⟨cat_ok (by omega), ?_⟩
      have hne : n ≠ m := fun e => by rw [e, h3] at hj; cases hj
      have := loop40 l base hl hv hb f (n + 1) (out ++ v) (by omega) (by simp; omega) ⟨m, by omega, by omega, h3⟩
      rw [joinL, hj]
      simpa using this
    simp only [T40_0, chk_b c1]
    refine evt_bind (ret54 n (by omega)) ?_
    simp only [V.getS, chk_b c2]
    refine evt_bind (ret37 l hl _) ?_
    simp only [V.getT, List.tail_cons, List.headD_cons, V.getB, V.getS]
    cases hj1 : findF l ((base ++ [42]) ++ digF n) with
    | some v =>
      have hj : joinS l base n = some v := by unfold joinS; rw [hj1]
      obtain ⟨hc, hn⟩ := next v hj
      simp only [Option.isSome_some, Bool.not_true, Bool.false_eq_true, if_false, Option.getD_some, chk_b hc, hw]
      exact hn
    | none =>
      simp only [Option.isSome_none, Bool.not_false, if_true, chk_b c3]
      refine evt_bind (ret37 l hl _) ?_
      simp only [V.getT, List.tail_cons, List.headD_cons, V.getB, V.getS]
      cases hj2 : findF l (((base ++ [42]) ++ digF n) ++ [42]) with
      | none =>
        have hj : joinS l base n = none := by unfold joinS; rw [hj1]; dsimp only; rw [hj2]
        simp only [Option.isSome_none, Bool.not_false, if_true]
        rw [joinL, hj]
        have : (decide ((n : Int) > 0)) = (decide (0 < n) || (none : Option Bs).isSome) := by simp
        rw [this]
        simp only [List.append_nil]
        exact evt_some _
      | some v =>
        have hj : joinS l base n = some (openF (if n = 0 then bareF v else v)) := by unfold joinS; rw [hj1]; dsimp only; rw [hj2]
        obtain ⟨hc, hn⟩ := next _ hj
        obtain ⟨p, hp, _, rfl⟩ := findF_some hj2
        have hvl := hv p hp
        simp only [Option.isSome_some, Bool.not_true, Bool.false_eq_true, if_false, Option.getD_some]
        by_cases h0 : n = 0
        · have hb0 : ((n : Int) == 0) = true := by simp [h0]
          simp only [hb0, if_true]
          refine evt_bind (ret39 p.2 hvl) ?_
          simp only [V.getS]
          refine evt_bind (ret38 _ (Nat.le_trans (bareF_le _) hvl)) ?_
          rw [if_pos h0] at hc hn
          simp only [V.getS, chk_b hc, hw]
          exact hn
        · have hb0 : ((n : Int) == 0) = false := by simp [h0]
          simp only [hb0, Bool.false_eq_true, if_false]
          refine evt_bind (ret38 _ hvl) ?_
          rw [if_neg h0] at hc hn
          simp only [V.getS, chk_b hc, hw]
          exact hn
/-- A base's value. -/
def joinF (l : Ps) (base : Bs) : Option Bs := if (joinS l base 0).isSome then some (joinL l base (l.length + 1) 0) else none
theorem ret40 (l : Ps) (base : Bs) (hl : l.length ≤ 1000000) (hv : ∀ p ∈ l, p.2.length ≤ 1000000) (hb : base.length ≤ 1000000) :
    Ret 40 [.lst 42 false (l.map pV), .str base] [] (.tup [.str ((joinF l base).getD []), .bool (joinF l base).isSome], []) := by
  refine M40 (l.map pV) base ?_
  simp only [T40]
  obtain ⟨m, h1, h2⟩ := joinS_ends l base
  have := loop40 l base hl hv hb (l.length + 1) 0 [] (by omega) (by simp) ⟨m, by omega, by omega, h2⟩
  unfold joinF
  cases hj : joinS l base 0 with
  | none => rw [hj] at this; simpa [joinL, hj] using this
  | some v => rw [hj] at this; simpa [hj] using this
def toldF (l : Ps) (base : Bs) : Option Bs :=
  match findF l base with
  | some v => some v
  | none => match findF l (base ++ [42]) with
    | some v => some (openF (bareF v))
    | none => joinF l base
theorem ret22 (l : Ps) (base : Bs) (hl : l.length ≤ 1000000) (hv : ∀ p ∈ l, p.2.length ≤ 1000000) (hb : base.length ≤ 1000000) :
    Ret 22 [.lst 42 false (l.map pV), .str base] [] (.tup [.str ((toldF l base).getD []), .bool (toldF l base).isSome], []) := by
  refine M22 (l.map pV) base ?_
  have c1 : catOk base [42] = true := cat_ok (by simp; omega)
  simp only [T22]
  refine evt_bind (ret37 l hl base) ?_
  simp only [V.getT, List.tail_cons, List.headD_cons, V.getB, V.getS]
  unfold toldF
  cases h1 : findF l base with
  | some v =>
    simp only [Option.isSome_some, if_true, Option.getD_some]
    exact evt_some _
  | none =>
    simp only [Option.isSome_none, Bool.false_eq_true, if_false, chk_b c1]
    refine evt_bind (ret37 l hl _) ?_
    simp only [V.getT, List.tail_cons, List.headD_cons, V.getB, V.getS]
    cases h2 : findF l (base ++ [42]) with
    | some v =>
      obtain ⟨p, hp, _, rfl⟩ := findF_some h2
      simp only [Option.isSome_some, if_true, Option.getD_some]
      refine evt_bind (ret39 _ (hv p hp)) ?_
      simp only [V.getS]
      refine evt_bind (ret38 _ (Nat.le_trans (bareF_le _) (hv p hp))) ?_
      exact evt_some _
    | none =>
      simp only [Option.isSome_none, Bool.false_eq_true, if_false]
      refine evt_bind (ret40 l base hl hv hb) ?_
      exact evt_some _
end Go.Proofs.YtmhhcoccfojiiaaDoor
