/- Each name stands once at most, in small letters, without a star: of what is parsed, and the law's own answer. -/
import Derived.Test.YtmhhcoccfojiiaaDoorSayH
namespace Go.Proofs.YtmhhcoccfojiiaaDoor
open Go.Ev Go

/-- A name as it has to be. -/
def goodName (n : Bs) : Prop := n ≠ [] ∧ ∀ c ∈ n, c ≠ 42 ∧ ¬ (65 ≤ c ∧ c ≤ 90)
theorem low8_good (c : UInt8) : ¬ (65 ≤ low8 c ∧ low8 c ≤ 90) := by
  have h := low8_int c
  intro ⟨h1, h2⟩
  rw [UInt8.le_iff_toNat_le] at h1 h2
  have h1' : 65 ≤ (low8 c).toNat := h1
  have h2' : (low8 c).toNat ≤ 90 := h2
  unfold lowI at h
  split at h <;> omega
theorem around_no {b : UInt8} : ∀ {s t r : Bs}, aroundF b s = some (t, r) → ∀ c ∈ t, c ≠ b
  | [], _, _, h => by simp [aroundF] at h
  | c :: s, t, r, h => by
    unfold aroundF at h
    split at h
    · cases h; intro c hc; simp at hc
    · rename_i hne
      simp at h
      obtain ⟨a, ha, rfl⟩ := h
      intro d hd
      rw [List.mem_cons] at hd
      rcases hd with rfl | hd
      · exact hne
      · exact around_no ha d hd
theorem around_none {b : UInt8} : ∀ {s : Bs}, aroundF b s = none → ∀ c ∈ s, c ≠ b
  | [], _, c, hc => by simp at hc
  | c :: s, h, d, hd => by
    unfold aroundF at h
    split at h
    · cases h
    · rename_i hne
      simp at h
      rw [List.mem_cons] at hd
      rcases hd with rfl | hd
      · exact hne
      · exact around_none h d hd
theorem baseF_mem (s : Bs) : ∀ c ∈ baseF s, c ∈ s ∧ c ≠ 42 := by
  unfold baseF
  cases h : aroundF 42 s with
  | none => exact fun c hc => ⟨hc, around_none h c hc⟩
  | some p =>
    intro c hc
    refine ⟨?_, around_no h c hc⟩
    have hc : c ∈ p.1 := hc
    rw [around_eq h]; simp [hc]
theorem pairsF_low : ∀ (n : Nat) (s : Bs), s.length ≤ n → ∀ p ∈ pairsF s, ∃ t : Bs, p.1 = t.map low8 := by
  intro n
  induction n with
  | zero =>
    intro s h
    have : s = [] := List.eq_nil_of_length_eq_zero (by omega)
    subst this
    have hb : byteF 59 [] = none := by simp [byteF, skipF_nil]
    rw [pairsF_eq]; simp [hb]
  | succ n ih =>
    intro s h
    rw [pairsF_eq]
    cases h1 : byteF 59 s with
    | none => simp
    | some s1 =>
      have g1 := byteF_le h1
      have g2 := tokF_le s1
      dsimp only
      split
      · simp
      · cases h2 : byteF 61 (tokF s1).2 with
        | none => simp
        | some s3 =>
          have g3 := byteF_le h2
          dsimp only
          cases h3 : valF s3 with
          | none => simp
          | some p =>
            obtain ⟨v, s4⟩ := p
            have g4 := valF_le h3
            dsimp only
            intro p hp
            rw [List.mem_cons] at hp
            rcases hp with rfl | hp
            · exact ⟨_, rfl⟩
            · exact ih s4 (by omega) p hp
/-- Names of parameters: none that was seen, each once. -/
def onceP : List Bs → Ps → Prop
  | _, [] => True
  | seen, p :: r => p.1 ∉ seen ∧ goodName p.1 ∧ onceP (p.1 :: seen) r
theorem onceP_more : ∀ (r : Ps) (seen seen' : List Bs), (∀ x ∈ seen', x ∈ seen) → onceP seen r → onceP seen' r
  | [], _, _, _, _ => trivial
  | p :: r, seen, seen', h, ⟨h1, h2, h3⟩ => ⟨fun hm => h1 (h _ hm), h2, onceP_more r _ _ (fun x hx => by
      rw [List.mem_cons] at hx ⊢
      exact hx.imp id (h x)) h3⟩
theorem parP_once (l : Ps) : ∀ (r : Ps) (seen : List Bs), (∀ p ∈ r, ∃ t : Bs, p.1 = t.map low8) → onceP seen (parP l seen r)
  | [], seen, _ => trivial
  | p :: r, seen, h => by
    rw [parP]
    have hr : ∀ q ∈ r, ∃ t : Bs, q.1 = t.map low8 := fun q hq => h q (by simp [hq])
    split
    · exact parP_once l r seen hr
    · rename_i hne
      have ih := parP_once l r (baseF p.1 :: seen) hr
      cases toldF l (baseF p.1) with
      | none => exact onceP_more _ _ _ (fun x hx => by simp [hx]) ih
      | some x =>
        refine ⟨fun hm => hne (.inr hm), ⟨fun e => hne (.inl e), fun c hc => ?_⟩, ih⟩
        obtain ⟨hm, h42⟩ := baseF_mem p.1 c hc
        refine ⟨h42, ?_⟩
        obtain ⟨t, ht⟩ := h p (by simp)
        rw [ht] at hm
        obtain ⟨d, _, rfl⟩ := List.mem_map.1 hm
        exact low8_good d
theorem onceP_at : ∀ (ps : Ps) (seen : List Bs), onceP seen ps → ∀ (i : Nat) (h : i < ps.length), goodName ps[i].1 ∧ ps[i].1 ∉ seen ∧ ∀ (j : Nat) (hj : j < i), ps[j].1 ≠ ps[i].1
  | [], _, _, i, h => by simp at h
  | p :: r, seen, ⟨h1, h2, h3⟩, 0, _ => ⟨h2, h1, fun j hj => by omega⟩
  | p :: r, seen, ⟨h1, h2, h3⟩, i + 1, h => by
    have hi : i < r.length := by simpa using h
    obtain ⟨g1, g2, g3⟩ := onceP_at r (p.1 :: seen) h3 i hi
    refine ⟨g1, fun hm => g2 (List.mem_cons_of_mem _ hm), fun j hj => ?_⟩
    cases j with
    | zero => intro e; exact g2 (by rw [show r[i].1 = p.1 from e.symm]; exact List.mem_cons_self)
    | succ j => exact g3 j (by omega)

section
variable (two : Bool) (t u : Bs) (ps : Ps) (hps : ps.length ≤ 1000000) (hv : ∀ p ∈ ps, p.1.length ≤ 1000000)
include hps

theorem loop5_2 (i : Nat) (hi : i < ps.length) (hne : ps[i].1 ≠ []) (hd : ∀ (j : Nat) (hj : j < i), ps[j].1 ≠ ps[i].1)
    (hnext : Evt (fun k n => (L5 (callN cfg k) n).1 two ((i + 1 : Nat) : Int) t u (ps.map pV)) (.bool true, [])) : ∀ (n j : Nat), i - j = n → j ≤ i →
    Evt (fun k n => (L5 (callN cfg k) n).2.2 two (i : Nat) ps[i].1 (j : Nat) t u (ps.map pV)) (.bool true, []) := by
  intro n
  induction n with
  | zero =>
    intro j h hj
    refine N5_2 two (i : Nat) ps[i].1 (j : Nat) t u (ps.map pV) ?_
    have h1 : ¬ ((j : Int) < (i : Int)) := by omega
    have hs : sEq ps[i].1 [] = false := by simp [sEq, hne]
    have hw : IntKind.wrap .i64 ((i : Int) + 1) = ((i + 1 : Nat) : Int) := by rw [wrap64 (by omega) (by omega)]; omega
    simp only [T5_2, h1, decide_false, Bool.false_eq_true, if_false, hs, hw]
    exact hnext
  | succ n ih =>
    intro j h hj
    refine N5_2 two (i : Nat) ps[i].1 (j : Nat) t u (ps.map pV) ?_
    have hjl : j < ps.length := by omega
    have h1 : ((j : Int) < (i : Int)) := by omega
    have h2 : (0 : Int) ≤ (j : Int) := by omega
    have h3 : ((j : Int) < ((ps.map pV).length : Int)) := by simp; omega
    have hs : sEq ps[j].1 ps[i].1 = false := by simp [sEq, hd j (by omega)]
    have hw : IntKind.wrap .i64 ((j : Int) + 1) = ((j + 1 : Nat) : Int) := by rw [wrap64 (by omega) (by omega)]; omega
    simp only [T5_2, h1, decide_true, if_true, chk_p h2, chk_p h3, Int.toNat_natCast, getD_pV hjl, pV, V.cells, List.headD_cons, V.getS, hs, Bool.false_eq_true, if_false, hw]
    exact ih (j + 1) (by omega) (by omega)

omit hps in
theorem loop5_1 (i : Nat) (hi : i < ps.length) (hl : ps[i].1.length ≤ 1000000) (hg : goodName ps[i].1)
    (hnext : Evt (fun k n => (L5 (callN cfg k) n).2.2 two (i : Nat) ps[i].1 (0 : Int) t u (ps.map pV)) (.bool true, [])) : ∀ (n j : Nat), ps[i].1.length - j = n → j ≤ ps[i].1.length →
    Evt (fun k n => (L5 (callN cfg k) n).2.1 two (i : Nat) ps[i].1 (j : Nat) t u (ps.map pV)) (.bool true, []) := by
  intro n
  induction n with
  | zero =>
    intro j h hj
    refine N5_1 two (i : Nat) ps[i].1 (j : Nat) t u (ps.map pV) ?_
    have h1 : ¬ ((j : Int) < (ps[i].1.length : Int)) := by omega
    simp only [T5_1, h1, decide_false, Bool.false_eq_true, if_false]
    exact hnext
  | succ n ih =>
    intro j h hj
    refine N5_1 two (i : Nat) ps[i].1 (j : Nat) t u (ps.map pV) ?_
    generalize hnm : ps[i].1 = nm at *
    have hjl : j < nm.length := by omega
    have h1 : ((j : Int) < (nm.length : Int)) := by omega
    have h2 : (0 : Int) ≤ (j : Int) := by omega
    obtain ⟨c42, cup⟩ := hg.2 nm[j] (List.getElem_mem hjl)
    have e42 : (((nm[j].toNat : Nat) : Int) == (42 : Int)) = (nm[j] == 42) := intB_lit nm[j] 42 (by omega)
    have b42 : (nm[j] == 42) = false := by simpa using c42
    have hw : IntKind.wrap .i64 ((j : Int) + 1) = ((j + 1 : Nat) : Int) := by rw [wrap64 (by omega) (by omega)]; omega
    have hup : (if decide (((nm[j].toNat : Nat) : Int) ≥ (65 : Int)) = true then some (decide (((nm[j].toNat : Nat) : Int) ≤ (90 : Int))) else some false) = some false := by
      by_cases a : (65 : UInt8) ≤ nm[j]
      · have b : ¬ nm[j] ≤ 90 := fun hb => cup ⟨a, hb⟩
        have b' : ¬ (((nm[j].toNat : Nat) : Int) ≤ (90 : Int)) := fun e => b ((intB_le nm[j] 90).1 e)
        simp [b']
      · have a' : ¬ (((nm[j].toNat : Nat) : Int) ≥ (65 : Int)) := fun e => a ((intB_le 65 nm[j]).1 e)
        simp [a']
    simp only [T5_1, h1, decide_true, if_true, chk_p h2, chk_t, Int.toNat_natCast, getD_at hjl, e42, b42, hup, bind_s, Bool.false_eq_true, if_false, hw]
    exact ih (j + 1) (by omega) (by omega)
include hv
theorem loop5 (ho : onceP [] ps) (ht : t ≠ []) (hu : (!(u == [])) = two) : ∀ (n i : Nat), ps.length - i = n → i ≤ ps.length →
    Evt (fun k n => (L5 (callN cfg k) n).1 two (i : Nat) t u (ps.map pV)) (.bool true, []) := by
  intro n
  induction n with
  | zero =>
    intro i h hi
    refine N5_0 two (i : Nat) t u (ps.map pV) ?_
    have h1 : ¬ ((i : Int) < ((ps.map pV).length : Int)) := by simp; omega
    have hs : (t == []) = false := by simpa using ht
    simp only [T5_0, h1, decide_false, Bool.false_eq_true, if_false, sEq, hs, Bool.not_false, if_true, hu, bind_s, beq_self_eq_true]
    exact evt_some _
  | succ n ih =>
    intro i h hi
    have hlt : i < ps.length := by omega
    obtain ⟨g1, _, g3⟩ := onceP_at ps [] ho i hlt
    refine N5_0 two (i : Nat) t u (ps.map pV) ?_
    have h1 : ((i : Int) < ((ps.map pV).length : Int)) := by simp; omega
    have h2 : (0 : Int) ≤ (i : Int) := by omega
    simp only [T5_0, h1, decide_true, if_true, chk_p h2, chk_t, Int.toNat_natCast, getD_pV hlt, pV, V.cells, List.headD_cons, V.getS]
    have := loop5_2 two t u ps hps i hlt g1.1 g3 (ih (i + 1) (by omega) (by omega)) i 0 (by omega) (by omega)
    exact loop5_1 two t u ps i hlt (hv _ (List.getElem_mem hlt)) g1 this _ 0 rfl (by omega)
end

theorem parP_small (l : Ps) : ∀ (r : Ps) (seen : List Bs), (parP l seen r).length ≤ r.length ∧ ∀ p ∈ parP l seen r, ∃ q ∈ r, p.1 = baseF q.1
  | [], _ => by simp [parP]
  | p :: r, seen => by
    rw [parP]
    split
    · obtain ⟨h1, h2⟩ := parP_small l r seen
      refine ⟨by rw [List.length_cons]; omega, fun q hq => ?_⟩
      obtain ⟨q', hq', e⟩ := h2 q hq
      exact ⟨q', by simp [hq'], e⟩
    · obtain ⟨h1, h2⟩ := parP_small l r (baseF p.1 :: seen)
      cases toldF l (baseF p.1) with
      | none =>
        refine ⟨Nat.le_succ_of_le h1, fun q hq => ?_⟩
        obtain ⟨q', hq', e⟩ := h2 q hq
        exact ⟨q', by simp [hq'], e⟩
      | some x =>
        refine ⟨by rw [List.length_cons]; exact Nat.succ_le_succ h1, fun q hq => ?_⟩
        rw [List.mem_cons] at hq
        rcases hq with rfl | hq
        · exact ⟨p, by simp, rfl⟩
        · obtain ⟨q', hq', e⟩ := h2 q hq
          exact ⟨q', by simp [hq'], e⟩

/-- What is parsed is as it has to be. -/
theorem parseF_good {s : Bs} {two : Bool} {t u : Bs} {ps : Ps} (h : parseF s two = some (t, u, ps)) :
    t ≠ [] ∧ (!(u == [])) = two ∧ onceP [] ps ∧ ps.length ≤ s.length ∧ ∀ p ∈ ps, p.1.length ≤ s.length := by
  have h0 := skipF_le s
  have h1 := tokF_le (skipF s)
  have fin : ∀ r : Bs, r.length ≤ s.length → onceP [] (parP (pairsF r) [] (pairsF r)) ∧ (parP (pairsF r) [] (pairsF r)).length ≤ s.length ∧ ∀ p ∈ parP (pairsF r) [] (pairsF r), p.1.length ≤ s.length := by
    intro r hr
    obtain ⟨g1, g2⟩ := pairsF_small r.length r (Nat.le_refl _)
    obtain ⟨g3, g4⟩ := parP_small (pairsF r) (pairsF r) []
    refine ⟨parP_once _ _ _ (pairsF_low r.length r (Nat.le_refl _)), by omega, fun p hp => ?_⟩
    obtain ⟨q, hq, e⟩ := g4 p hp
    have := (g2 q hq).1
    have := baseF_le q.1
    rw [e]; omega
  unfold parseF at h
  split at h
  · cases h
  · rename_i hne
    split at h
    · rename_i htwo
      split at h
      · cases h
      · rename_i s2 h2
        have g2 := byteF_le h2
        have g3 := tokF_le s2
        split at h
        · cases h
        · rename_i hne2
          cases h
          obtain ⟨f1, f2, f3⟩ := fin (tokF s2).2 (by omega)
          refine ⟨by simpa using hne, ?_, f1, f2, f3⟩
          rw [htwo]; simpa using hne2
    · rename_i htwo
      cases h
      obtain ⟨f1, f2, f3⟩ := fin (tokF (skipF s)).2 (by omega)
      refine ⟨by simpa using hne, ?_, f1, f2, f3⟩
      have : two = false := by simpa using htwo
      rw [this]; rfl

theorem ret5 (s : Bs) (two : Bool) : Ret 5 [.str s, .bool two] [] (.bool true, []) := by
  refine M5 s two ?_
  simp only [T5]
  refine evt_bind ret7 ?_
  simp only [V.getB, Bool.not_true, Bool.false_eq_true, if_false]
  by_cases hs : s.length ≤ 400
  · have h1 : ¬ ((s.length : Int) > 400) := by omega
    simp only [h1, decide_false, Bool.false_eq_true, if_false]
    refine evt_bind (ret8 s (by omega) two) ?_
    cases hp : parseF s two with
    | none =>
      exact evt_some _
    | some q =>
      obtain ⟨t, u, ps⟩ := q
      obtain ⟨g1, g2, g3, g4, g5⟩ := parseF_good hp
      simp only [parseV, V.getT, V.cells, List.headD_cons, List.tail_cons, V.getB, V.getS, V.getL, Bool.not_true, Bool.false_eq_true, if_false]
      exact loop5 two t u ps (by omega) (fun p hp => by have := g5 p hp; omega) g3 g1 g2 _ 0 rfl (by omega)
  · have h1 : ((s.length : Int) > 400) := by omega
    simp only [h1, decide_true, if_true]
    exact evt_some _
end Go.Proofs.YtmhhcoccfojiiaaDoor
