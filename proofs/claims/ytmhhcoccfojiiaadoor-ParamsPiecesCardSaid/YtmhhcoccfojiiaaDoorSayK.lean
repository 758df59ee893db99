/- Pieces that are opened, in whatever order: what is parsed. -/
import Derived.Test.YtmhhcoccfojiiaaDoorSayJ
namespace Go.Proofs.YtmhhcoccfojiiaaDoor
open Go.Ev Go

def hexUp (n : Nat) : UInt8 := ([48, 49, 50, 51, 52, 53, 54, 55, 56, 57, 65, 66, 67, 68, 69, 70] : Bs).getD n 0
def hexLow (n : Nat) : UInt8 := ([48, 49, 50, 51, 52, 53, 54, 55, 56, 57, 97, 98, 99, 100, 101, 102] : Bs).getD n 0
def fileN : Bs := [102, 105, 108, 101, 110, 97, 109, 101]
/-- The number's text as the law makes it. -/
def numF (k : Nat) : Bs := if k > 9 then [49] ++ [UInt8.ofNat (48 + k % 10)] else [UInt8.ofNat (48 + k % 10)]
def pctF (c : UInt8) : Bs := [37] ++ ([hexUp (c.toNat / 16)] ++ [hexLow (c.toNat % 16)])
def valK (k : Nat) (c : UInt8) : Bs := if k = 0 then [117, 116, 102, 45, 56, 39, 39] ++ pctF c else pctF c
def nmK (k : Nat) : Bs := (fileN ++ [42]) ++ (numF k ++ [42])
def pieceF (k : Nat) (c : UInt8) : Bs := (([59, 32, 102, 105, 108, 101, 110, 97, 109, 101, 42] ++ numF k) ++ [42, 61]) ++ valK k c

theorem pieceF_eq (k : Nat) (c : UInt8) (r : Bs) : pieceF k c ++ r = 59 :: 32 :: (nmK k ++ 61 :: (valK k c ++ r)) := by
  simp [pieceF, nmK, fileN]
theorem numF_dig : ∀ k : Fin 12, numF k.val = digF k.val := by decide +kernel
theorem pct_tok : ∀ n : Fin 256, ∀ x ∈ pctF (UInt8.ofNat n.val), tokB x = true := by decide +kernel
theorem pct_open : ∀ n : Fin 256, openF (pctF (UInt8.ofNat n.val)) = [UInt8.ofNat n.val] := by decide +kernel
theorem pct_bare : ∀ n : Fin 256, bareF (valK 0 (UInt8.ofNat n.val)) = pctF (UInt8.ofNat n.val) := by decide +kernel
theorem byte_of (c : UInt8) : UInt8.ofNat (⟨c.toNat, c.toNat_lt⟩ : Fin 256).val = c := by simp
theorem nm_tok : ∀ k : Fin 12, ∀ x ∈ nmK k.val, tokB x = true := by decide +kernel
theorem nm_low : ∀ k : Fin 12, (nmK k.val).map low8 = nmK k.val := by decide +kernel
theorem nm_base : ∀ k : Fin 12, baseF (nmK k.val) = fileN := by decide +kernel
theorem val_tok (k : Nat) (c : UInt8) : ∀ x ∈ valK k c, tokB x = true := by
  have h := pct_tok ⟨c.toNat, c.toNat_lt⟩
  rw [byte_of] at h
  have h0 : ∀ x ∈ ([117, 116, 102, 45, 56, 39, 39] : Bs), tokB x = true := by decide +kernel
  unfold valK
  split
  · intro x hx
    rw [List.mem_append] at hx
    exact hx.elim (h0 x) (h x)
  · exact h
theorem val_head (k : Nat) (c : UInt8) (r : Bs) : ¬ (valK k c ++ r).head? = some 34 := by
  unfold valK
  split <;> simp [pctF]
theorem val_ne (k : Nat) (c : UInt8) : valK k c ≠ [] := by
  unfold valK
  split <;> simp [pctF]
theorem tokF_end {t : Bs} (h : ∀ x ∈ t, tokB x = true) : tokF t = (t, []) := by
  have h1 : t.takeWhile tokB = t := by
    have := List.takeWhile_append_of_pos (l₂ := []) h
    simpa using this
  have h2 : t.dropWhile tokB = [] := by
    have := List.dropWhile_append_of_pos (l₂ := []) h
    simpa using this
  unfold tokF; rw [h1, h2]
theorem val_read (k : Nat) (c : UInt8) (r : Bs) (hr : r = [] ∨ ∃ q, r = 59 :: q) : valF (valK k c ++ r) = some (valK k c, r) := by
  have ht : tokF (valK k c ++ r) = (valK k c, r) := by
    rcases hr with rfl | ⟨q, rfl⟩
    · rw [List.append_nil]; exact tokF_end (val_tok k c)
    · exact tokF_app (val_tok k c) (by decide +kernel)
  unfold valF
  rw [if_neg (val_head k c r), ht]
  rw [if_neg (val_ne k c)]

/-- All pieces, one behind the other. -/
def piecesF (l : List (Nat × UInt8)) : Bs := l.flatMap fun p => pieceF p.1 p.2
def pairOf (p : Nat × UInt8) : Bs × Bs := (nmK p.1, valK p.1 p.2)
theorem pieces_head (l : List (Nat × UInt8)) : piecesF l = [] ∨ ∃ q, piecesF l = 59 :: q := by
  cases l with
  | nil => exact .inl rfl
  | cons p l =>
    right
    unfold piecesF
    rw [List.flatMap_cons, pieceF_eq]
    exact ⟨_, rfl⟩
theorem pairs_pieces : ∀ l : List (Nat × UInt8), (∀ p ∈ l, p.1 < 12) → pairsF (piecesF l) = l.map pairOf
  | [], _ => pairsF_nil
  | p :: l, h => by
    have hp := h p (by simp)
    have ih := pairs_pieces l fun q hq => h q (by simp [hq])
    have e : piecesF (p :: l) = 59 :: 32 :: (nmK p.1 ++ 61 :: (valK p.1 p.2 ++ piecesF l)) := by
      unfold piecesF
      rw [List.flatMap_cons, pieceF_eq]
    have b59 : blankB 59 = false := by decide
    have b32 : blankB 32 = true := by decide
    have b61 : blankB 61 = false := by decide
    have k61 : tokB 61 = false := by decide +kernel
    have hn : nmK p.1 ≠ [] := by simp [nmK, fileN]
    have hl := nm_low ⟨p.1, hp⟩
    have hs : ∀ r : Bs, skipF (32 :: (nmK p.1 ++ r)) = nmK p.1 ++ r := fun r => by
      rw [skipF_blank b32]; exact skipF_stop (by decide) (by decide)
    have hv : skipF (valK p.1 p.2 ++ piecesF l) = valK p.1 p.2 ++ piecesF l := by
      unfold valK
      split
      · exact skipF_stop (by decide) (by decide)
      · exact skipF_stop (by decide) (by decide)
    rw [e, pairsF_step (byteF_hit (skipF_stop b59 (by decide))) (by rw [hs]; exact tokF_app (nm_tok ⟨p.1, hp⟩) k61) hn (byteF_hit (skipF_stop b61 (by decide))) (by rw [hv]; exact val_read p.1 p.2 _ (pieces_head l)), ih]
    rw [show nmK (Fin.val ⟨p.1, hp⟩) = nmK p.1 from rfl] at hl
    rw [List.map_cons, pairOf, hl]

theorem findF_none {l : Ps} {name : Bs} : (∀ p ∈ l, p.1 ≠ name) → findF l name = none := by
  induction l with
  | nil => intro _; rfl
  | cons p l ih =>
    intro h
    rw [findF, if_neg (h p (by simp)), ih fun q hq => h q (by simp [hq])]
theorem findF_one {l : Ps} {name v : Bs} : (∃ p ∈ l, p.1 = name) → (∀ p ∈ l, p.1 = name → p.2 = v) → findF l name = some v := by
  induction l with
  | nil => rintro ⟨p, hp, _⟩; simp at hp
  | cons p l ih =>
    rintro ⟨q, hq, he⟩ h
    rw [findF]
    by_cases hp : p.1 = name
    · rw [if_pos hp, h p (by simp) hp]
    · rw [if_neg hp]
      rw [List.mem_cons] at hq
      rcases hq with rfl | hq
      · exact absurd he hp
      · exact ih ⟨q, hq, he⟩ fun r hr => h r (by simp [hr])

theorem nmK_dig {k : Nat} (h : k < 12) : nmK k = ((fileN ++ [42]) ++ digF k) ++ [42] := by
  have := numF_dig ⟨k, h⟩
  simp only at this
  unfold nmK
  rw [this]; simp
theorem nmK_not (k m : Nat) (h : k < 12) : nmK k ≠ (fileN ++ [42]) ++ digF m := by
  intro e
  rw [nmK_dig h, List.append_assoc] at e
  have e1 := List.append_cancel_left e
  have : (42 : UInt8) ∈ digF m := by rw [← e1]; simp
  exact digF_no42 m 42 this rfl
theorem nmK_inj {k m : Nat} (h : k < 12) (e : nmK k = ((fileN ++ [42]) ++ digF m) ++ [42]) : k = m := by
  rw [nmK_dig h] at e
  have e1 := List.append_cancel_right e
  have e2 := List.append_cancel_left e1
  rw [← valD_digF k, ← valD_digF m, e2]
theorem nmK_short (k : Nat) (h : k < 12) : nmK k ≠ fileN ∧ nmK k ≠ fileN ++ [42] := by
  constructor
  · intro e
    have := congrArg List.length e
    simp [nmK] at this
  · intro e
    have := congrArg List.length e
    have h2 : 1 ≤ (numF k).length := by unfold numF; split <;> simp
    simp only [nmK, List.length_append, List.length_singleton] at this
    omega

section
variable (vs : Bs) (hn : vs.length ≤ 12) (l : List (Nat × UInt8)) (hl : ∀ p ∈ l, ∃ h : p.1 < vs.length, p.2 = vs[p.1]) (hall : ∀ k, k < vs.length → ∃ p ∈ l, p.1 = k)
include hn hl hall
theorem join_at (k : Nat) (hk : k < vs.length) : joinS (l.map pairOf) fileN k = some [vs[k]] := by
  have h1 : findF (l.map pairOf) ((fileN ++ [42]) ++ digF k) = none := findF_none fun p hp => by
    obtain ⟨q, hq, rfl⟩ := List.mem_map.1 hp
    obtain ⟨hlt, _⟩ := hl q hq
    exact nmK_not q.1 k (by omega)
  have h2 : findF (l.map pairOf) (((fileN ++ [42]) ++ digF k) ++ [42]) = some (valK k vs[k]) := by
    refine findF_one ?_ ?_
    · obtain ⟨p, hp, rfl⟩ := hall k hk
      exact ⟨pairOf p, List.mem_map.2 ⟨p, hp, rfl⟩, nmK_dig (by omega)⟩
    · intro p hp he
      obtain ⟨q, hq, rfl⟩ := List.mem_map.1 hp
      obtain ⟨hlt, hv⟩ := hl q hq
      have := nmK_inj (show q.1 < 12 by omega) he
      subst this
      show valK q.1 q.2 = _
      rw [hv]
  have ho := pct_open ⟨vs[k].toNat, vs[k].toNat_lt⟩
  have hb := pct_bare ⟨vs[k].toNat, vs[k].toNat_lt⟩
  rw [byte_of] at ho hb
  unfold joinS
  rw [h1]; dsimp only; rw [h2]; dsimp only
  by_cases h0 : k = 0
  · subst h0; rw [if_pos rfl, hb, ho]
  · rw [if_neg h0]
    have : valK k vs[k] = pctF vs[k] := by unfold valK; rw [if_neg h0]
    rw [this, ho]
omit hall in
theorem join_end : joinS (l.map pairOf) fileN vs.length = none := by
  have h1 : findF (l.map pairOf) ((fileN ++ [42]) ++ digF vs.length) = none := findF_none fun p hp => by
    obtain ⟨q, hq, rfl⟩ := List.mem_map.1 hp
    obtain ⟨hlt, _⟩ := hl q hq
    exact nmK_not q.1 _ (by omega)
  have h2 : findF (l.map pairOf) (((fileN ++ [42]) ++ digF vs.length) ++ [42]) = none := findF_none fun p hp e => by
    obtain ⟨q, hq, rfl⟩ := List.mem_map.1 hp
    obtain ⟨hlt, _⟩ := hl q hq
    have := nmK_inj (show q.1 < 12 by omega) e
    omega
  unfold joinS
  rw [h1]; dsimp only; rw [h2]
theorem join_all : ∀ (f k : Nat), vs.length < k + f → k ≤ vs.length → joinL (l.map pairOf) fileN f k = vs.drop k
  | 0, k, h, hk => by omega
  | f + 1, k, h, hk => by
    rw [joinL]
    by_cases hlt : k < vs.length
    · rw [join_at vs hn l hl hall k hlt]
      dsimp only
      rw [join_all f (k + 1) (by omega) (by omega), drop_at hlt]; rfl
    · have : k = vs.length := by omega
      subst this
      rw [join_end vs hn l hl, List.drop_eq_nil_of_le (Nat.le_refl _)]
theorem told_pieces (h0 : 0 < vs.length) (hlen : vs.length ≤ l.length) : toldF (l.map pairOf) fileN = some vs := by
  have h1 : findF (l.map pairOf) fileN = none := findF_none fun p hp => by
    obtain ⟨q, hq, rfl⟩ := List.mem_map.1 hp
    obtain ⟨hlt, _⟩ := hl q hq
    exact (nmK_short q.1 (by omega)).1
  have h2 : findF (l.map pairOf) (fileN ++ [42]) = none := findF_none fun p hp => by
    obtain ⟨q, hq, rfl⟩ := List.mem_map.1 hp
    obtain ⟨hlt, _⟩ := hl q hq
    exact (nmK_short q.1 (by omega)).2
  unfold toldF
  rw [h1]; dsimp only; rw [h2]; dsimp only
  unfold joinF
  rw [join_at vs hn l hl hall 0 h0]
  simp only [Option.isSome_some, if_true]
  rw [join_all vs hn l hl hall _ 0 (by rw [List.length_map]; omega) (by omega)]
  rfl
end

theorem parP_seen (L : Ps) : ∀ (r : Ps), (∀ p ∈ r, baseF p.1 = fileN) → parP L [fileN] r = []
  | [], _ => rfl
  | p :: r, h => by
    rw [parP, if_pos (.inr (by rw [h p (by simp)]; simp))]
    exact parP_seen L r fun q hq => h q (by simp [hq])

def attachN : Bs := [97, 116, 116, 97, 99, 104, 109, 101, 110, 116]
theorem parse_pieces (vs : Bs) (hn : vs.length ≤ 12) (h0 : 0 < vs.length) (l : List (Nat × UInt8)) (hl : ∀ p ∈ l, ∃ h : p.1 < vs.length, p.2 = vs[p.1]) (hall : ∀ k, k < vs.length → ∃ p ∈ l, p.1 = k) (hlen : vs.length ≤ l.length) :
    parseF (attachN ++ piecesF l) false = some (attachN, [], [(fileN, vs)]) := by
  have h12 : ∀ p ∈ l, p.1 < 12 := fun p hp => by obtain ⟨h, _⟩ := hl p hp; omega
  have hs : skipF (attachN ++ piecesF l) = attachN ++ piecesF l := skipF_stop (by decide) (by decide)
  have ht : tokF (attachN ++ piecesF l) = (attachN, piecesF l) := by
    rcases pieces_head l with h | ⟨q, h⟩
    · rw [h, List.append_nil]; exact tokF_end (by decide +kernel)
    · rw [h]; exact tokF_app (by decide +kernel) (by decide +kernel)
  have hm : attachN.map low8 = attachN := by decide +kernel
  unfold parseF
  rw [hs, ht]
  dsimp only
  rw [if_neg (by decide), if_neg (by decide), hm, pairs_pieces l h12]
  have ht := told_pieces vs hn l hl hall h0 hlen
  cases l with
  | nil => exact absurd (show vs.length ≤ 0 from hlen) (by omega)
  | cons p l =>
    have hb := nm_base ⟨p.1, h12 p (by simp)⟩
    simp only at hb
    have hb' : baseF (pairOf p).1 = fileN := hb
    have key : ∀ L : Ps, toldF L fileN = some vs → parP L [] ((p :: l).map pairOf) = [(fileN, vs)] := by
      intro L hL
      rw [List.map_cons, parP, if_neg (by rw [hb']; decide), hb', hL]
      dsimp only
      rw [parP_seen L (l.map pairOf) fun q hq => by
        obtain ⟨r, hr, rfl⟩ := List.mem_map.1 hq
        exact nm_base ⟨r.1, h12 r (by simp [hr])⟩]
    rw [key _ ht]
end Go.Proofs.YtmhhcoccfojiiaaDoor
