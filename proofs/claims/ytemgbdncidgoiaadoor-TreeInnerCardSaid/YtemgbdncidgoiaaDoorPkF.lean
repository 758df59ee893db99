/- Lemmas for the claim, merged: the plain reading of the program's functions, its soundness, and what they compute. -/
import Derived.Test.YtemgbdncidgoiaaDoorPkE
import Derived.KernelRfl
import Derived.ChangeSlices
set_option linter.all false
set_option linter.unusedVariables false
set_option linter.unusedSimpArgs false
section
namespace Go.Proofs.YtemgbdncidgoiaaDoor
open Go.Ev Go
def mvN (m : Nat) (x : Ln) : Ln := (x.1 + m, x.2.1 + m, x.2.2 + m)
def mvD (m : Nat) (f : Fd) : Fd := (f.1, f.2.1 + m, f.2.2.1 + m, f.2.2.2 + m)
theorem linesG_mv (m : Nat) : ∀ (n a : Nat) (s : Bs), linesG n (a + m) s = (linesG n a s).map (mvN m)
  | 0, a, s => rfl
  | n + 1, a, s => by
    unfold linesG
    split
    · rfl
    · split
      · simp only [List.map_cons, List.map_nil, mvN, Nat.add_right_comm _ m]
      · have := linesG_mv m n (a + (Lib.indexByte s 10).toNat + 1) (s.drop ((Lib.indexByte s 10).toNat + 1))
        rw [List.map_cons, ← this]
        refine congr (congrArg List.cons ?_) (congrArg (fun x => linesG n x _) (by omega))
        simp only [mvN, Nat.add_right_comm _ m]
theorem subF_mv (F c : Bs) (x y : Nat) : subF (F ++ c) (x + F.length) (y + F.length) = subF c x y := by
  unfold subF
  rw [Nat.add_comm y, Nat.add_comm x, List.take_length_add_append, List.drop_length_add_append]
theorem subF_cut (c z : Bs) (x y : Nat) (h : y ≤ c.length) : subF (c ++ z) x y = subF c x y := by
  unfold subF
  rw [List.take_append_of_le_length h]
theorem linesOf_mv (F c : Bs) (fr to : Nat) : linesOf ((fr + F.length : Nat) : Int) ((to + F.length : Nat) : Int) (F ++ c) = (linesOf (fr : Nat) (to : Nat) c).map (mvN F.length) := by
  unfold linesOf
  have hs := subF_mv F c fr to
  unfold subF at hs
  by_cases h : fr ≤ to ∧ to ≤ c.length
  · have h1 : (0 : Int) ≤ (fr : Nat) ∧ ((fr : Nat) : Int) ≤ (to : Nat) ∧ ((to : Nat) : Int) ≤ (c.length : Nat) := by omega
    have h2 : (0 : Int) ≤ ((fr + F.length : Nat) : Int) ∧ ((fr + F.length : Nat) : Int) ≤ ((to + F.length : Nat) : Int) ∧ ((to + F.length : Nat) : Int) ≤ ((F ++ c).length : Nat) := by
      rw [List.length_append]; omega
    rw [if_pos h1, if_pos h2, Int.toNat_natCast, Int.toNat_natCast, Int.toNat_natCast, Int.toNat_natCast, hs]
    exact linesG_mv _ _ _ _
  · have h1 : ¬ ((0 : Int) ≤ (fr : Nat) ∧ ((fr : Nat) : Int) ≤ (to : Nat) ∧ ((to : Nat) : Int) ≤ (c.length : Nat)) := by omega
    have h2 : ¬ ((0 : Int) ≤ ((fr + F.length : Nat) : Int) ∧ ((fr + F.length : Nat) : Int) ≤ ((to + F.length : Nat) : Int) ∧ ((to + F.length : Nat) : Int) ≤ ((F ++ c).length : Nat)) := by
      rw [List.length_append]; omega
    rw [if_neg h1, if_neg h2]; rfl
theorem linesOf_cut (c z : Bs) (fr to : Nat) (h : to ≤ c.length) : linesOf (fr : Nat) (to : Nat) (c ++ z) = linesOf (fr : Nat) (to : Nat) c := by
  unfold linesOf
  have hs := subF_cut c z fr to h
  unfold subF at hs
  simp only [Int.toNat_natCast, hs]
  by_cases h1 : fr ≤ to
  · rw [if_pos (by rw [List.length_append]; omega), if_pos (by omega)]
  · rw [if_neg (by omega), if_neg (by omega)]
theorem lineT_mv (F c : Bs) (x : Ln) : lineT (F ++ c) (mvN F.length x) = lineT c x := by
  unfold lineT mvN
  simp only [List.length_append]
  by_cases h : x.1 ≤ x.2.1 ∧ x.2.1 ≤ c.length
  · rw [if_pos h, if_pos (by omega), subF_mv]
  · rw [if_neg h, if_neg (by omega)]
theorem lineT_cut (c z : Bs) (x : Ln) (h : x.2.1 ≤ c.length) : lineT (c ++ z) x = lineT c x := by
  unfold lineT
  simp only [List.length_append]
  by_cases h1 : x.1 ≤ x.2.1
  · rw [if_pos (show x.1 ≤ x.2.1 ∧ x.2.1 ≤ c.length + z.length from ⟨h1, by omega⟩), if_pos (show x.1 ≤ x.2.1 ∧ x.2.1 ≤ c.length from ⟨h1, h⟩), subF_cut c z _ _ h]
  · rw [if_neg (by omega), if_neg (by omega)]
theorem setTo_mv (m : Nat) (l : List Fd) (to : Nat) : setTo (l.map (mvD m)) (to + m) = (setTo l to).map (mvD m) := by
  unfold setTo
  rw [List.length_map, List.getElem?_map]
  cases l[l.length - 1]? with
  | none => rfl
  | some f => simp only [Option.map_some, List.map_set]; rfl
theorem stepH_mv (F c : Bs) (st : List Fd × Bool) (x : Ln) : stepH (F ++ c) (st.1.map (mvD F.length), st.2) (mvN F.length x) = ((stepH c st x).1.map (mvD F.length), (stepH c st x).2) := by
  unfold stepH
  rw [lineT_mv]
  by_cases hg : goesF (lineT c x) = true
  · simp only [hg, if_true]
    by_cases h2 : st.2 = true
    · simp only [h2, if_true]
      rw [← setTo_mv]; rfl
    · simp only [h2, Bool.false_eq_true, if_false]
  · simp only [hg, Bool.false_eq_true, if_false]
    cases namedF (lineT c x) with
    | none => rfl
    | some p =>
      simp only [List.map_append, List.map_cons, List.map_nil, mvD, mvN, Nat.add_right_comm _ F.length]
theorem foldH_mv (F c : Bs) : ∀ (l : List Ln) (st : List Fd × Bool), (l.map (mvN F.length)).foldl (stepH (F ++ c)) (st.1.map (mvD F.length), st.2) = ((l.foldl (stepH c) st).1.map (mvD F.length), (l.foldl (stepH c) st).2)
  | [], st => rfl
  | x :: r, st => by
    rw [List.map_cons, List.foldl_cons, List.foldl_cons, stepH_mv]
    exact foldH_mv F c r (stepH c st x)
theorem foldH_cut (c z : Bs) : ∀ (l : List Ln) (st : List Fd × Bool), (∀ x ∈ l, x.2.1 ≤ c.length) → l.foldl (stepH (c ++ z)) st = l.foldl (stepH c) st
  | [], st, _ => rfl
  | x :: r, st, h => by
    have e : stepH (c ++ z) st x = stepH c st x := by unfold stepH; rw [lineT_cut c z x (h x (by simp))]
    rw [List.foldl_cons, List.foldl_cons, e]
    exact foldH_cut c z r _ fun x hx => h x (by simp [hx])
theorem emptyF_mv (m : Nat) : ∀ l : List Ln, emptyF (l.map (mvN m)) = emptyF l
  | [] => rfl
  | x :: r => by
    rw [List.map_cons, emptyF, emptyF, emptyF_mv m r]
    by_cases h : x.1 = x.2.1
    · rw [if_pos h, if_pos (by simp only [mvN]; omega)]
    · rw [if_neg h, if_neg (by simp only [mvN]; omega)]
theorem getD_mv (m : Nat) (l : List Ln) (k : Nat) (h : k < l.length) : (l.map (mvN m)).getD k (0, 0, 0) = mvN m (l.getD k (0, 0, 0)) := by
  simp [List.getD, h]
theorem headF_mv (F c : Bs) (fr to : Nat) : headF (F ++ c) ((fr + F.length : Nat) : Int) ((to + F.length : Nat) : Int) = ((headF c (fr : Nat) (to : Nat)).1.map (mvD F.length), (headF c (fr : Nat) (to : Nat)).2 + (F.length : Nat)) := by
  unfold headF
  rw [linesOf_mv]
  generalize linesOf (fr : Nat) (to : Nat) c = l
  by_cases hl : l = []
  · subst hl
    simp
  · have hl' : ¬ (l.map (mvN F.length) = []) := by simpa using hl
    have hpos : 0 < l.length := List.length_pos_iff.2 hl
    rw [if_neg hl, if_neg hl', emptyF_mv]
    cases he : emptyF l with
    | some k =>
      have hk := emptyF_lt he
      have hf := foldH_mv F c (l.take k) ([], false)
      simp only [List.map_nil] at hf
      simp only [← List.map_take, hf, getD_mv _ _ _ hk]
      simp only [mvN, Prod.mk.injEq, true_and]; omega
    | none =>
      have hf := foldH_mv F c l ([], false)
      simp only [List.map_nil] at hf
      simp only [hf, List.length_map, getD_mv _ _ _ (show l.length - 1 < l.length by omega)]
      simp only [mvN, Prod.mk.injEq, true_and]; omega
theorem headF_cut (c z : Bs) (fr to : Nat) (h : to ≤ c.length) : headF (c ++ z) (fr : Nat) (to : Nat) = headF c (fr : Nat) (to : Nat) := by
  unfold headF
  rw [linesOf_cut c z fr to h]
  have hb : ∀ x ∈ linesOf (fr : Nat) (to : Nat) c, x.2.1 ≤ c.length := fun x hx => by have := linesOf_bounds x hx; omega
  generalize linesOf (fr : Nat) (to : Nat) c = l at hb
  rw [foldH_cut c z l _ hb]
  split
  · rfl
  · split
    · rename_i k hk
      rw [foldH_cut c z (l.take k) _ fun x hx => hb x (List.mem_of_mem_take hx)]
    · rfl
theorem setTo_in {m : Nat} {l : List Fd} {to : Nat} (h : ∀ f ∈ l, f.2.2.2 ≤ m) (ht : to ≤ m) : ∀ f ∈ setTo l to, f.2.2.2 ≤ m := by
  intro f hf
  unfold setTo at hf
  split at hf
  · rename_i g hg
    rcases List.mem_or_eq_of_mem_set hf with hf | rfl
    · exact h f hf
    · exact ht
  · exact h f hf
theorem stepH_in {m : Nat} {b : Bs} {st : List Fd × Bool} {x : Ln} (h : ∀ f ∈ st.1, f.2.2.2 ≤ m) (hx : x.2.2 ≤ m) : ∀ f ∈ (stepH b st x).1, f.2.2.2 ≤ m := by
  unfold stepH
  split
  · split
    · exact setTo_in h hx
    · exact h
  · split
    · exact h
    · intro f hf
      rw [List.mem_append] at hf
      rcases hf with hf | hf
      · exact h f hf
      · simp at hf; subst hf; exact hx
theorem foldH_in {m : Nat} {b : Bs} : ∀ (l : List Ln) (st : List Fd × Bool), (∀ f ∈ st.1, f.2.2.2 ≤ m) → (∀ x ∈ l, x.2.2 ≤ m) → ∀ f ∈ (l.foldl (stepH b) st).1, f.2.2.2 ≤ m
  | [], st, h, _ => h
  | x :: r, st, h, hx => foldH_in r _ (stepH_in h (hx x (by simp))) fun y hy => hx y (by simp [hy])
theorem headF_in (b : Bs) (fr to : Nat) : ∀ f ∈ (headF b (fr : Nat) (to : Nat)).1, f.2.2.2 ≤ b.length := by
  have hb : ∀ x ∈ linesOf (fr : Nat) (to : Nat) b, x.2.2 ≤ b.length := fun x hx => (linesOf_bounds x hx).2.2
  unfold headF
  split
  · simp
  · split
    · exact foldH_in _ _ (by simp) fun x hx => hb x (List.mem_of_mem_take hx)
    · exact foldH_in _ _ (by simp) hb
theorem headF_end (b : Bs) (fr to : Nat) : (headF b (fr : Nat) (to : Nat)).2.toNat ≤ max fr b.length := by
  have hb : ∀ x ∈ linesOf (fr : Nat) (to : Nat) b, x.2.2 ≤ b.length := fun x hx => (linesOf_bounds x hx).2.2
  generalize hl : linesOf (fr : Nat) (to : Nat) b = l at hb
  have hd : ∀ k, (l.getD k (0, 0, 0)).2.2 ≤ b.length := fun k => by
    by_cases hk : k < l.length
    · have : l.getD k (0, 0, 0) = l[k] := by simp [List.getD, hk]
      rw [this]; exact hb _ (List.getElem_mem hk)
    · have : l.getD k (0, 0, 0) = (0, 0, 0) := by simp [List.getD, Nat.le_of_not_lt hk]
      rw [this]; simp
  unfold headF
  rw [hl]
  split
  · simp; omega
  · split
    · rename_i k hk
      have := hd k; simp only [Int.toNat_natCast]; omega
    · have := hd (l.length - 1); simp only [Int.toNat_natCast]; omega
theorem bodyF_mv (F c : Bs) (f : Fd) : bodyF (F ++ c) (mvD F.length f) = bodyF c f := by
  unfold bodyF mvD
  simp only [linesOf_mv]
  rw [List.flatMap_map]
  simp only [lineT_mv]
theorem bodyF_cut (c z : Bs) (f : Fd) (h : f.2.2.2 ≤ c.length) : bodyF (c ++ z) f = bodyF c f := by
  unfold bodyF
  rw [linesOf_cut c z _ _ h]
  congr 1
  have hb : ∀ x ∈ linesOf (f.2.2.1 : Nat) (f.2.2.2 : Nat) c, x.2.1 ≤ c.length := fun x hx => by have := linesOf_bounds x hx; omega
  generalize linesOf (f.2.2.1 : Nat) (f.2.2.2 : Nat) c = l at hb
  induction l with
  | nil => rfl
  | cons x r ih => rw [List.flatMap_cons, List.flatMap_cons, lineT_cut c z x (hb x (by simp)), ih fun y hy => hb y (by simp [hy])]
theorem findFd_mv (m : Nat) (name : Bs) : ∀ l : List Fd, findFd (l.map (mvD m)) name = (findFd l name).map (mvD m)
  | [] => rfl
  | f :: r => by
    rw [List.map_cons, findFd, findFd, findFd_mv m name r]
    show (if low f.1 = low name then _ else _) = _
    split <;> rfl
theorem findFd_mem {name : Bs} : ∀ {l : List Fd} {f : Fd}, findFd l name = some f → f ∈ l
  | g :: r, f, h => by
    unfold findFd at h
    split at h
    · cases h; simp
    · have := findFd_mem h; simp [this]
theorem valueF_mv (F c : Bs) (l : List Fd) (name : Bs) : valueF (F ++ c) (l.map (mvD F.length)) name = valueF c l name := by
  unfold valueF
  rw [findFd_mv]
  cases findFd l name with
  | none => rfl
  | some f => exact bodyF_mv F c f
theorem valueF_cut (c z : Bs) (l : List Fd) (name : Bs) (h : ∀ f ∈ l, f.2.2.2 ≤ c.length) : valueF (c ++ z) l name = valueF c l name := by
  unfold valueF
  cases hf : findFd l name with
  | none => rfl
  | some f => exact bodyF_cut c z f (h f (findFd_mem hf))
theorem kindF_mv (F c : Bs) (l : List Fd) (dg : Bool) : kindF (F ++ c) (l.map (mvD F.length)) dg = kindF c l dg := by
  unfold kindF; rw [valueF_mv]
theorem kindF_cut (c z : Bs) (l : List Fd) (dg : Bool) (h : ∀ f ∈ l, f.2.2.2 ≤ c.length) : kindF (c ++ z) l dg = kindF c l dg := by
  unfold kindF; rw [valueF_cut c z l _ h]
theorem noneF_mv (F c : Bs) (l : List Fd) : noneF (F ++ c) (l.map (mvD F.length)) = noneF c l := by
  unfold noneF
  rw [findFd_mv]
  cases findFd l cteB with
  | none => rfl
  | some f => simp only [Option.map_some, bodyF_mv]
theorem noneF_cut (c z : Bs) (l : List Fd) (h : ∀ f ∈ l, f.2.2.2 ≤ c.length) : noneF (c ++ z) l = noneF c l := by
  unfold noneF
  cases hf : findFd l cteB with
  | none => rfl
  | some f => simp only [bodyF_cut c z f (h f (findFd_mem hf))]
theorem cutsG_mv (F c bd : Bs) : ∀ (l : List Ln) (out : List (Nat × Nat)) (fr : Nat),
    cutsG (F ++ c) bd (l.map (mvN F.length)) (out.map (mvS F.length)) (fr + F.length) = ((cutsG c bd l out fr).1.map (mvS F.length), (cutsG c bd l out fr).2.map (mvS F.length))
  | [], out, fr => rfl
  | x :: r, out, fr => by
    rw [List.map_cons, cutsG, cutsG, lineT_mv]
    split
    · exact cutsG_mv F c bd r out x.2.1
    · split
      · rfl
      · have := cutsG_mv F c bd r (out ++ [(fr, x.2.2)]) x.2.2
        rw [List.map_append] at this
        exact this
theorem cutsG_cut (c z bd : Bs) : ∀ (l : List Ln) (out : List (Nat × Nat)) (fr : Nat), (∀ x ∈ l, x.2.1 ≤ c.length) → cutsG (c ++ z) bd l out fr = cutsG c bd l out fr
  | [], out, fr, _ => rfl
  | x :: r, out, fr, h => by
    have hr : ∀ y ∈ r, y.2.1 ≤ c.length := fun y hy => h y (by simp [hy])
    rw [cutsG, cutsG, lineT_cut c z x (h x (by simp)), cutsG_cut c z bd r out _ hr, cutsG_cut c z bd r _ _ hr]
theorem cutsF_mv (F c : Bs) (fr to : Nat) (bd : Bs) : cutsF (F ++ c) (fr + F.length) (to + F.length) bd = ((cutsF c fr to bd).1.map (mvS F.length), mvS F.length (cutsF c fr to bd).2) := by
  unfold cutsF
  rw [linesOf_mv]
  have := cutsG_mv F c bd (linesOf (fr : Nat) (to : Nat) c) [] fr
  rw [List.map_nil] at this
  rw [this]
  simp only [Prod.mk.injEq, true_and]
  cases (cutsG c bd (linesOf (fr : Nat) (to : Nat) c) [] fr).2 <;> rfl
theorem cutsF_cut (c z : Bs) (fr to : Nat) (bd : Bs) (h : to ≤ c.length) : cutsF (c ++ z) fr to bd = cutsF c fr to bd := by
  unfold cutsF
  rw [linesOf_cut c z fr to h, cutsG_cut c z bd _ _ _ fun x hx => by have := linesOf_bounds x hx; omega]
theorem cutsG_in {m : Nat} (b bd : Bs) : ∀ (l : List Ln) (out : List (Nat × Nat)) (fr : Nat), (∀ x ∈ l, x.2.1 ≤ m ∧ x.2.2 ≤ m) → fr ≤ m → (∀ c ∈ out, c.1 ≤ m ∧ c.2 ≤ m) →
    (∀ c ∈ (cutsG b bd l out fr).1, c.1 ≤ m ∧ c.2 ≤ m) ∧ ∀ c, (cutsG b bd l out fr).2 = some c → c.1 ≤ m ∧ c.2 ≤ m
  | [], out, fr, _, _, ho => ⟨ho, by simp [cutsG]⟩
  | x :: r, out, fr, hl, hf, ho => by
    obtain ⟨h1, h2⟩ := hl x (by simp)
    have hr : ∀ y ∈ r, y.2.1 ≤ m ∧ y.2.2 ≤ m := fun y hy => hl y (by simp [hy])
    rw [cutsG]
    split
    · exact cutsG_in b bd r out _ hr h1 ho
    · split
      · exact ⟨ho, fun c hc => by cases hc; exact ⟨hf, h2⟩⟩
      · refine cutsG_in b bd r _ _ hr h2 fun c hc => ?_
        rw [List.mem_append] at hc
        rcases hc with hc | hc
        · exact ho c hc
        · simp at hc; subst hc; exact ⟨hf, h2⟩
theorem cutsF_in {m : Nat} (b : Bs) (fr to : Nat) (bd : Bs) (hb : b.length ≤ m) (hf : fr ≤ m) (ht : to ≤ m) : (∀ c ∈ (cutsF b fr to bd).1, c.1 ≤ m ∧ c.2 ≤ m) ∧ (cutsF b fr to bd).2.1 ≤ m ∧ (cutsF b fr to bd).2.2 ≤ m := by
  obtain ⟨h1, h2⟩ := cutsG_in (m := m) b bd (linesOf (fr : Nat) (to : Nat) b) [] fr (fun x hx => by have := linesOf_bounds x hx; omega) hf (by simp)
  unfold cutsF
  refine ⟨h1, ?_⟩
  simp only
  cases h3 : (cutsG b bd (linesOf (fr : Nat) (to : Nat) b) [] fr).2 with
  | none => exact ⟨ht, ht⟩
  | some c => exact h2 c h3
end Go.Proofs.YtemgbdncidgoiaaDoor
end
section
namespace Go.Proofs.YtemgbdncidgoiaaDoor
open Go.Ev Go
theorem entF_s (b : Bs) (d fr to : Nat) (dg : Bool) (n : Nat) {at_ : Nat} {l : List Fd} {t u : Bs} {ps : Ps} {bd : Bs} {cs : List (Nat × Nat)} {e : Nat × Nat}
    (h1 : (headF b (fr : Nat) (to : Nat)).1 = l) (h2 : (headF b (fr : Nat) (to : Nat)).2.toNat = at_) (h3 : kindF b l dg = (t, u, ps)) (h4 : (getF ps bdB).getD [] = bd) (h5 : cutsF b at_ to bd = (cs, e)) :
    entF b (d + 1) fr to dg n = if t = mpB ∧ bd ≠ [] ∧ bd.length ≤ 70 then
      if 0 < cs.length ∧ n + cs.length ≤ 1000 then
        (Pt.mk 1 (fr, at_) (at_, to) (kidsF (fun fr to n => entF b d fr to (u == dgB) n) e.1 cs (n + cs.length)).1 cs e, (kidsF (fun fr to n => entF b d fr to (u == dgB) n) e.1 cs (n + cs.length)).2)
      else (leafP fr at_ to, n)
    else if t = msgB ∧ u = rfcB ∧ noneF b l = true ∧ n < 1000 then (Pt.mk 2 (fr, at_) (at_, to) [(entF b d at_ to false (n + 1)).1] [] (0, 0), (entF b d at_ to false (n + 1)).2)
    else (leafP fr at_ to, n) := by
  rw [entF]
  simp only [h1, h2, h3, h4, h5]
theorem headF_mv1 (F c : Bs) (fr to : Nat) : (headF (F ++ c) ((fr + F.length : Nat) : Int) ((to + F.length : Nat) : Int)).1 = (headF c (fr : Nat) (to : Nat)).1.map (mvD F.length) := by rw [headF_mv]
theorem headF_mv2 (F c : Bs) (fr to : Nat) : (headF (F ++ c) ((fr + F.length : Nat) : Int) ((to + F.length : Nat) : Int)).2.toNat = (headF c (fr : Nat) (to : Nat)).2.toNat + F.length := by
  have := headF_at c fr to
  rw [headF_mv]; simp only; omega
theorem nextF_mv (m fin : Nat) (r : List (Nat × Nat)) : nextF (fin + m) (r.map (mvS m)) = nextF fin r + m := by cases r <;> rfl
theorem mvF_leaf (m fr at_ to : Nat) : mvF m (leafP fr at_ to) = leafP (fr + m) (at_ + m) (to + m) := by unfold leafP; rw [mvF, mvL]; rfl
theorem kidsF_mv (m : Nat) (ent ent' : Nat → Nat → Nat → Pt × Nat) (h : ∀ fr to n, ent' (fr + m) (to + m) n = (mvF m (ent fr to n).1, (ent fr to n).2)) (fin : Nat) : ∀ (cs : List (Nat × Nat)) (n : Nat),
    kidsF ent' (fin + m) (cs.map (mvS m)) n = (mvL m (kidsF ent fin cs n).1, (kidsF ent fin cs n).2)
  | [], n => by simp only [List.map_nil, kidsF, mvL]
  | c :: r, n => by
    have hx : max (nextF (fin + m) (r.map (mvS m))) (mvS m c).2 = max (nextF fin r) c.2 + m := by rw [nextF_mv]; simp only [mvS]; omega
    have hc : (mvS m c).2 = c.2 + m := rfl
    rw [List.map_cons, kidsF, kidsF, hx, hc, h, kidsF_mv m ent ent' h fin r, mvL]
theorem entF_mv (F c : Bs) : ∀ (d fr to : Nat) (dg : Bool) (n : Nat), entF (F ++ c) d (fr + F.length) (to + F.length) dg n = (mvF F.length (entF c d fr to dg n).1, (entF c d fr to dg n).2)
  | 0, fr, to, dg, n => by
    rw [entF, entF, headF_mv2, mvF_leaf]
  | d + 1, fr, to, dg, n => by
    generalize h1 : (headF c (fr : Nat) (to : Nat)).1 = l
    generalize h2 : (headF c (fr : Nat) (to : Nat)).2.toNat = at_
    obtain ⟨t, u, ps, h3⟩ : ∃ t u ps, kindF c l dg = (t, u, ps) := ⟨_, _, _, rfl⟩
    generalize h4 : (getF ps bdB).getD [] = bd
    obtain ⟨cs, e, h5⟩ : ∃ cs e, cutsF c at_ to bd = (cs, e) := ⟨_, _, rfl⟩
    have g1 : (headF (F ++ c) ((fr + F.length : Nat) : Int) ((to + F.length : Nat) : Int)).1 = l.map (mvD F.length) := by rw [headF_mv1, h1]
    have g2 : (headF (F ++ c) ((fr + F.length : Nat) : Int) ((to + F.length : Nat) : Int)).2.toNat = at_ + F.length := by rw [headF_mv2, h2]
    rw [entF_s c d fr to dg n h1 h2 h3 h4 h5, entF_s (F ++ c) d (fr + F.length) (to + F.length) dg n g1 g2 ((kindF_mv F c l dg).trans h3) h4 ((cutsF_mv F c at_ to bd).trans (by rw [h5])), noneF_mv, List.length_map]
    split
    · split
      · rw [show (mvS F.length e).1 = e.1 + F.length from rfl, kidsF_mv F.length (fun fr to n => entF c d fr to (u == dgB) n) _ (fun fr to n => entF_mv F c d fr to _ n)]
        simp only [mvF, if_true, mvS]
      · simp only [mvF_leaf]
    · split
      · rw [entF_mv F c d]
        simp only [mvF, mvL, mvS, List.map_nil]; rfl
      · simp only [mvF_leaf]
theorem kidsF_cong (m : Nat) (ent ent' : Nat → Nat → Nat → Pt × Nat) (h : ∀ fr to n, fr ≤ m → to ≤ m → ent' fr to n = ent fr to n) (fin : Nat) (hf : fin ≤ m) : ∀ (cs : List (Nat × Nat)) (n : Nat), (∀ c ∈ cs, c.1 ≤ m ∧ c.2 ≤ m) →
    kidsF ent' fin cs n = kidsF ent fin cs n
  | [], n, _ => rfl
  | c :: r, n, hc => by
    obtain ⟨h1, h2⟩ := hc c (by simp)
    have hr : ∀ x ∈ r, x.1 ≤ m ∧ x.2 ≤ m := fun x hx => hc x (by simp [hx])
    have hx : max (nextF fin r) c.2 ≤ m := by
      cases r with
      | nil => simp only [nextF]; omega
      | cons x r => have := hr x (by simp); simp only [nextF]; omega
    rw [kidsF, kidsF, h _ _ _ h2 hx, kidsF_cong m ent ent' h fin hf r _ hr]
theorem entF_cut (c z : Bs) : ∀ (d fr to : Nat) (dg : Bool) (n : Nat), fr ≤ c.length → to ≤ c.length → entF (c ++ z) d fr to dg n = entF c d fr to dg n
  | 0, fr, to, dg, n, hf, ht => by
    rw [entF, entF, headF_cut c z fr to ht]
  | d + 1, fr, to, dg, n, hf, ht => by
    generalize h1 : (headF c (fr : Nat) (to : Nat)).1 = l
    generalize h2 : (headF c (fr : Nat) (to : Nat)).2.toNat = at_
    have hl : ∀ f ∈ l, f.2.2.2 ≤ c.length := by rw [← h1]; exact headF_in c fr to
    have hat : at_ ≤ c.length := by rw [← h2]; have := headF_end c fr to; omega
    obtain ⟨t, u, ps, h3⟩ : ∃ t u ps, kindF c l dg = (t, u, ps) := ⟨_, _, _, rfl⟩
    generalize h4 : (getF ps bdB).getD [] = bd
    obtain ⟨cs, e, h5⟩ : ∃ cs e, cutsF c at_ to bd = (cs, e) := ⟨_, _, rfl⟩
    obtain ⟨q1, q2, q3⟩ := cutsF_in (m := c.length) c at_ to bd (Nat.le_refl _) hat ht
    rw [h5] at q1 q2 q3
    rw [entF_s c d fr to dg n h1 h2 h3 h4 h5, entF_s (c ++ z) d fr to dg n (by rw [headF_cut c z fr to ht]; exact h1) (by rw [headF_cut c z fr to ht]; exact h2) ((kindF_cut c z l dg hl).trans h3) h4 ((cutsF_cut c z at_ to bd ht).trans h5), noneF_cut c z l hl]
    rw [kidsF_cong c.length (fun fr to n => entF c d fr to (u == dgB) n) (fun fr to n => entF (c ++ z) d fr to (u == dgB) n) (fun fr to n hf ht => entF_cut c z d fr to _ n hf ht) e.1 q2 cs _ q1, entF_cut c z d at_ to _ _ hat ht]
theorem kidsF_cnt (ent : Nat → Nat → Nat → Pt × Nat) (h : ∀ fr to n, (ent fr to n).2 + 1 = n + cntF (ent fr to n).1) (fin : Nat) : ∀ (cs : List (Nat × Nat)) (n : Nat), (kidsF ent fin cs n).2 + cs.length = n + cntL (kidsF ent fin cs n).1
  | [], n => by simp [kidsF, cntL]
  | c :: r, n => by
    have h1 := h c.2 (max (nextF fin r) c.2) n
    have h2 := kidsF_cnt ent h fin r (ent c.2 (max (nextF fin r) c.2) n).2
    rw [kidsF, cntL, List.length_cons]
    simp only
    omega
theorem entF_cnt (b : Bs) : ∀ (d fr to : Nat) (dg : Bool) (n : Nat), (entF b d fr to dg n).2 + 1 = n + cntF (entF b d fr to dg n).1
  | 0, fr, to, dg, n => by rw [entF]; simp only [leafP, cntF, cntL]
  | d + 1, fr, to, dg, n => by
    generalize h1 : (headF b (fr : Nat) (to : Nat)).1 = l
    generalize h2 : (headF b (fr : Nat) (to : Nat)).2.toNat = at_
    obtain ⟨t, u, ps, h3⟩ : ∃ t u ps, kindF b l dg = (t, u, ps) := ⟨_, _, _, rfl⟩
    generalize h4 : (getF ps bdB).getD [] = bd
    obtain ⟨cs, e, h5⟩ : ∃ cs e, cutsF b at_ to bd = (cs, e) := ⟨_, _, rfl⟩
    rw [entF_s b d fr to dg n h1 h2 h3 h4 h5]
    split
    · split
      · have := kidsF_cnt (fun fr to n => entF b d fr to (u == dgB) n) (fun fr to n => entF_cnt b d fr to _ n) e.1 cs (n + cs.length)
        rw [cntF]
        simp only
        omega
      · simp only [leafP, cntF, cntL]
    · split
      · have := entF_cnt b d at_ to false (n + 1)
        simp only [cntF, cntL]
        omega
      · simp only [leafP, cntF, cntL]
theorem entF_mono (b : Bs) (d fr to : Nat) (dg : Bool) (n : Nat) : n ≤ (entF b d fr to dg n).2 := by
  have h1 := entF_cnt b d fr to dg n
  have h2 := cntF_pos (entF b d fr to dg n).1
  omega
theorem kidsF_mono (ent : Nat → Nat → Nat → Pt × Nat) (h : ∀ fr to n, n ≤ (ent fr to n).2) (fin : Nat) : ∀ (cs : List (Nat × Nat)) (n : Nat), n ≤ (kidsF ent fin cs n).2
  | [], n => Nat.le_refl _
  | c :: r, n => by
    rw [kidsF]
    exact Nat.le_trans (h _ _ _) (kidsF_mono ent h fin r _)
theorem kidsF_pos (m : Nat) (ent : Nat → Nat → Nat → Pt × Nat) (h : ∀ fr to n, fr ≤ m → to ≤ m → PosOk m (ent fr to n).1) (fin : Nat) (hf : fin ≤ m) : ∀ (cs : List (Nat × Nat)) (n : Nat), (∀ c ∈ cs, c.1 ≤ m ∧ c.2 ≤ m) →
    PosOkL m (kidsF ent fin cs n).1
  | [], n, _ => by rw [kidsF, PosOkL]; trivial
  | c :: r, n, hc => by
    obtain ⟨h1, h2⟩ := hc c (by simp)
    have hr : ∀ x ∈ r, x.1 ≤ m ∧ x.2 ≤ m := fun x hx => hc x (by simp [hx])
    have hx : max (nextF fin r) c.2 ≤ m := by
      cases r with
      | nil => simp only [nextF]; omega
      | cons x r => have := hr x (by simp); simp only [nextF]; omega
    rw [kidsF, PosOkL]
    exact ⟨h _ _ _ h2 hx, kidsF_pos m ent h fin hf r _ hr⟩
theorem leaf_pos {m fr at_ to : Nat} (h1 : fr ≤ m) (h2 : at_ ≤ m) (h3 : to ≤ m) : PosOk m (leafP fr at_ to) := by
  rw [leafP, PosOk, PosOkL]
  exact ⟨h1, h2, h2, h3, by simp, by simp, by simp, by simp, trivial⟩
theorem entF_pos (m : Nat) (b : Bs) (hb : b.length ≤ m) : ∀ (d fr to : Nat) (dg : Bool) (n : Nat), fr ≤ m → to ≤ m → PosOk m (entF b d fr to dg n).1
  | 0, fr, to, dg, n, hf, ht => by
    have := headF_end b fr to
    rw [entF]
    exact leaf_pos hf (by omega) ht
  | d + 1, fr, to, dg, n, hf, ht => by
    generalize h1 : (headF b (fr : Nat) (to : Nat)).1 = l
    generalize h2 : (headF b (fr : Nat) (to : Nat)).2.toNat = at_
    have hat : at_ ≤ m := by rw [← h2]; have := headF_end b fr to; omega
    obtain ⟨t, u, ps, h3⟩ : ∃ t u ps, kindF b l dg = (t, u, ps) := ⟨_, _, _, rfl⟩
    generalize h4 : (getF ps bdB).getD [] = bd
    obtain ⟨cs, e, h5⟩ : ∃ cs e, cutsF b at_ to bd = (cs, e) := ⟨_, _, rfl⟩
    obtain ⟨q1, q2, q3⟩ := cutsF_in (m := m) b at_ to bd hb hat ht
    have q4 := cutsF_length b at_ to bd
    rw [h5] at q1 q2 q3 q4
    rw [entF_s b d fr to dg n h1 h2 h3 h4 h5]
    split
    · split
      · rw [PosOk]
        exact ⟨hf, hat, hat, ht, q1, Nat.le_trans q4 hb, q2, q3, kidsF_pos m _ (fun fr to n hf ht => entF_pos m b hb d fr to _ n hf ht) _ q2 _ _ q1⟩
      · exact leaf_pos hf hat ht
    · split
      · rw [PosOk, PosOkL, PosOkL]
        exact ⟨hf, hat, hat, ht, by simp, by simp, by simp, by simp, entF_pos m b hb d at_ to _ _ hat ht, trivial⟩
      · exact leaf_pos hf hat ht
theorem kidsF_in (m d : Nat) (ent ent' : Nat → Nat → Nat → Pt × Nat) (hm : ∀ fr to n, n ≤ (ent fr to n).2)
    (h : ∀ fr to n, dpF (ent fr to n).1 ≤ d → (ent fr to n).2 ≤ 999 → ent' (fr + m) (to + m) (n + 1) = (mvF m (ent fr to n).1, (ent fr to n).2 + 1)) (fin : Nat) : ∀ (cs : List (Nat × Nat)) (n : Nat),
    dpL (kidsF ent fin cs n).1 ≤ d + 1 → (kidsF ent fin cs n).2 ≤ 999 → kidsF ent' (fin + m) (cs.map (mvS m)) (n + 1) = (mvL m (kidsF ent fin cs n).1, (kidsF ent fin cs n).2 + 1)
  | [], n, _, _ => by simp only [List.map_nil, kidsF, mvL]
  | c :: r, n, h1, h2 => by
    have hx : max (nextF (fin + m) (r.map (mvS m))) (mvS m c).2 = max (nextF fin r) c.2 + m := by rw [nextF_mv]; simp only [mvS]; omega
    have hc : (mvS m c).2 = c.2 + m := rfl
    rw [kidsF, dpL] at h1
    rw [kidsF] at h2
    simp only at h1 h2
    have h3 := kidsF_mono ent hm fin r (ent c.2 (max (nextF fin r) c.2) n).2
    rw [List.map_cons, kidsF, kidsF, hx, hc, h _ _ _ (by omega) (by omega), kidsF_in m d ent ent' hm h fin r _ (by omega) h2, mvL]
theorem entI (F c : Bs) : ∀ (d fr to : Nat) (dg : Bool) (n : Nat), dpF (entF c (d + 2) fr to dg n).1 ≤ d → (entF c (d + 2) fr to dg n).2 ≤ 999 →
    entF (F ++ c) (d + 1) (fr + F.length) (to + F.length) dg (n + 1) = (mvF F.length (entF c (d + 2) fr to dg n).1, (entF c (d + 2) fr to dg n).2 + 1) := by
  intro d
  induction d with
  | zero =>
    intro fr to dg n k1 k2
    generalize h1 : (headF c (fr : Nat) (to : Nat)).1 = l
    generalize h2 : (headF c (fr : Nat) (to : Nat)).2.toNat = at_
    obtain ⟨t, u, ps, h3⟩ : ∃ t u ps, kindF c l dg = (t, u, ps) := ⟨_, _, _, rfl⟩
    generalize h4 : (getF ps bdB).getD [] = bd
    obtain ⟨cs, e, h5⟩ : ∃ cs e, cutsF c at_ to bd = (cs, e) := ⟨_, _, rfl⟩
    have g1 : (headF (F ++ c) ((fr + F.length : Nat) : Int) ((to + F.length : Nat) : Int)).1 = l.map (mvD F.length) := by rw [headF_mv1, h1]
    have g2 : (headF (F ++ c) ((fr + F.length : Nat) : Int) ((to + F.length : Nat) : Int)).2.toNat = at_ + F.length := by rw [headF_mv2, h2]
    rw [entF_s c 1 fr to dg n h1 h2 h3 h4 h5] at k1 k2 ⊢
    rw [entF_s (F ++ c) 0 (fr + F.length) (to + F.length) dg (n + 1) g1 g2 ((kindF_mv F c l dg).trans h3) h4 ((cutsF_mv F c at_ to bd).trans (by rw [h5])), noneF_mv, List.length_map]
    by_cases hc : t = mpB ∧ bd ≠ [] ∧ bd.length ≤ 70
    · rw [if_pos hc] at k1 k2 ⊢
      rw [if_pos hc]
      by_cases hc2 : 0 < cs.length ∧ n + cs.length ≤ 1000
      · exfalso
        rw [if_pos hc2, dpF] at k1
        have hl := kidsF_length (fun fr to n => entF c 1 fr to (u == dgB) n) e.1 cs (n + cs.length)
        cases hk : (kidsF (fun fr to n => entF c 1 fr to (u == dgB) n) e.1 cs (n + cs.length)).1 with
        | nil => rw [hk] at hl; simp at hl; omega
        | cons p r => rw [hk, dpL] at k1; omega
      · rw [if_neg hc2, if_neg (fun h : 0 < cs.length ∧ n + 1 + cs.length ≤ 1000 => hc2 ⟨h.1, by omega⟩)]; simp only [mvF_leaf]
    · rw [if_neg hc] at k1 k2 ⊢
      rw [if_neg hc]
      by_cases hc2 : t = msgB ∧ u = rfcB ∧ noneF c l = true ∧ n < 1000
      · exfalso
        rw [if_pos hc2, dpF, dpL] at k1; omega
      · rw [if_neg hc2] at k2
        simp only at k2
        rw [if_neg hc2, if_neg (fun h => hc2 ⟨h.1, h.2.1, h.2.2.1, by omega⟩)]; simp only [mvF_leaf]
  | succ d ih =>
    intro fr to dg n k1 k2
    generalize h1 : (headF c (fr : Nat) (to : Nat)).1 = l
    generalize h2 : (headF c (fr : Nat) (to : Nat)).2.toNat = at_
    obtain ⟨t, u, ps, h3⟩ : ∃ t u ps, kindF c l dg = (t, u, ps) := ⟨_, _, _, rfl⟩
    generalize h4 : (getF ps bdB).getD [] = bd
    obtain ⟨cs, e, h5⟩ : ∃ cs e, cutsF c at_ to bd = (cs, e) := ⟨_, _, rfl⟩
    have g1 : (headF (F ++ c) ((fr + F.length : Nat) : Int) ((to + F.length : Nat) : Int)).1 = l.map (mvD F.length) := by rw [headF_mv1, h1]
    have g2 : (headF (F ++ c) ((fr + F.length : Nat) : Int) ((to + F.length : Nat) : Int)).2.toNat = at_ + F.length := by rw [headF_mv2, h2]
    rw [entF_s c (d + 2) fr to dg n h1 h2 h3 h4 h5] at k1 k2 ⊢
    rw [entF_s (F ++ c) (d + 1) (fr + F.length) (to + F.length) dg (n + 1) g1 g2 ((kindF_mv F c l dg).trans h3) h4 ((cutsF_mv F c at_ to bd).trans (by rw [h5])), noneF_mv, List.length_map]
    by_cases hc : t = mpB ∧ bd ≠ [] ∧ bd.length ≤ 70
    · rw [if_pos hc] at k1 k2 ⊢
      rw [if_pos hc]
      by_cases hc2 : 0 < cs.length ∧ n + cs.length ≤ 1000
      · rw [if_pos hc2] at k1 k2 ⊢
        rw [dpF] at k1
        simp only at k2
        have hmo := kidsF_mono (fun fr to n => entF c (d + 2) fr to (u == dgB) n) (fun fr to n => entF_mono c (d + 2) fr to _ n) e.1 cs (n + cs.length)
        rw [if_pos (show 0 < cs.length ∧ n + 1 + cs.length ≤ 1000 from ⟨hc2.1, by omega⟩), show n + 1 + cs.length = n + cs.length + 1 by omega, show (mvS F.length e).1 = e.1 + F.length from rfl,
          kidsF_in F.length d (fun fr to n => entF c (d + 2) fr to (u == dgB) n) _ (fun fr to n => entF_mono c (d + 2) fr to _ n) (fun fr to n => ih fr to _ n) e.1 cs _ k1 k2]
        simp only [mvF, if_true, mvS]
      · rw [if_neg hc2, if_neg (fun h : 0 < cs.length ∧ n + 1 + cs.length ≤ 1000 => hc2 ⟨h.1, by omega⟩)]; simp only [mvF_leaf]
    · rw [if_neg hc] at k1 k2 ⊢
      rw [if_neg hc]
      by_cases hc2 : t = msgB ∧ u = rfcB ∧ noneF c l = true ∧ n < 1000
      · rw [if_pos hc2] at k1 k2 ⊢
        rw [dpF, dpL, dpL] at k1
        simp only at k2
        have hmo := entF_mono c (d + 2) at_ to false (n + 1)
        rw [if_pos ⟨hc2.1, hc2.2.1, hc2.2.2.1, by omega⟩, ih at_ to false (n + 1) (by omega) k2]
        simp only [mvF, mvL, mvS, List.map_nil]; rfl
      · rw [if_neg hc2] at k2
        simp only at k2
        rw [if_neg hc2, if_neg (fun h => hc2 ⟨h.1, h.2.1, h.2.2.1, by omega⟩)]; simp only [mvF_leaf]
end Go.Proofs.YtemgbdncidgoiaaDoor
end
section
namespace Go.Proofs.YtemgbdncidgoiaaDoor
open Go.Ev Go
def awB : Bs := [67, 111, 110, 116, 101, 110, 116, 45, 84, 121, 112, 101, 58, 32, 109, 117, 108, 116, 105, 112, 97, 114, 116, 47, 109, 105, 120, 101, 100, 59, 32, 98, 111, 117, 110, 100, 97, 114, 121, 61, 98, 13, 10, 13, 10, 112, 114, 101, 13, 10, 45, 45, 98, 13, 10, 13, 10, 111, 110, 101, 13, 10, 45, 45, 98, 13, 10, 67, 111, 110, 116, 101, 110, 116, 45, 84, 121, 112, 101, 58, 32, 109, 101, 115, 115, 97, 103, 101, 47, 114, 102, 99, 56, 50, 50, 13, 10, 13, 10, 83, 117, 98, 106, 101, 99, 116, 58, 32, 115, 13, 10, 13, 10, 116, 119, 111, 13, 10, 45, 45, 98, 45, 45, 13, 10, 112, 111, 115, 116]
def awT : Pt := .mk 1 (0, 45) (45, 129) [.mk 0 (55, 57) (57, 60) [] [] (0, 0), .mk 2 (67, 99) (99, 116) [.mk 0 (99, 113) (113, 116) [] [] (0, 0)] [] (0, 0)] [(48, 55), (60, 67)] (116, 125)
theorem awTree : entF awB 32 0 awB.length false 1 = (awT, 4) := by kernel_rfl
theorem awParse : Ret 15 [.lst 5 false (ofBytes awB)] [] (.tup [partV awT, .int .i64 0], []) := by
  have := ret15 awB (by simp [awB])
  rw [awTree] at this
  exact this
theorem awCnt : cntF awT = 4 := by simp only [awT, cntF, cntL]
theorem awDp : dpF awT = 2 := by simp [awT, dpF, dpL]
theorem evt_eq {α : Type} {g g' : Nat → Nat → Option α} {r : α} (hg : ∀ k n, g k n = g' k n) (h : Evt g' r) : Evt g r := by
  obtain ⟨K, h⟩ := h
  exact ⟨K, fun k n hk hn => (hg k n).trans (h k n hk hn)⟩
theorem ret14 : Ret 14 [] [] (.bool true, []) := by
  refine M14 ?_
  refine evt_eq (g' := fun k _ => Option.bind (callN cfg k 15 [.lst 5 false (ofBytes awB)] []) fun z0 => _) (fun k n => by rw [T14]; rfl) ?_
  refine evt_bind awParse ?_
  refine evt_eq (g' := fun k _ => Option.bind (callN cfg k 17 [partV awT] []) fun z2 => if ((V.getI z2.1) == (4 : Int)) = true then
      Option.bind (callN cfg k 18 [partV awT] []) fun z3 => (match ((V.getI z3.1) == (2 : Int)) with | true => some ((V.bool true), []) | false => some ((V.bool false), []))
    else some ((V.bool false), [])) (fun k n => by kernel_rfl) ?_
  have h1 := ret17 awT (by rw [awCnt]; omega)
  have h2 := ret18 awT (by rw [awCnt]; omega)
  rw [awCnt] at h1
  rw [awDp] at h2
  refine evt_bind h1 ?_
  refine evt_bind h2 ?_
  exact evt_some _
end Go.Proofs.YtemgbdncidgoiaaDoor
end
section
namespace Go.Proofs.YtemgbdncidgoiaaDoor
open Go.Ev Go
theorem linesF_app : ∀ (n : Nat) (H t : Bs) (a : Nat), H.length ≤ n → (H = [] ∨ H.getLast? = some 10) → linesF a (H ++ t) = linesF a H ++ linesF (a + H.length) t
  | 0, H, t, a, hn, _ => by
    have : H = [] := List.eq_nil_of_length_eq_zero (by omega)
    subst this
    simp [linesF_nil]
  | n + 1, H, t, a, hn, hl => by
    rcases hl with rfl | hl
    · simp [linesF_nil]
    · have hne : H ≠ [] := by rintro rfl; simp at hl
      have hpos : 0 < H.length := List.length_pos_iff.2 hne
      have hex : 0 ≤ Lib.indexByte H 10 := by
        have h1 := Lib.indexByte_ge H 10
        by_cases h2 : Lib.indexByte H 10 = -1
        · exact absurd (by rw [List.getLast?_eq_getElem?] at hl; exact hl) (Lib.indexByte_none h2 (H.length - 1))
        · omega
      obtain ⟨k, hk⟩ : ∃ k : Nat, Lib.indexByte H 10 = k := ⟨(Lib.indexByte H 10).toNat, by omega⟩
      obtain ⟨k1, k2⟩ := Lib.indexByte_some hk
      have hkl : k < H.length := (List.getElem?_eq_some_iff.1 k1).1
      have hk' : Lib.indexByte (H ++ t) 10 = k := indexByte_at (by rw [List.getElem?_append_left hkl]; exact k1) (fun j hj => by rw [List.getElem?_append_left (by omega)]; exact k2 j hj)
      have hd : (H ++ t).drop (k + 1) = H.drop (k + 1) ++ t := List.drop_append_of_le_length (by omega)
      have h1 : (H ++ t)[k - 1]? = H[k - 1]? := List.getElem?_append_left (by omega)
      have hl' : H.drop (k + 1) = [] ∨ (H.drop (k + 1)).getLast? = some 10 := by
        rw [List.getLast?_drop]
        by_cases h : H.length ≤ k + 1
        · exact .inl (List.drop_eq_nil_of_le h)
        · rw [if_neg h]; exact .inr hl
      have hk0 : ¬ ((k : Int) < 0) := by omega
      rw [linesF_cons a (H ++ t) (by simp [hne]), linesF_cons a H hne, hk, hk', if_neg hk0, if_neg hk0]
      simp only [Int.toNat_natCast]
      rw [hd, h1, linesF_app n (H.drop (k + 1)) t (a + k + 1) (by rw [List.length_drop]; omega) hl', List.cons_append, List.length_drop]
      rw [show a + k + 1 + (H.length - (k + 1)) = a + H.length by omega]
theorem emptyF_app : ∀ {l : List Ln} {k : Nat} (r : List Ln), emptyF l = some k → emptyF (l ++ r) = some k
  | [], k, r, h => by cases h
  | x :: l, k, r, h => by
    rw [List.cons_append, emptyF]
    rw [emptyF] at h
    by_cases hx : x.1 = x.2.1
    · rw [if_pos hx] at h ⊢; exact h
    · rw [if_neg hx] at h ⊢
      obtain ⟨j, h1, rfl⟩ := Option.map_eq_some_iff.1 h
      rw [emptyF_app r h1]; rfl
theorem linesOf_all (b : Bs) : linesOf ((0 : Nat) : Int) (b.length : Nat) b = linesF 0 b := by
  unfold linesOf
  rw [if_pos (by omega)]
  simp
theorem headF_hd (H t : Bs) {k : Nat} (hH : H.getLast? = some 10) (he : emptyF (linesF 0 H) = some k) : headF (H ++ t) ((0 : Nat) : Int) ((H ++ t).length : Nat) = headF H ((0 : Nat) : Int) (H.length : Nat) := by
  have hb : ∀ x ∈ linesF 0 H, x.2.1 ≤ H.length := fun x hx => by
    rw [← linesOf_all] at hx
    have := linesOf_bounds x hx; omega
  unfold headF
  rw [linesOf_all, linesOf_all, linesF_app H.length H t 0 (Nat.le_refl _) (.inr hH)]
  generalize linesF 0 H = l at hb he
  have hk := emptyF_lt he
  have hl : l ≠ [] := by rintro rfl; cases he
  rw [if_neg (by simp [hl]), if_neg hl, emptyF_app _ he, he]
  simp only
  have ht : (l ++ linesF (0 + H.length) t).take k = l.take k := List.take_append_of_le_length (by omega)
  have hg : (l ++ linesF (0 + H.length) t).getD k (0, 0, 0) = l.getD k (0, 0, 0) := by
    simp only [List.getD, List.getElem?_append_left hk]
  rw [ht, hg, foldH_cut H t _ _ fun x hx => hb x (List.mem_of_mem_take hx)]
theorem entF_hd (H t : Bs) {k : Nat} (hH : H.getLast? = some 10) (he : emptyF (linesF 0 H) = some k) (d : Nat) (dg : Bool) (n : Nat) {at_ : Nat} {l : List Fd} {ty u : Bs} {ps : Ps} {bd : Bs} {cs : List (Nat × Nat)} {e : Nat × Nat}
    (h1 : (headF H ((0 : Nat) : Int) (H.length : Nat)).1 = l) (h2 : (headF H ((0 : Nat) : Int) (H.length : Nat)).2.toNat = at_) (h3 : kindF H l dg = (ty, u, ps)) (h4 : (getF ps bdB).getD [] = bd) (h5 : cutsF (H ++ t) at_ (H ++ t).length bd = (cs, e)) :
    entF (H ++ t) (d + 1) 0 (H ++ t).length dg n = if ty = mpB ∧ bd ≠ [] ∧ bd.length ≤ 70 then
      if 0 < cs.length ∧ n + cs.length ≤ 1000 then
        (Pt.mk 1 (0, at_) (at_, (H ++ t).length) (kidsF (fun fr to n => entF (H ++ t) d fr to (u == dgB) n) e.1 cs (n + cs.length)).1 cs e, (kidsF (fun fr to n => entF (H ++ t) d fr to (u == dgB) n) e.1 cs (n + cs.length)).2)
      else (leafP 0 at_ (H ++ t).length, n)
    else if ty = msgB ∧ u = rfcB ∧ noneF H l = true ∧ n < 1000 then (Pt.mk 2 (0, at_) (at_, (H ++ t).length) [(entF (H ++ t) d at_ (H ++ t).length false (n + 1)).1] [] (0, 0), (entF (H ++ t) d at_ (H ++ t).length false (n + 1)).2)
    else (leafP 0 at_ (H ++ t).length, n) := by
  have hl : ∀ f ∈ l, f.2.2.2 ≤ H.length := by rw [← h1]; exact headF_in H 0 H.length
  have hh := headF_hd H t hH he
  rw [← noneF_cut H t l hl]
  exact entF_s (H ++ t) d 0 (H ++ t).length dg n (by rw [hh]; exact h1) (by rw [hh]; exact h2) ((kindF_cut H t l dg hl).trans h3) h4 h5
def innB : Bs := [88, 58, 32, 121, 13, 10, 67, 111, 110, 116, 101, 110, 116, 45, 84, 121, 112, 101, 58, 32, 109, 101, 115, 115, 97, 103, 101, 47, 114, 102, 99, 56, 50, 50, 13, 10, 13, 10]
theorem innE : emptyF (linesF 0 innB) = some 2 := by kernel_rfl
theorem innH : headF innB ((0 : Nat) : Int) (innB.length : Nat) = ([([88], 0, 2, 6), ([67, 111, 110, 116, 101, 110, 116, 45, 84, 121, 112, 101], 6, 19, 36)], 38) := by kernel_rfl
theorem innK : kindF innB [([88], 0, 2, 6), ([67, 111, 110, 116, 101, 110, 116, 45, 84, 121, 112, 101], 6, 19, 36)] false = (msgB, rfcB, []) := by kernel_rfl
theorem innN : noneF innB [([88], 0, 2, 6), ([67, 111, 110, 116, 101, 110, 116, 45, 84, 121, 112, 101], 6, 19, 36)] = true := by kernel_rfl
theorem inn_ent (b : Bs) : entF (innB ++ b) 32 0 (innB ++ b).length false 1 =
    (Pt.mk 2 (0, 38) (38, (innB ++ b).length) [(entF (innB ++ b) 31 38 (innB ++ b).length false 2).1] [] (0, 0), (entF (innB ++ b) 31 38 (innB ++ b).length false 2).2) := by
  rw [entF_hd innB b (k := 2) rfl innE 31 false 1 (at_ := 38) (by rw [innH]) (by rw [innH]; rfl) innK rfl rfl]
  rw [if_neg (fun h => absurd h.1 (by decide)), if_pos ⟨rfl, rfl, innN, by omega⟩]
theorem inn_kid (b : Bs) (h1 : dpF (entF b 32 0 b.length false 1).1 ≤ 30) (h2 : cntF (entF b 32 0 b.length false 1).1 ≤ 900) :
    (entF (innB ++ b) 31 38 (innB ++ b).length false 2).1 = mvF 38 (entF b 32 0 b.length false 1).1 := by
  have hc := entF_cnt b 32 0 b.length false 1
  have := entI innB b 30 0 b.length false 1 h1 (show (entF b 32 0 b.length false 1).2 ≤ 999 by omega)
  have e1 : innB.length = 38 := rfl
  have e2 : (innB ++ b).length = b.length + 38 := by rw [List.length_append, e1, Nat.add_comm]
  rw [e1] at this
  rw [e2]
  exact congrArg Prod.fst this
end Go.Proofs.YtemgbdncidgoiaaDoor
end
section
namespace Go.Proofs.YtemgbdncidgoiaaDoor
open Go.Ev Go
open List (headD tail getD length drop take)
open V (getI getL getT getS getB)
set_option maxRecDepth 100000
def T6 (call : FuncId → Fun) (a0 : List V) (a1 : Int) : Option (V × List Ob) :=
  Option.bind (call 14 [] []) fun z0 =>
  if (!(getB z0.1)) = true then
    some ((V.bool false), [])
  else
    if (decide (((length a0 : Nat) : Int) > (1000 : Int))) = true then
      some ((V.bool true), [])
    else
      chk (appOkS [] [88, 58, 32, 121, 13, 10, 67, 111, 110, 116, 101, 110, 116, 45, 84, 121, 112, 101, 58, 32, 109, 101, 115, 115, 97, 103, 101, 47, 114, 102, 99, 56, 50, 50, 13, 10, 13, 10] 2) (chk (appOk ([] ++ (ofBytes [88, 58, 32, 121, 13, 10, 67, 111, 110, 116, 101, 110, 116, 45, 84, 121, 112, 101, 58, 32, 109, 101, 115, 115, 97, 103, 101, 47, 114, 102, 99, 56, 50, 50, 13, 10, 13, 10])) a0 2) (Option.bind (call 15 [(V.lst 5 false (([] ++ (ofBytes [88, 58, 32, 121, 13, 10, 67, 111, 110, 116, 101, 110, 116, 45, 84, 121, 112, 101, 58, 32, 109, 101, 115, 115, 97, 103, 101, 47, 114, 102, 99, 56, 50, 50, 13, 10, 13, 10])) ++ a0))] []) fun z1 =>
      Option.bind (call 15 [(V.lst 5 false a0)] []) fun z2 =>
      Option.bind (if ((getI (headD (tail (getT z1.1)) V.bot)) != (0 : Int)) = false then
          if ((getI (headD (tail (getT z2.1)) V.bot)) != (0 : Int)) = false then
            if ((getI (headD (V.cells (headD (getT z1.1) V.bot)) V.bot)) != (2 : Int)) = false then
              some (((length (getL (headD (tail (tail (tail (tail (tail (V.cells (headD (getT z1.1) V.bot))))))) V.bot)) : Nat) : Int) != (1 : Int))
            else
              some true
          else
            some true
        else
          some true) fun y3 =>
      if y3 = true then
        some ((V.bool false), [])
      else
        Option.bind (call 18 [(V.agg [(V.int .i64 (getI (headD (V.cells (headD (getT z2.1) V.bot)) V.bot))), (V.int .i64 (getI (headD (tail (V.cells (headD (getT z2.1) V.bot))) V.bot))), (V.int .i64 (getI (headD (tail (tail (V.cells (headD (getT z2.1) V.bot)))) V.bot))), (V.int .i64 (getI (headD (tail (tail (tail (V.cells (headD (getT z2.1) V.bot))))) V.bot))), (V.int .i64 (getI (headD (tail (tail (tail (tail (V.cells (headD (getT z2.1) V.bot)))))) V.bot))), (V.lst 28 false (getL (headD (tail (tail (tail (tail (tail (V.cells (headD (getT z2.1) V.bot))))))) V.bot))), (V.lst 24 false (getL (headD (tail (tail (tail (tail (tail (tail (V.cells (headD (getT z2.1) V.bot)))))))) V.bot))), (V.int .i64 (getI (headD (tail (tail (tail (tail (tail (tail (tail (V.cells (headD (getT z2.1) V.bot))))))))) V.bot))), (V.int .i64 (getI (headD (tail (tail (tail (tail (tail (tail (tail (tail (V.cells (headD (getT z2.1) V.bot)))))))))) V.bot)))])] []) fun z4 =>
        if (decide ((getI z4.1) > (30 : Int))) = false then
          Option.bind (call 17 [(V.agg [(V.int .i64 (getI (headD (V.cells (headD (getT z2.1) V.bot)) V.bot))), (V.int .i64 (getI (headD (tail (V.cells (headD (getT z2.1) V.bot))) V.bot))), (V.int .i64 (getI (headD (tail (tail (V.cells (headD (getT z2.1) V.bot)))) V.bot))), (V.int .i64 (getI (headD (tail (tail (tail (V.cells (headD (getT z2.1) V.bot))))) V.bot))), (V.int .i64 (getI (headD (tail (tail (tail (tail (V.cells (headD (getT z2.1) V.bot)))))) V.bot))), (V.lst 28 false (getL (headD (tail (tail (tail (tail (tail (V.cells (headD (getT z2.1) V.bot))))))) V.bot))), (V.lst 24 false (getL (headD (tail (tail (tail (tail (tail (tail (V.cells (headD (getT z2.1) V.bot)))))))) V.bot))), (V.int .i64 (getI (headD (tail (tail (tail (tail (tail (tail (tail (V.cells (headD (getT z2.1) V.bot))))))))) V.bot))), (V.int .i64 (getI (headD (tail (tail (tail (tail (tail (tail (tail (tail (V.cells (headD (getT z2.1) V.bot)))))))))) V.bot)))])] []) fun z5 =>
          if (decide ((getI z5.1) > (900 : Int))) = true then
            some ((V.bool true), [])
          else
            chk (decide (0 ≤ (0 : Int))) (chk (decide ((0 : Int) < ((length (getL (headD (tail (tail (tail (tail (tail (V.cells (headD (getT z1.1) V.bot))))))) V.bot)) : Nat) : Int))) (Option.bind (call 20 [(V.agg [(V.int .i64 (getI (headD (V.cells (getD (getL (headD (tail (tail (tail (tail (tail (V.cells (headD (getT z1.1) V.bot))))))) V.bot)) (Int.toNat (0 : Int)) V.bot)) V.bot))), (V.int .i64 (getI (headD (tail (V.cells (getD (getL (headD (tail (tail (tail (tail (tail (V.cells (headD (getT z1.1) V.bot))))))) V.bot)) (Int.toNat (0 : Int)) V.bot))) V.bot))), (V.int .i64 (getI (headD (tail (tail (V.cells (getD (getL (headD (tail (tail (tail (tail (tail (V.cells (headD (getT z1.1) V.bot))))))) V.bot)) (Int.toNat (0 : Int)) V.bot)))) V.bot))), (V.int .i64 (getI (headD (tail (tail (tail (V.cells (getD (getL (headD (tail (tail (tail (tail (tail (V.cells (headD (getT z1.1) V.bot))))))) V.bot)) (Int.toNat (0 : Int)) V.bot))))) V.bot))), (V.int .i64 (getI (headD (tail (tail (tail (tail (V.cells (getD (getL (headD (tail (tail (tail (tail (tail (V.cells (headD (getT z1.1) V.bot))))))) V.bot)) (Int.toNat (0 : Int)) V.bot)))))) V.bot))), (V.lst 28 false (getL (headD (tail (tail (tail (tail (tail (V.cells (getD (getL (headD (tail (tail (tail (tail (tail (V.cells (headD (getT z1.1) V.bot))))))) V.bot)) (Int.toNat (0 : Int)) V.bot))))))) V.bot))), (V.lst 24 false (getL (headD (tail (tail (tail (tail (tail (tail (V.cells (getD (getL (headD (tail (tail (tail (tail (tail (V.cells (headD (getT z1.1) V.bot))))))) V.bot)) (Int.toNat (0 : Int)) V.bot)))))))) V.bot))), (V.int .i64 (getI (headD (tail (tail (tail (tail (tail (tail (tail (V.cells (getD (getL (headD (tail (tail (tail (tail (tail (V.cells (headD (getT z1.1) V.bot))))))) V.bot)) (Int.toNat (0 : Int)) V.bot))))))))) V.bot))), (V.int .i64 (getI (headD (tail (tail (tail (tail (tail (tail (tail (tail (V.cells (getD (getL (headD (tail (tail (tail (tail (tail (V.cells (headD (getT z1.1) V.bot))))))) V.bot)) (Int.toNat (0 : Int)) V.bot)))))))))) V.bot)))])] []) fun z6 =>
            Option.bind (call 20 [(V.agg [(V.int .i64 (getI (headD (V.cells (headD (getT z2.1) V.bot)) V.bot))), (V.int .i64 (getI (headD (tail (V.cells (headD (getT z2.1) V.bot))) V.bot))), (V.int .i64 (getI (headD (tail (tail (V.cells (headD (getT z2.1) V.bot)))) V.bot))), (V.int .i64 (getI (headD (tail (tail (tail (V.cells (headD (getT z2.1) V.bot))))) V.bot))), (V.int .i64 (getI (headD (tail (tail (tail (tail (V.cells (headD (getT z2.1) V.bot)))))) V.bot))), (V.lst 28 false (getL (headD (tail (tail (tail (tail (tail (V.cells (headD (getT z2.1) V.bot))))))) V.bot))), (V.lst 24 false (getL (headD (tail (tail (tail (tail (tail (tail (V.cells (headD (getT z2.1) V.bot)))))))) V.bot))), (V.int .i64 (getI (headD (tail (tail (tail (tail (tail (tail (tail (V.cells (headD (getT z2.1) V.bot))))))))) V.bot))), (V.int .i64 (getI (headD (tail (tail (tail (tail (tail (tail (tail (tail (V.cells (headD (getT z2.1) V.bot)))))))))) V.bot)))])] []) fun z7 =>
            Option.bind (call 21 [(V.agg [(V.int .i64 (getI (headD (V.cells z7.1) V.bot))), (V.int .i64 (getI (headD (tail (V.cells z7.1)) V.bot))), (V.int .i64 (getI (headD (tail (tail (V.cells z7.1))) V.bot))), (V.int .i64 (getI (headD (tail (tail (tail (V.cells z7.1)))) V.bot))), (V.int .i64 (getI (headD (tail (tail (tail (tail (V.cells z7.1))))) V.bot))), (V.lst 42 false (getL (headD (tail (tail (tail (tail (tail (V.cells z7.1)))))) V.bot))), (V.lst 24 false (getL (headD (tail (tail (tail (tail (tail (tail (V.cells z7.1))))))) V.bot))), (V.int .i64 (getI (headD (tail (tail (tail (tail (tail (tail (tail (V.cells z7.1)))))))) V.bot))), (V.int .i64 (getI (headD (tail (tail (tail (tail (tail (tail (tail (tail (V.cells z7.1))))))))) V.bot)))]), (V.int .i64 ((length [88, 58, 32, 121, 13, 10, 67, 111, 110, 116, 101, 110, 116, 45, 84, 121, 112, 101, 58, 32, 109, 101, 115, 115, 97, 103, 101, 47, 114, 102, 99, 56, 50, 50, 13, 10, 13, 10] : Nat) : Int))] []) fun z8 =>
            Option.bind (call 19 [(V.agg [(V.int .i64 (getI (headD (V.cells z6.1) V.bot))), (V.int .i64 (getI (headD (tail (V.cells z6.1)) V.bot))), (V.int .i64 (getI (headD (tail (tail (V.cells z6.1))) V.bot))), (V.int .i64 (getI (headD (tail (tail (tail (V.cells z6.1)))) V.bot))), (V.int .i64 (getI (headD (tail (tail (tail (tail (V.cells z6.1))))) V.bot))), (V.lst 42 false (getL (headD (tail (tail (tail (tail (tail (V.cells z6.1)))))) V.bot))), (V.lst 24 false (getL (headD (tail (tail (tail (tail (tail (tail (V.cells z6.1))))))) V.bot))), (V.int .i64 (getI (headD (tail (tail (tail (tail (tail (tail (tail (V.cells z6.1)))))))) V.bot))), (V.int .i64 (getI (headD (tail (tail (tail (tail (tail (tail (tail (tail (V.cells z6.1))))))))) V.bot)))]), (V.agg [(V.int .i64 (getI (headD (V.cells z8.1) V.bot))), (V.int .i64 (getI (headD (tail (V.cells z8.1)) V.bot))), (V.int .i64 (getI (headD (tail (tail (V.cells z8.1))) V.bot))), (V.int .i64 (getI (headD (tail (tail (tail (V.cells z8.1)))) V.bot))), (V.int .i64 (getI (headD (tail (tail (tail (tail (V.cells z8.1))))) V.bot))), (V.lst 42 false (getL (headD (tail (tail (tail (tail (tail (V.cells z8.1)))))) V.bot))), (V.lst 24 false (getL (headD (tail (tail (tail (tail (tail (tail (V.cells z8.1))))))) V.bot))), (V.int .i64 (getI (headD (tail (tail (tail (tail (tail (tail (tail (V.cells z8.1)))))))) V.bot))), (V.int .i64 (getI (headD (tail (tail (tail (tail (tail (tail (tail (tail (V.cells z8.1))))))))) V.bot)))])] []) fun z9 =>
            some ((V.bool (getB z9.1)), [])))
        else
          some ((V.bool true), [])))
def A6 (a0 : List V) (a1 : Int) : List V := [V.lst 5 false a0, V.int IntKind.u8 a1]
theorem E6 (call : FuncId → Fun) (icall : ICall (V × List Ob)) (again : List It → St → Option (V × List Ob)) (a0 : List V) (a1 : Int) : GO 6 Tryd.f6 (A6 a0 a1) [] call icall again = T6 call a0 a1 := by kernel_rfl
theorem C6 (k : Nat) (a0 : List V) (a1 : Int) : callN cfg (k + 1) 6 (A6 a0 a1) [] = T6 (callN cfg k) a0 a1 :=
  (show callN cfg (k + 1) 6 (A6 a0 a1) [] = GO 6 Tryd.f6 (A6 a0 a1) [] (callN cfg k) (icallN cfg (callN cfg k) 20) (RN 6 Tryd.f6 [] (callN cfg k) (icallN cfg (callN cfg k) 20) k) by kernel_rfl).trans (E6 _ _ _ a0 a1)
theorem M6 (a0 : List V) (a1 : Int) {r : V × List Ob} (h : Evt (fun k n => T6 (callN cfg k) a0 a1) r) : Ret 6 [V.lst 5 false a0, V.int IntKind.u8 a1] [] r := ret_mk (g := fun k n => T6 (callN cfg k) a0 a1) (fun k => C6 k a0 a1) h
end Go.Proofs.YtemgbdncidgoiaaDoor
end
section
namespace Go.Proofs.YtemgbdncidgoiaaDoor
open Go.Ev Go
theorem ofBytes_append (x y : Bs) : ofBytes x ++ ofBytes y = ofBytes (x ++ y) := by simp [ofBytes]
mutual
theorem cntF_mv : ∀ (p : Pt) (n : Nat), cntF (mvF n p) = cntF p
  | .mk k h b kids cuts e, n => by rw [mvF, cntF, cntF, cntL_mv kids n]
theorem cntL_mv : ∀ (l : List Pt) (n : Nat), cntL (mvL n l) = cntL l
  | [], n => rfl
  | p :: r, n => by rw [mvL, cntL, cntL, cntF_mv p n, cntL_mv r n]
end
mutual
theorem PosOk_mv (m n : Nat) : ∀ p : Pt, PosOk m p → PosOk (m + n) (mvF n p)
  | .mk k h b kids cuts e, hp => by
    rw [PosOk] at hp
    obtain ⟨p1, p2, p3, p4, p5, p6, p7, p8, hp2⟩ := hp
    rw [mvF, PosOk]
    refine ⟨by simp only [mvS]; omega, by simp only [mvS]; omega, by simp only [mvS]; omega, by simp only [mvS]; omega, fun c hc => ?_, by rw [List.length_map]; omega, ?_, ?_, PosOkL_mv m n kids hp2⟩
    · obtain ⟨c0, h1, rfl⟩ := List.mem_map.1 hc
      have := p5 c0 h1
      simp only [mvS]; omega
    · split
      · simp only [mvS]; omega
      · simp
    · split
      · simp only [mvS]; omega
      · simp
theorem PosOkL_mv (m n : Nat) : ∀ l : List Pt, PosOkL m l → PosOkL (m + n) (mvL n l)
  | [], _ => by rw [mvL, PosOkL]; trivial
  | p :: r, hp => by
    rw [PosOkL] at hp
    rw [mvL, PosOkL]
    exact ⟨PosOk_mv m n p hp.1, PosOkL_mv m n r hp.2⟩
end
mutual
theorem PosOk_le {m n : Nat} (h : m ≤ n) : ∀ p : Pt, PosOk m p → PosOk n p
  | .mk k hd b kids cuts e, hp => by
    rw [PosOk] at hp ⊢
    obtain ⟨p1, p2, p3, p4, p5, p6, p7, p8, hp2⟩ := hp
    exact ⟨by omega, by omega, by omega, by omega, fun c hc => by have := p5 c hc; omega, by omega, by omega, by omega, PosOkL_le h kids hp2⟩
theorem PosOkL_le {m n : Nat} (h : m ≤ n) : ∀ l : List Pt, PosOkL m l → PosOkL n l
  | [], _ => by rw [PosOkL]; trivial
  | p :: r, hp => by
    rw [PosOkL] at hp ⊢
    exact ⟨PosOk_le h p hp.1, PosOkL_le h r hp.2⟩
end
theorem ret6 (b : Bs) (x : Int) (_ : 0 ≤ x ∧ x < 256) : Ret 6 [.lst 5 false (ofBytes b), .int .u8 x] [] (.bool true, []) := by
  refine M6 (ofBytes b) x ?_
  simp only [T6]
  refine evt_bind ret14 ?_
  simp only [getB_bool, Bool.not_true, Bool.false_eq_true, if_false, ofBytes_length]
  by_cases hb : b.length ≤ 1000
  · have h1 : ¬ (((b.length : Nat) : Int) > 1000) := by omega
    have e1 : appOkS [] [88, 58, 32, 121, 13, 10, 67, 111, 110, 116, 101, 110, 116, 45, 84, 121, 112, 101, 58, 32, 109, 101, 115, 115, 97, 103, 101, 47, 114, 102, 99, 56, 50, 50, 13, 10, 13, 10] 2 = true := by kernel_rfl
    have e2 : appOk ([] ++ ofBytes [88, 58, 32, 121, 13, 10, 67, 111, 110, 116, 101, 110, 116, 45, 84, 121, 112, 101, 58, 32, 109, 101, 115, 115, 97, 103, 101, 47, 114, 102, 99, 56, 50, 50, 13, 10, 13, 10]) (ofBytes b) 2 = true :=
      app_ok (by simp only [List.nil_append, ofBytes_length]; simp; omega)
    have e3 : ([] ++ ofBytes [88, 58, 32, 121, 13, 10, 67, 111, 110, 116, 101, 110, 116, 45, 84, 121, 112, 101, 58, 32, 109, 101, 115, 115, 97, 103, 101, 47, 114, 102, 99, 56, 50, 50, 13, 10, 13, 10]) ++ ofBytes b = ofBytes (innB ++ b) := ofBytes_append innB b
    simp only [h1, decide_false, Bool.false_eq_true, if_false, chk_b e1, chk_b e2, e3]
    have l1 : (innB ++ b).length ≤ 100000 := by rw [List.length_append, show innB.length = 38 from rfl]; omega
    have hP := inn_ent b
    have hK := inn_kid b
    have pQ := entF_pos 1000 b (by omega) 32 0 b.length false 1 (by omega) (by omega)
    have cQ := entF_n b 32 0 b.length false 1 (by omega)
    have cQ2 := entF_cnt b 32 0 b.length false 1
    have r1 := ret15 (innB ++ b) l1
    rw [hP] at r1
    have r2 := ret15 b (by omega)
    generalize (entF (innB ++ b) 31 38 (innB ++ b).length false 2).1 = kid at hK r1
    generalize (entF b 32 0 b.length false 1).1 = Q at *
    have hcQ : cntF Q ≤ 1000000 := by omega
    refine evt_bind r1 ?_
    refine evt_bind r2 ?_
    simp only [getT_tup, List.headD_cons, List.tail_cons, getI_int, eta_part]
    rw [partV]
    simp only [cells_agg, List.headD_cons, List.tail_cons, getI_int, getL_lst, partVL, List.length_cons, List.length_nil, Nat.zero_add]
    refine evt_opt (v := false) (by simp) ?_
    simp only [Bool.false_eq_true, if_false]
    refine evt_bind (ret18 Q hcQ) ?_
    simp only [getI_int]
    by_cases d1 : dpF Q ≤ 30
    · have d1' : ¬ (((dpF Q : Nat) : Int) > 30) := by omega
      simp only [d1', decide_false, if_true]
      refine evt_bind (ret17 Q hcQ) ?_
      simp only [getI_int]
      by_cases d2 : cntF Q ≤ 900
      · have d2' : ¬ (((cntF Q : Nat) : Int) > 900) := by omega
        have hk := hK d1 d2
        have g1 : ((0 : Int) < ((1 : Nat) : Int)) := by omega
        simp only [d2', decide_false, Bool.false_eq_true, if_false, chk_p (Int.le_refl 0), chk_p g1, Int.toNat_zero, List.getD_cons_zero, eta_part]
        have hcm : ∀ n, cntF (mvF n Q) = cntF Q := cntF_mv Q
        have hkc : cntF kid ≤ 1000000 := by rw [hk, hcm]; exact hcQ
        refine evt_bind (ret20 kid hkc) ?_
        refine evt_bind (ret20 Q hcQ) ?_
        simp only [eta_ref]
        have hm := ret21 38 (by omega) Q hcQ (PosOk_le (by omega) _ pQ)
        refine evt_bind hm ?_
        simp only [eta_ref]
        rw [hk]
        refine evt_bind (ret19 (mvF 38 Q) (by rw [hcm]; exact hcQ) ?_) ?_
        · exact PosOk_le (by omega) _ (PosOk_mv 1000 38 _ pQ)
        · exact evt_some _
      · have d2' : (((cntF Q : Nat) : Int) > 900) := by omega
        simp only [d2', decide_true, if_true]
        exact evt_some _
    · have d1' : (((dpF Q : Nat) : Int) > 30) := by omega
      simp only [d1', decide_true, Bool.true_eq_false, if_false]
      exact evt_some _
  · have h1 : (((b.length : Nat) : Int) > 1000) := by omega
    simp only [h1, decide_true, if_true]
    exact evt_some _
end Go.Proofs.YtemgbdncidgoiaaDoor
end
section
namespace Go.Proofs.YtemgbdncidgoiaaDoor
open Go.ChangeShapes Go.WideShapes Go.ChangeAt Go.RowKit Go.Ev
theorem cells5 : Tryd.prog.cellsOf 5 = 1 := by kernel_rfl
theorem size5 : tySize cfg 5 = 1 := by kernel_rfl
theorem fits5 (n : Int) : fitsE cfg 5 (.int .u8 n) = true := by kernel_rfl
theorem flat_u8 (zs : List Int) : flat (zs.map (Value.int .u8)) = zs.map (Value.int .u8) := by
  induction zs with
  | nil => rfl
  | cons z zs ih => simp only [flat, List.map_cons, List.flatMap_cons, Value.cells] at ih ⊢; rw [ih]; rfl
theorem slice_block {P : Program} {w : World} {r : Reach} {base : Nat} {t e : TypeId} {a : Addr} {len cap : Nat} (ht : P.underlying t = some (.slice e)) (h : Value.okWide P w r base t (.slice (some a) len cap)) : a.block < w.heap.size := by
  simp only [Value.okWide, ht, Cell.okWide, Cell.ok] at h
  obtain ⟨_, _, _, _, row, cells, hs, _⟩ := h
  unfold World.shape? at hs
  by_cases hb : a.block < w.heap.size
  · exact hb
  · rw [Array.getElem?_eq_none (by omega)] at hs
    simp at hs
set_option maxRecDepth 100000 in
theorem bytes_in {H : Type} {enc : TypeId × Value → H} {W : World} {base : Nat} {v : Value} {d : DataW H} {p : List MemPlace} (hval : Value.okWide Tryd.prog W .any base 32 v)
    (h : DataW.Trod enc Tryd.prog W 0 (fun _ => true) true 32 v d p) :
    ∃ vs : List UInt8, Rep cfg W (sizes W) [] (.lst 5 false (ofBytes vs)) v ∧
      ∀ W', Kept W W' → ∀ sp : Nat → Bool, (∀ x ∈ p, sp x.block = true) → DataW.Trod enc Tryd.prog W' 0 sp true 32 v d p := by
  obtain ⟨a1, len, cap, rfl⟩ := okWide_slice Tryd.underlying32 hval
  obtain ⟨fuel, hf⟩ := h
  rcases open_ints Tryd.underlying32 Tryd.underlying5 cells5 hf with ⟨hcs, hx⟩ | ⟨a, len', cap', zs, hcs, _, hl, hm, hz, hx, hcell, hwz⟩
  · simp [Value.cells] at hcs
    obtain ⟨rfl, rfl, rfl⟩ := hcs
    simp only [Prod.mk.injEq] at hx
    obtain ⟨rfl, rfl⟩ := hx
    refine ⟨[], ?_, fun W' _ sp _ => shut_slice_nil Tryd.underlying32⟩
    exact Rep.lst 5 false [] none 0 [] rfl (fun i v x h => by simp at h) (fun v h => by cases h) (fun x h => by cases h) (by rw [size5]; omega) (Nat.le_refl _) ⟨fun _ => rfl, fun p h => by cases h⟩ (fun p h => by cases h)
  · simp [Value.cells] at hcs
    obtain ⟨rfl, rfl, rfl⟩ := hcs
    simp only [Prod.mk.injEq] at hx
    obtain ⟨rfl, rfl⟩ := hx
    have hblk : a.block < W.heap.size := slice_block Tryd.underlying32 hval
    have hsn : some a = none → cap = 0 := fun h => by cases h
    have hsb : ∀ p, some a = some p → p.block < W.heap.size := fun p hp => by cases hp; exact hblk
    simp only [if_true] at hz
    have hrng : ∀ n ∈ zs, 0 ≤ n ∧ n < 256 := fun n hn => by have := bounds_u8 (hwz n hn); omega
    refine ⟨(zs.take len).map fun n => UInt8.ofNat n.toNat, ?_, fun W' hk sp hsp => ?_⟩
    · have hxs : ofBytes ((zs.take len).map fun n => UInt8.ofNat n.toNat) = (zs.take len).map (V.int .u8) := by
        unfold ofBytes
        rw [List.map_map]
        refine List.map_congr_left fun n hn => ?_
        have := hrng n (List.mem_of_mem_take hn)
        simp only [Function.comp, UInt8.toNat_ofNat']
        congr 1
        omega
      have hlen : (ofBytes ((zs.take len).map fun n => UInt8.ofNat n.toNat)).length = len := by rw [hxs]; simp; omega
      have := Rep.lst (c := cfg) (w := W) (G := sizes W) (μ := []) 5 false (ofBytes ((zs.take len).map fun n => UInt8.ofNat n.toNat)) (some a) cap ((zs.take len).map (Value.int .u8)) (by rw [hlen]; simp; omega) (fun i v x hv hx => by
          rw [hxs] at hv
          obtain ⟨n, h1, rfl⟩ := get_map hv
          obtain ⟨n', h2, rfl⟩ := get_map hx
          rw [h1] at h2; cases h2
          exact .int _ _) (fun v hv => by
          rw [hxs] at hv
          obtain ⟨n, _, rfl⟩ := List.mem_map.1 hv
          exact fits5 n) (fun x hx => by
          obtain ⟨n, _, rfl⟩ := List.mem_map.1 hx
          rw [size5]; rfl) (by rw [size5]; omega) (by rw [hlen]; exact hl) ⟨hsn, hsb⟩ (fun p hp hne => by
          cases hp
          have hl0 : 0 < len := by
            rcases Nat.eq_zero_or_pos len with h0 | h0
            · exact absurd (List.eq_nil_of_length_eq_zero (hlen.trans h0)) hne
            · exact h0
          obtain ⟨ab, ao, spot⟩ := a
          have hspot : spot = none := by simpa [Addr.add] using World.cell?_spot (hcell 0 (by omega))
          subst hspot
          refine ⟨rfl, ?_⟩
          rw [flat_u8]
          refine srow_sizes fun j x hj => ?_
          have hjl := (List.getElem?_eq_some_iff.1 hj).1
          rw [List.length_map, List.length_take] at hjl
          have hjl : j < len ∧ j < zs.length := by omega
          have hc := hcell j (by omega)
          rw [Addr.add_lit] at hc
          rw [hc]
          rw [List.getElem?_map, List.getElem?_take, if_pos hjl.1, List.getElem?_eq_getElem hjl.2] at hj
          simp at hj
          rw [← hj]; simp [List.getD, hjl.2])
      rw [hlen] at this
      exact this
    · have hzl : zs.length = (if sp a.block then cap else len) := by
        rcases Nat.eq_zero_or_pos zs.length with h0 | h0
        · split <;> omega
        · have : sp a.block = true := hsp (.cell a.block (a.off + 0)) (by simp only [MemPlace.row, List.mem_map, List.mem_range]; exact ⟨0, h0, rfl⟩)
          rw [if_pos this]; exact hz
      exact ⟨2, shut_ints 0 Tryd.underlying32 Tryd.underlying5 cells5 (Nat.zero_le _) hl hm hzl (fun i hi => hk.cell _ _ (hcell i hi)) hwz⟩
end Go.Proofs.YtemgbdncidgoiaaDoor
end
