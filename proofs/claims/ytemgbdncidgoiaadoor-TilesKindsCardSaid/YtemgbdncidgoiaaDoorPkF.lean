/- Lemmas for the claim, merged: the plain reading of the program's functions, its soundness, and what they compute. -/
import Derived.Test.YtemgbdncidgoiaaDoorPkE
import Derived.KernelRfl
import Derived.ChangeSlices
set_option linter.all false
set_option linter.unusedVariables false
set_option linter.unusedSimpArgs false
section
namespace Go.Proofs.YtemgbdncidgoiaaDoor
open Go.Ev Go
def CCh : Nat → List (Nat × Nat) → Nat → Prop
  | a, [], z => a ≤ z
  | a, c :: r, z => a ≤ c.1 ∧ c.1 ≤ c.2 ∧ CCh c.2 r z
theorem CCh.le {z : Nat} : ∀ {l : List (Nat × Nat)} {a : Nat}, CCh a l z → a ≤ z
  | [], _, h => h
  | c :: r, _, h => Nat.le_trans h.1 (Nat.le_trans h.2.1 (CCh.le h.2.2))
theorem CCh.mono {z z' : Nat} (hz : z ≤ z') : ∀ {l : List (Nat × Nat)} {a : Nat}, CCh a l z → CCh a l z'
  | [], _, h => Nat.le_trans h hz
  | c :: r, _, h => ⟨h.1, h.2.1, CCh.mono hz h.2.2⟩
theorem CCh.snoc {z z' u : Nat} (h1 : z ≤ z') (h2 : z' ≤ u) : ∀ {l : List (Nat × Nat)} {a : Nat}, CCh a l z → CCh a (l ++ [(z', u)]) u
  | [], a, h => ⟨Nat.le_trans h h1, h2, Nat.le_refl _⟩
  | c :: r, _, h => ⟨h.1, h.2.1, CCh.snoc h1 h2 h.2.2⟩
def LCh : Nat → List Ln → Nat → Prop
  | a, [], z => a ≤ z
  | a, x :: r, z => x.1 = a ∧ a ≤ x.2.1 ∧ x.2.1 ≤ x.2.2 ∧ LCh x.2.2 r z
theorem linesG_ch : ∀ (n a : Nat) (s : Bs), LCh a (linesG n a s) (a + s.length)
  | 0, a, s => by simp [linesG, LCh]
  | n + 1, a, s => by
    unfold linesG
    split
    · simp [LCh]
    · rename_i hs
      have hp : 0 < s.length := List.length_pos_iff.2 hs
      split
      · exact ⟨rfl, by simp, by simp, by simp [LCh]⟩
      · rename_i hk
        obtain ⟨q, hq⟩ : ∃ q : Nat, Lib.indexByte s 10 = q := ⟨(Lib.indexByte s 10).toNat, by omega⟩
        have hq0 := Lib.indexByte_some hq
        have hql : q < s.length := (List.getElem?_eq_some_iff.1 hq0.1).1
        rw [hq]
        simp only [Int.toNat_natCast]
        refine ⟨rfl, by simp only; split <;> omega, by simp only; split <;> omega, ?_⟩
        have := linesG_ch n (a + q + 1) (s.drop (q + 1))
        rw [List.length_drop, show a + q + 1 + (s.length - (q + 1)) = a + s.length by omega] at this
        exact this
theorem linesOf_ch {fr to : Nat} {b : Bs} (h : fr ≤ to) : LCh fr (linesOf (fr : Nat) (to : Nat) b) to := by
  unfold linesOf
  split
  · rename_i hh
    have := linesG_ch ((b.take to).drop fr).length fr ((b.take to).drop fr)
    rw [show fr + ((b.take to).drop fr).length = to by rw [List.length_drop, List.length_take]; omega] at this
    exact this
  · exact h
theorem cutsG_ch (b bd : Bs) (lo to : Nat) : ∀ (l : List Ln) (out : List (Nat × Nat)) (fr a : Nat), LCh a l to → fr ≤ a → CCh lo out fr →
    CCh lo (cutsG b bd l out fr).1 ((cutsG b bd l out fr).2.getD (to, to)).1 ∧ ((cutsG b bd l out fr).2.getD (to, to)).1 ≤ ((cutsG b bd l out fr).2.getD (to, to)).2 ∧ ((cutsG b bd l out fr).2.getD (to, to)).2 ≤ to
  | [], out, fr, a, hl, hf, ho => by
    rw [cutsG]
    exact ⟨ho.mono (Nat.le_trans hf hl), Nat.le_refl _, Nat.le_refl _⟩
  | x :: r, out, fr, a, hl, hf, ho => by
    obtain ⟨h1, h2, h3, h4⟩ := hl
    have hz : x.2.2 ≤ to := by
      have : ∀ (l : List Ln) (a : Nat), LCh a l to → a ≤ to := by
        intro l
        induction l with
        | nil => intro a h; exact h
        | cons y r ih => intro a h; obtain ⟨_, g2, g3, g4⟩ := h; have := ih _ g4; omega
      exact this _ _ h4
    rw [cutsG]
    split
    · exact cutsG_ch b bd lo to r out x.2.1 x.2.2 h4 h3 (ho.mono (by omega))
    · split
      · exact ⟨ho, by simp only [Option.getD_some]; omega, hz⟩
      · exact cutsG_ch b bd lo to r _ x.2.2 x.2.2 h4 (Nat.le_refl _) (ho.snoc (by omega) (by omega))
theorem cutsF_ch (b bd : Bs) {fr to : Nat} (h : fr ≤ to) : CCh fr (cutsF b fr to bd).1 (cutsF b fr to bd).2.1 ∧ (cutsF b fr to bd).2.1 ≤ (cutsF b fr to bd).2.2 ∧ (cutsF b fr to bd).2.2 ≤ to :=
  cutsG_ch b bd fr to _ [] fr fr (linesOf_ch h) (Nat.le_refl _) (Nat.le_refl fr)
def KR (Q : Nat → Nat → Pt → Prop) (fin : Nat) : List (Nat × Nat) → List Pt → Prop
  | [], [] => True
  | c :: r, q :: ks => Q c.2 (nextF fin r) q ∧ KR Q fin r ks
  | _, _ => False
theorem KR.len {Q : Nat → Nat → Pt → Prop} {fin : Nat} : ∀ {cs : List (Nat × Nat)} {ks : List Pt}, KR Q fin cs ks → ks.length = cs.length
  | [], [], _ => rfl
  | c :: r, q :: ks, h => by simp [KR.len h.2]
  | [], _ :: _, h => h.elim
  | _ :: _, [], h => h.elim
theorem kidsF_kr (ent : Nat → Nat → Nat → Pt × Nat) (Q : Nat → Nat → Pt → Prop) (len fin : Nat) (hf : fin ≤ len) (h : ∀ fr to n, fr ≤ to → to ≤ len → Q fr to (ent fr to n).1) : ∀ (cs : List (Nat × Nat)) (n a : Nat), CCh a cs fin → KR Q fin cs (kidsF ent fin cs n).1
  | [], n, a, _ => by rw [kidsF]; trivial
  | c :: r, n, a, hc => by
    obtain ⟨h1, h2, h3⟩ := hc
    have hx : c.2 ≤ nextF fin r ∧ nextF fin r ≤ len := by
      cases r with
      | nil => exact ⟨h3, hf⟩
      | cons x r => have h5 := h3.2.2.le; have h4 := h3.2.1; have h6 := h3.1; simp only [nextF]; omega
    rw [kidsF]
    refine ⟨?_, kidsF_kr ent Q len fin hf h r _ _ h3⟩
    rw [Nat.max_eq_left hx.1]
    exact h _ _ _ hx.1 hx.2
theorem entF_rec (b : Bs) (P : Nat → Nat → Nat → Pt → Prop)
    (leaf : ∀ d fr at_ to, fr ≤ at_ → at_ ≤ to → to ≤ b.length → P d fr to (leafP fr at_ to))
    (multi : ∀ d fr at_ to cs (e : Nat × Nat) ks, fr ≤ at_ → at_ ≤ to → to ≤ b.length → CCh at_ cs e.1 → e.1 ≤ e.2 → e.2 ≤ to → 0 < cs.length → KR (P d) e.1 cs ks → P (d + 1) fr to (.mk 1 (fr, at_) (at_, to) ks cs e))
    (msg : ∀ d fr at_ to q, fr ≤ at_ → at_ ≤ to → to ≤ b.length → q.hd.1 = at_ → q.bd.2 = to → P d at_ to q → P (d + 1) fr to (.mk 2 (fr, at_) (at_, to) [q] [] (0, 0))) :
    ∀ (d fr to : Nat) (dg : Bool) (n : Nat), fr ≤ to → to ≤ b.length → P d fr to (entF b d fr to dg n).1
  | 0, fr, to, dg, n, hft, htl => by
    have := headF_span b hft
    rw [entF]
    exact leaf _ _ _ _ this.1 this.2 htl
  | d + 1, fr, to, dg, n, hft, htl => by
    have hsp := headF_span b hft
    generalize h1 : (headF b (fr : Nat) (to : Nat)).1 = l
    generalize h2 : (headF b (fr : Nat) (to : Nat)).2.toNat = at_ at hsp
    obtain ⟨t, u, ps, h3⟩ : ∃ t u ps, kindF b l dg = (t, u, ps) := ⟨_, _, _, rfl⟩
    generalize h4 : (getF ps bdB).getD [] = bd
    obtain ⟨cs, e, h5⟩ : ∃ cs e, cutsF b at_ to bd = (cs, e) := ⟨_, _, rfl⟩
    have hch := cutsF_ch b bd hsp.2
    rw [h5] at hch
    have hle : e.1 ≤ b.length := by have := hch.2.1; have := hch.2.2; simp only at *; omega
    have ih := entF_rec b P leaf multi msg d
    rw [entF_s b d fr to dg n h1 h2 h3 h4 h5]
    split
    · split
      · rename_i g
        exact multi d fr at_ to cs e _ hsp.1 hsp.2 htl hch.1 hch.2.1 hch.2.2 g.1 (kidsF_kr _ (P d) b.length e.1 hle (fun fr to n a1 a2 => ih fr to _ n a1 a2) cs _ _ hch.1)
      · exact leaf _ _ _ _ hsp.1 hsp.2 htl
    · split
      · obtain ⟨k1, k2⟩ := entF_hb b d at_ to false (n + 1)
        exact msg d fr at_ to _ hsp.1 hsp.2 htl (by rw [k1]) (by rw [k2]) (ih _ _ _ _ hsp.2 htl)
      · exact leaf _ _ _ _ hsp.1 hsp.2 htl
def Chn : Nat → List (Nat × Nat × Nat) → Nat → Prop
  | a, [], z => a = z
  | a, t :: r, z => t.1 ≤ 5 ∧ t.2.1 = a ∧ a ≤ t.2.2 ∧ Chn t.2.2 r z
theorem Chn.app {z y : Nat} {m : List (Nat × Nat × Nat)} (hm : Chn z m y) : ∀ {l : List (Nat × Nat × Nat)} {a : Nat}, Chn a l z → Chn a (l ++ m) y
  | [], a, h => by have : a = z := h; subst this; exact hm
  | t :: r, a, h => ⟨h.1, h.2.1, h.2.2.1, Chn.app hm h.2.2.2⟩
theorem Chn.le {z : Nat} : ∀ {l : List (Nat × Nat × Nat)} {a : Nat}, Chn a l z → a ≤ z
  | [], a, h => Nat.le_of_eq h
  | t :: r, a, h => Nat.le_trans h.2.2.1 (Chn.le h.2.2.2)
theorem Chn.chainT {z : Nat} : ∀ {l : List (Nat × Nat × Nat)} {a : Nat}, Chn a l z → chainT (a : Nat) l = some (z : Nat)
  | [], a, h => by have : a = z := h; subst this; rfl
  | t :: r, a, h => by
    obtain ⟨_, h1, h2, h3⟩ := h
    rw [Go.Proofs.YtemgbdncidgoiaaDoor.chainT, if_pos ⟨by omega, by omega⟩]
    exact Chn.chainT h3
theorem zip_ch {fin : Nat} {d : Nat} : ∀ {cs : List (Nat × Nat)} {ks : List Pt} {a : Nat}, CCh a cs fin → KR (fun fr to q => Chn fr (tilesP q) to) fin cs ks → Chn (nextF fin cs) (zipT cs (tilesL ks)) fin
  | [], [], a, _, _ => rfl
  | c :: r, q :: ks, a, h, hk => by
    obtain ⟨h1, h2, h3⟩ := h
    have := zip_ch (d := d) h3 hk.2
    rw [tilesL]
    exact ⟨by simp, rfl, h2, this.app hk.1⟩
  | [], _ :: _, _, _, h => h.elim
  | _ :: _, [], _, _, h => h.elim
theorem entF_chn (b : Bs) (d fr to : Nat) (dg : Bool) (n : Nat) (h1 : fr ≤ to) (h2 : to ≤ b.length) : Chn fr (tilesP (entF b d fr to dg n).1) to := by
  refine entF_rec b (fun _ fr to p => Chn fr (tilesP p) to) ?_ ?_ ?_ d fr to dg n h1 h2
  · intro d fr at_ to k1 k2 k3
    unfold leafP
    rw [tilesP, if_neg (by decide), if_neg (by decide)]
    exact ⟨by simp, rfl, k1, by simp, rfl, k2, rfl⟩
  · intro d fr at_ to cs e ks k1 k2 k3 k4 k5 k6 k7 k8
    have hl := k8.len
    have hz := zip_ch (d := d) k4 k8
    rw [tilesP, if_pos rfl, if_pos (by omega)]
    cases cs with
    | nil => simp at k7
    | cons c r =>
      refine ⟨by simp, rfl, k1, by simp, rfl, k4.1, ?_⟩
      refine Chn.app ?_ hz
      exact ⟨by simp, rfl, k5, by simp, rfl, k6, rfl⟩
  · intro d fr at_ to q k1 k2 k3 k4 k5 k6
    rw [tilesP, if_neg (by decide), if_pos rfl]
    exact ⟨by simp, rfl, k1, k6⟩
mutual
def FitsP : Pt → Prop
  | .mk k h b kids cuts e => ((k = 0 ∧ cuts = [] ∧ e = (0, 0) ∧ kids = []) ∨ (k = 1 ∧ 0 < kids.length ∧ kids.length = cuts.length) ∨ (k = 2 ∧ cuts = [] ∧ e = (0, 0) ∧ ∃ q, kids = [q] ∧ q.hd.1 = b.1 ∧ q.bd.2 = b.2)) ∧ h.2 = b.1 ∧ b.1 ≤ b.2 ∧ FitsL kids
def FitsL : List Pt → Prop
  | [] => True
  | p :: r => FitsP p ∧ FitsL r
end
theorem kr_fits {fin : Nat} : ∀ {cs : List (Nat × Nat)} {ks : List Pt}, KR (fun _ _ q => FitsP q) fin cs ks → FitsL ks
  | [], [], _ => by rw [FitsL]; trivial
  | c :: r, q :: ks, h => by rw [FitsL]; exact ⟨h.1, kr_fits h.2⟩
  | [], _ :: _, h => h.elim
  | _ :: _, [], h => h.elim
theorem entF_fits (b : Bs) (d fr to : Nat) (dg : Bool) (n : Nat) (h1 : fr ≤ to) (h2 : to ≤ b.length) : FitsP (entF b d fr to dg n).1 := by
  refine entF_rec b (fun _ _ _ p => FitsP p) ?_ ?_ ?_ d fr to dg n h1 h2
  · intro d fr at_ to k1 k2 k3
    unfold leafP
    rw [FitsP, FitsL]
    exact ⟨.inl ⟨rfl, rfl, rfl, rfl⟩, rfl, k2, trivial⟩
  · intro d fr at_ to cs e ks k1 k2 k3 k4 k5 k6 k7 k8
    have hl := k8.len
    rw [FitsP]
    exact ⟨.inr (.inl ⟨rfl, by omega, hl⟩), rfl, k2, kr_fits k8⟩
  · intro d fr at_ to q k1 k2 k3 k4 k5 k6
    rw [FitsP, FitsL, FitsL]
    exact ⟨.inr (.inr ⟨rfl, rfl, rfl, q, rfl, k4, k5⟩), rfl, k2, k6, trivial⟩
theorem kr_dp {fin d : Nat} : ∀ {cs : List (Nat × Nat)} {ks : List Pt}, KR (fun _ _ q => dpF q ≤ d) fin cs ks → dpL ks ≤ d + 1
  | [], [], _ => by simp [dpL]
  | c :: r, q :: ks, h => by have := kr_dp h.2; have := h.1; rw [dpL]; omega
  | [], _ :: _, h => h.elim
  | _ :: _, [], h => h.elim
theorem entF_dp (b : Bs) (d fr to : Nat) (dg : Bool) (n : Nat) (h1 : fr ≤ to) (h2 : to ≤ b.length) : dpF (entF b d fr to dg n).1 ≤ d := by
  refine entF_rec b (fun d _ _ p => dpF p ≤ d) ?_ ?_ ?_ d fr to dg n h1 h2
  · intro d fr at_ to k1 k2 k3
    unfold leafP
    simp [dpF, dpL]
  · intro d fr at_ to cs e ks k1 k2 k3 k4 k5 k6 k7 k8
    rw [dpF]; exact kr_dp k8
  · intro d fr at_ to q k1 k2 k3 k4 k5 k6
    simp only [dpF, dpL]; omega
mutual
theorem tiles_cnt : ∀ p : Pt, (tilesP p).length + 1 ≤ 5 * cntF p
  | .mk k h b kids cuts e => by
    have := tilesL_cnt cuts kids
    have h2 := tilesL_head kids
    rw [tilesP, cntF]
    split
    · simp only [List.length_cons, List.length_append, List.length_nil]; omega
    · split
      · simp only [List.length_cons]; omega
      · simp only [List.length_cons, List.length_nil]; omega
theorem tilesL_cnt : ∀ (cs : List (Nat × Nat)) (l : List Pt), (zipT cs (tilesL l)).length ≤ 5 * cntL l
  | [], l => by simp [zipT]
  | c :: cs, [] => by rw [tilesL, zipT_nil]; simp
  | c :: cs, p :: r => by
    have h1 := tiles_cnt p
    have h2 := tilesL_cnt cs r
    rw [tilesL, cntL]
    simp only [zipT, List.length_cons, List.length_append]
    omega
theorem tilesL_head : ∀ l : List Pt, ((tilesL l).headD []).length ≤ 5 * cntL l
  | [] => by simp [tilesL]
  | p :: r => by
    have h1 := tiles_cnt p
    rw [tilesL, cntL, List.headD_cons]; omega
end
end Go.Proofs.YtemgbdncidgoiaaDoor
end
section
namespace Go.Proofs.YtemgbdncidgoiaaDoor
open Go.Ev Go
mutual
def talF : Pt → Nat × Nat × Nat
  | .mk k _ _ kids cuts _ => ((if k = 0 then 1 else 0) + (talL kids).1, (if k = 1 then 1 else 0) + (talL kids).2.1, (if k = 1 then cuts.length else 0) + (talL kids).2.2)
def talL : List Pt → Nat × Nat × Nat
  | [] => (0, 0, 0)
  | p :: r => ((talF p).1 + (talL r).1, (talF p).2.1 + (talL r).2.1, (talF p).2.2 + (talL r).2.2)
end
def cK (j : Nat) : List (Nat × Nat × Nat) → Nat
  | [] => 0
  | t :: r => (if t.1 = j then 1 else 0) + cK j r
theorem cK_app (j : Nat) : ∀ l m : List (Nat × Nat × Nat), cK j (l ++ m) = cK j l + cK j m
  | [], m => by simp [cK]
  | t :: r, m => by simp only [List.cons_append, cK, cK_app j r m]; omega
def wantK (j : Nat) (p : Pt) : Nat := if j = 0 then cntF p else if j = 1 then (talF p).1 else if j = 3 then (talF p).2.2 else (talF p).2.1
def wantL (j : Nat) (l : List Pt) : Nat := if j = 0 then cntL l else if j = 1 then (talL l).1 else if j = 3 then (talL l).2.2 else (talL l).2.1
theorem wantL_cons (j : Nat) (p : Pt) (r : List Pt) : wantL j (p :: r) = wantK j p + wantL j r := by
  unfold wantL wantK
  rw [cntL, talL]
  split
  · rfl
  split
  · rfl
  split <;> rfl
mutual
theorem cK_tiles (j : Nat) (hj : j ≤ 5) : ∀ p : Pt, FitsP p → cK j (tilesP p) = wantK j p
  | .mk k h b kids cuts e, hf => by
    rw [FitsP] at hf
    obtain ⟨hk, _, _, hl⟩ := hf
    have ih := cK_zip j hj cuts kids hl
    rw [tilesP]
    rcases hk with ⟨rfl, rfl, rfl, rfl⟩ | ⟨rfl, h0, h1⟩ | ⟨rfl, rfl, rfl, q, rfl, _⟩
    · rw [if_neg (by decide), if_neg (by decide)]
      simp only [cK, wantK, cntF, cntL, talF, talL]
      match j, hj with
      | 0, _ => rfl
      | 1, _ => rfl
      | 2, _ => rfl
      | 3, _ => rfl
      | 4, _ => rfl
      | 5, _ => rfl
    · have ih := ih h1.symm
      rw [if_pos rfl]
      simp only [cK, cK_app, ih, wantK, wantL, cntF, talF]
      match j, hj with
      | 0, _ => simp <;> omega
      | 1, _ => simp <;> omega
      | 2, _ => simp <;> omega
      | 3, _ => simp <;> omega
      | 4, _ => simp <;> omega
      | 5, _ => simp <;> omega
    · rw [FitsL] at hl
      have ih := cK_tiles j hj q hl.1
      rw [if_neg (by decide), if_pos rfl, tilesL, List.headD_cons]
      simp only [cK, ih, wantK, cntF, cntL, talF, talL]
      match j, hj with
      | 0, _ => simp
      | 1, _ => simp
      | 2, _ => simp
      | 3, _ => simp
      | 4, _ => simp
      | 5, _ => simp
theorem cK_zip (j : Nat) (hj : j ≤ 5) : ∀ (cs : List (Nat × Nat)) (ks : List Pt), FitsL ks → cs.length = ks.length → cK j (zipT cs (tilesL ks)) = (if j = 3 then cs.length else 0) + wantL j ks
  | [], [], _, _ => by
    rw [tilesL]
    simp [zipT, cK, wantL, cntL, talL]
  | [], _ :: _, _, h => by simp at h
  | _ :: _, [], _, h => by simp at h
  | c :: cs, p :: r, hf, h => by
    rw [FitsL] at hf
    have h1 := cK_tiles j hj p hf.1
    have h2 := cK_zip j hj cs r hf.2 (by simpa using h)
    rw [tilesL, wantL_cons]
    simp only [zipT, List.cons_append, cK, cK_app, h1, h2, List.length_cons]
    by_cases h3 : j = 3
    · subst h3; simp; omega
    · have : ¬ (3 = j) := fun e => h3 e.symm
      simp [h3, this]
end
mutual
theorem tal_le : ∀ p : Pt, FitsP p → (talF p).1 ≤ cntF p ∧ (talF p).2.1 ≤ cntF p ∧ (talF p).2.2 + 1 ≤ cntF p
  | .mk k h b kids cuts e, hf => by
    rw [FitsP] at hf
    obtain ⟨hk, _, _, hl⟩ := hf
    have ih := talL_le kids hl
    rw [talF, cntF]
    rcases hk with ⟨rfl, rfl, rfl, rfl⟩ | ⟨rfl, h0, h1⟩ | ⟨rfl, rfl, rfl, q, rfl, _⟩
    · simp [talL]
    · simp only [if_true]; simp; omega
    · simp; omega
theorem talL_le : ∀ l : List Pt, FitsL l → (talL l).1 ≤ cntL l ∧ (talL l).2.1 ≤ cntL l ∧ (talL l).2.2 + l.length ≤ cntL l
  | [], _ => by simp [talL]
  | p :: r, hf => by
    rw [FitsL] at hf
    have h1 := tal_le p hf.1
    have h2 := talL_le r hf.2
    rw [talL, cntL]
    simp only [List.length_cons]; omega
end
end Go.Proofs.YtemgbdncidgoiaaDoor
end
section
namespace Go.Proofs.YtemgbdncidgoiaaDoor
open Go.Ev Go
open List (headD tail getD length drop take)
open V (getI getL getT getS getB)
set_option maxRecDepth 100000
variable (call : FuncId → Fun) (icall : ICall (V × List Ob)) (again : List It → St → Option (V × List Ob))
def T25 (call : FuncId → Fun) (a0 : Int) (a1 : Int) (a2 : Int) (a3 : Int) (a4 : Int) (a5 : List V) (a6 : List V) (a7 : Int) (a8 : Int) : Option (V × List Ob) :=
 some ((V.agg [(V.int .i64 a1), (V.int .i64 a4)]), [])
def A25 (a0 : Int) (a1 : Int) (a2 : Int) (a3 : Int) (a4 : Int) (a5 : List V) (a6 : List V) (a7 : Int) (a8 : Int) : List V := [V.agg [V.int IntKind.i64 a0, V.int IntKind.i64 a1, V.int IntKind.i64 a2, V.int IntKind.i64 a3, V.int IntKind.i64 a4, V.lst 28 false a5, V.lst 24 false a6, V.int IntKind.i64 a7, V.int IntKind.i64 a8]]
theorem E25 (a0 : Int) (a1 : Int) (a2 : Int) (a3 : Int) (a4 : Int) (a5 : List V) (a6 : List V) (a7 : Int) (a8 : Int) : GO 25 Tryd.f25 (A25 a0 a1 a2 a3 a4 a5 a6 a7 a8) [] call icall again = T25 call a0 a1 a2 a3 a4 a5 a6 a7 a8 := by kernel_rfl
theorem C25 (k : Nat) (a0 : Int) (a1 : Int) (a2 : Int) (a3 : Int) (a4 : Int) (a5 : List V) (a6 : List V) (a7 : Int) (a8 : Int) : callN cfg (k + 1) 25 (A25 a0 a1 a2 a3 a4 a5 a6 a7 a8) [] = T25 (callN cfg k) a0 a1 a2 a3 a4 a5 a6 a7 a8 :=
 (show callN cfg (k + 1) 25 (A25 a0 a1 a2 a3 a4 a5 a6 a7 a8) [] = GO 25 Tryd.f25 (A25 a0 a1 a2 a3 a4 a5 a6 a7 a8) [] (callN cfg k) (icallN cfg (callN cfg k) 20) (RN 25 Tryd.f25 [] (callN cfg k) (icallN cfg (callN cfg k) 20) k) by kernel_rfl).trans (E25 _ _ _ a0 a1 a2 a3 a4 a5 a6 a7 a8)
theorem M25 (a0 : Int) (a1 : Int) (a2 : Int) (a3 : Int) (a4 : Int) (a5 : List V) (a6 : List V) (a7 : Int) (a8 : Int) {r : V × List Ob} (h : Evt (fun k n => T25 (callN cfg k) a0 a1 a2 a3 a4 a5 a6 a7 a8) r) : Ret 25 [V.agg [V.int IntKind.i64 a0, V.int IntKind.i64 a1, V.int IntKind.i64 a2, V.int IntKind.i64 a3, V.int IntKind.i64 a4, V.lst 28 false a5, V.lst 24 false a6, V.int IntKind.i64 a7, V.int IntKind.i64 a8]] [] r := ret_mk (g := fun k n => T25 (callN cfg k) a0 a1 a2 a3 a4 a5 a6 a7 a8) (fun k => C25 k a0 a1 a2 a3 a4 a5 a6 a7 a8) h
def T26_0 (call : FuncId → Fun) (ag0 : Int → Int → Int → Int → Int → Int → Int → Int → Int → List V → List V → Int → Int → Option (V × List Ob)) (i0 : Int) (i1 : Int) (i2 : Int) (i3 : Int) (i4 : Int) (i5 : Int) (i6 : Int) (i7 : Int) (i8 : Int) (l9 : List V) (l10 : List V) (i11 : Int) (i12 : Int) : Option (V × List Ob) :=
 if (decide (i3 < ((length l9 : Nat) : Int))) = true then
 chk (decide (0 ≤ i3)) (chk (decide (i3 < ((length l9 : Nat) : Int))) (Option.bind (call 26 [(V.agg [(V.int .i64 (getI (headD (V.cells (getD l9 (Int.toNat i3) V.bot)) V.bot))), (V.int .i64 (getI (headD (tail (V.cells (getD l9 (Int.toNat i3) V.bot))) V.bot))), (V.int .i64 (getI (headD (tail (tail (V.cells (getD l9 (Int.toNat i3) V.bot)))) V.bot))), (V.int .i64 (getI (headD (tail (tail (tail (V.cells (getD l9 (Int.toNat i3) V.bot))))) V.bot))), (V.int .i64 (getI (headD (tail (tail (tail (tail (V.cells (getD l9 (Int.toNat i3) V.bot)))))) V.bot))), (V.lst 28 false (getL (headD (tail (tail (tail (tail (tail (V.cells (getD l9 (Int.toNat i3) V.bot))))))) V.bot))), (V.lst 24 false (getL (headD (tail (tail (tail (tail (tail (tail (V.cells (getD l9 (Int.toNat i3) V.bot)))))))) V.bot))), (V.int .i64 (getI (headD (tail (tail (tail (tail (tail (tail (tail (V.cells (getD l9 (Int.toNat i3) V.bot))))))))) V.bot))), (V.int .i64 (getI (headD (tail (tail (tail (tail (tail (tail (tail (tail (V.cells (getD l9 (Int.toNat i3) V.bot)))))))))) V.bot)))])] []) fun z0 =>
 (ag0 ((IntKind.wrap .i64 (i0 + (getI (headD (getT z0.1) V.bot))))) ((IntKind.wrap .i64 (i1 + (getI (headD (tail (getT z0.1)) V.bot))))) ((IntKind.wrap .i64 (i2 + (getI (headD (tail (tail (getT z0.1))) V.bot))))) ((IntKind.wrap .i64 (i3 + (1 : Int)))) (i4) (i5) (i6) (i7) (i8) (l9) (l10) (i11) (i12))))
 else
 some ((V.tup [(V.int .i64 i0), (V.int .i64 i1), (V.int .i64 i2)]), [])
def T26 (call : FuncId → Fun) (ag0 : Int → Int → Int → Int → Int → Int → Int → Int → Int → List V → List V → Int → Int → Option (V × List Ob)) (a0 : Int) (a1 : Int) (a2 : Int) (a3 : Int) (a4 : Int) (a5 : List V) (a6 : List V) (a7 : Int) (a8 : Int) : Option (V × List Ob) :=
 if (a0 == (0 : Int)) = true then
 if (a0 == (1 : Int)) = true then
 (ag0 ((1 : Int)) ((1 : Int)) (((length a6 : Nat) : Int)) ((0 : Int)) (a0) (a1) (a2) (a3) (a4) (a5) (a6) (a7) (a8))
 else
 (ag0 ((1 : Int)) ((0 : Int)) ((0 : Int)) ((0 : Int)) (a0) (a1) (a2) (a3) (a4) (a5) (a6) (a7) (a8))
 else
 if (a0 == (1 : Int)) = true then
 (ag0 ((0 : Int)) ((1 : Int)) (((length a6 : Nat) : Int)) ((0 : Int)) (a0) (a1) (a2) (a3) (a4) (a5) (a6) (a7) (a8))
 else
 (ag0 ((0 : Int)) ((0 : Int)) ((0 : Int)) ((0 : Int)) (a0) (a1) (a2) (a3) (a4) (a5) (a6) (a7) (a8))
def A26 (a0 : Int) (a1 : Int) (a2 : Int) (a3 : Int) (a4 : Int) (a5 : List V) (a6 : List V) (a7 : Int) (a8 : Int) : List V := [V.agg [V.int IntKind.i64 a0, V.int IntKind.i64 a1, V.int IntKind.i64 a2, V.int IntKind.i64 a3, V.int IntKind.i64 a4, V.lst 28 false a5, V.lst 24 false a6, V.int IntKind.i64 a7, V.int IntKind.i64 a8]]
def K26_0 (i0 : Int) (i1 : Int) (i2 : Int) (i3 : Int) (i4 : Int) (i5 : Int) (i6 : Int) (i7 : Int) (i8 : Int) (l9 : List V) (l10 : List V) (i11 : Int) (i12 : Int) : St := ⟨[V.bot, (V.ref 0 0), V.bot, V.bot, V.bot, (V.int IntKind.i64 i0), (V.int IntKind.i64 i1), (V.int IntKind.i64 i2), (V.int IntKind.i64 i3)] ++ List.replicate 41 V.bot, [(Ob.cells [(V.int IntKind.i64 i4), (V.int IntKind.i64 i5), (V.int IntKind.i64 i6), (V.int IntKind.i64 i7), (V.int IntKind.i64 i8), (V.lst 28 false l9), (V.lst 24 false l10), (V.int IntKind.i64 i11), (V.int IntKind.i64 i12)])]⟩
theorem S26_0 (i0 : Int) (i1 : Int) (i2 : Int) (i3 : Int) (i4 : Int) (i5 : Int) (i6 : Int) (i7 : Int) (i8 : Int) (l9 : List V) (l10 : List V) (i11 : Int) (i12 : Int) :
 RM 26 Tryd.f26 [] call icall again (tdOf Tryd.f26 0) (K26_0 i0 i1 i2 i3 i4 i5 i6 i7 i8 l9 l10 i11 i12) = T26_0 call (fun i0 i1 i2 i3 i4 i5 i6 i7 i8 l9 l10 i11 i12 => again (tdOf Tryd.f26 0) (K26_0 i0 i1 i2 i3 i4 i5 i6 i7 i8 l9 l10 i11 i12)) i0 i1 i2 i3 i4 i5 i6 i7 i8 l9 l10 i11 i12 := by kernel_rfl
theorem E26 (a0 : Int) (a1 : Int) (a2 : Int) (a3 : Int) (a4 : Int) (a5 : List V) (a6 : List V) (a7 : Int) (a8 : Int) : GO 26 Tryd.f26 (A26 a0 a1 a2 a3 a4 a5 a6 a7 a8) [] call icall again = T26 call (fun i0 i1 i2 i3 i4 i5 i6 i7 i8 l9 l10 i11 i12 => again (tdOf Tryd.f26 0) (K26_0 i0 i1 i2 i3 i4 i5 i6 i7 i8 l9 l10 i11 i12)) a0 a1 a2 a3 a4 a5 a6 a7 a8 := by kernel_rfl
def L26 (call : FuncId → Fun) : Nat → (Int → Int → Int → Int → Int → Int → Int → Int → Int → List V → List V → Int → Int → Option (V × List Ob))
 | 0 => fun _ _ _ _ _ _ _ _ _ _ _ _ _ => none
 | n + 1 => T26_0 call (L26 call n)
theorem R26 (call : FuncId → Fun) (icall : ICall (V × List Ob)) : ∀ n, (∀ (i0 : Int) (i1 : Int) (i2 : Int) (i3 : Int) (i4 : Int) (i5 : Int) (i6 : Int) (i7 : Int) (i8 : Int) (l9 : List V) (l10 : List V) (i11 : Int) (i12 : Int), RN 26 Tryd.f26 [] call icall n (tdOf Tryd.f26 0) (K26_0 i0 i1 i2 i3 i4 i5 i6 i7 i8 l9 l10 i11 i12) = (L26 call n) i0 i1 i2 i3 i4 i5 i6 i7 i8 l9 l10 i11 i12)
  | 0 => fun i0 i1 i2 i3 i4 i5 i6 i7 i8 l9 l10 i11 i12 => rfl
  | n + 1 => by
    have ih := R26 call icall n
    exact fun i0 i1 i2 i3 i4 i5 i6 i7 i8 l9 l10 i11 i12 => (S26_0 call icall (RN 26 Tryd.f26 [] call icall n) i0 i1 i2 i3 i4 i5 i6 i7 i8 l9 l10 i11 i12).trans (by rw [show (fun i0 i1 i2 i3 i4 i5 i6 i7 i8 l9 l10 i11 i12 => RN 26 Tryd.f26 [] call icall n (tdOf Tryd.f26 0) (K26_0 i0 i1 i2 i3 i4 i5 i6 i7 i8 l9 l10 i11 i12)) = (L26 call n) from (funext fun i0 => funext fun i1 => funext fun i2 => funext fun i3 => funext fun i4 => funext fun i5 => funext fun i6 => funext fun i7 => funext fun i8 => funext fun l9 => funext fun l10 => funext fun i11 => funext fun i12 => ih i0 i1 i2 i3 i4 i5 i6 i7 i8 l9 l10 i11 i12)]; rfl)
theorem C26 (k : Nat) (a0 : Int) (a1 : Int) (a2 : Int) (a3 : Int) (a4 : Int) (a5 : List V) (a6 : List V) (a7 : Int) (a8 : Int) : callN cfg (k + 1) 26 (A26 a0 a1 a2 a3 a4 a5 a6 a7 a8) [] = T26 (callN cfg k) (L26 (callN cfg k) k) a0 a1 a2 a3 a4 a5 a6 a7 a8 := by
 have ih := R26 (callN cfg k) (icallN cfg (callN cfg k) 20) k
 refine (show callN cfg (k + 1) 26 (A26 a0 a1 a2 a3 a4 a5 a6 a7 a8) [] = GO 26 Tryd.f26 (A26 a0 a1 a2 a3 a4 a5 a6 a7 a8) [] (callN cfg k) (icallN cfg (callN cfg k) 20) (RN 26 Tryd.f26 [] (callN cfg k) (icallN cfg (callN cfg k) 20) k) by kernel_rfl).trans ((E26 _ _ _ a0 a1 a2 a3 a4 a5 a6 a7 a8).trans ?_)
 rw [show (fun i0 i1 i2 i3 i4 i5 i6 i7 i8 l9 l10 i11 i12 => RN 26 Tryd.f26 [] (callN cfg k) (icallN cfg (callN cfg k) 20) k (tdOf Tryd.f26 0) (K26_0 i0 i1 i2 i3 i4 i5 i6 i7 i8 l9 l10 i11 i12)) = (L26 (callN cfg k) k) from (funext fun i0 => funext fun i1 => funext fun i2 => funext fun i3 => funext fun i4 => funext fun i5 => funext fun i6 => funext fun i7 => funext fun i8 => funext fun l9 => funext fun l10 => funext fun i11 => funext fun i12 => ih i0 i1 i2 i3 i4 i5 i6 i7 i8 l9 l10 i11 i12)]
theorem M26 (a0 : Int) (a1 : Int) (a2 : Int) (a3 : Int) (a4 : Int) (a5 : List V) (a6 : List V) (a7 : Int) (a8 : Int) {r : V × List Ob} (h : Evt (fun k n => T26 (callN cfg k) (L26 (callN cfg k) n) a0 a1 a2 a3 a4 a5 a6 a7 a8) r) : Ret 26 [V.agg [V.int IntKind.i64 a0, V.int IntKind.i64 a1, V.int IntKind.i64 a2, V.int IntKind.i64 a3, V.int IntKind.i64 a4, V.lst 28 false a5, V.lst 24 false a6, V.int IntKind.i64 a7, V.int IntKind.i64 a8]] [] r := ret_mk (g := fun k n => T26 (callN cfg k) (L26 (callN cfg k) n) a0 a1 a2 a3 a4 a5 a6 a7 a8) (fun k => C26 k a0 a1 a2 a3 a4 a5 a6 a7 a8) h
theorem N26_0 (i0 : Int) (i1 : Int) (i2 : Int) (i3 : Int) (i4 : Int) (i5 : Int) (i6 : Int) (i7 : Int) (i8 : Int) (l9 : List V) (l10 : List V) (i11 : Int) (i12 : Int) {r : V × List Ob} (h : Evt (fun k n => T26_0 (callN cfg k) (L26 (callN cfg k) n) i0 i1 i2 i3 i4 i5 i6 i7 i8 l9 l10 i11 i12) r) : Evt (fun k n => (L26 (callN cfg k) n) i0 i1 i2 i3 i4 i5 i6 i7 i8 l9 l10 i11 i12) r := evt_step (fun k n => rfl) h
def T33 (call : FuncId → Fun) (a0 : Int) (a1 : Int) (a2 : Int) (a3 : Int) (a4 : Int) (a5 : List V) (a6 : List V) (a7 : Int) (a8 : Int) : Option (V × List Ob) :=
 if (((length a6 : Nat) : Int) == (0 : Int)) = true then
 if (a0 == (0 : Int)) = true then
 Option.bind (if ((a7 == (0 : Int)) && ((a8 == (0 : Int)) && true)) = true then
 some (((length a5 : Nat) : Int) == (0 : Int))
 else
 some false) fun y0 =>
 if y0 = true then
 if (a2 == a3) = true then
 if (decide (a3 ≤ a4)) = true then
 Option.bind (call 45 [(V.lst 28 false a5), (V.clo (Fn.func 46) [] [])] []) fun z1 =>
 some ((V.bool (!(getB z1.1))), [])
 else
 some ((V.bool false), [])
 else
 some ((V.bool false), [])
 else
 some ((V.bool false), [])
 else
 if (a0 == (1 : Int)) = true then
 Option.bind (if (decide (((length a5 : Nat) : Int) > (0 : Int))) = true then
 some (((length a5 : Nat) : Int) == ((length a6 : Nat) : Int))
 else
 some false) fun y0 =>
 if y0 = true then
 if (a2 == a3) = true then
 if (decide (a3 ≤ a4)) = true then
 Option.bind (call 45 [(V.lst 28 false a5), (V.clo (Fn.func 46) [] [])] []) fun z1 =>
 some ((V.bool (!(getB z1.1))), [])
 else
 some ((V.bool false), [])
 else
 some ((V.bool false), [])
 else
 some ((V.bool false), [])
 else
 if (a0 == (2 : Int)) = true then
 if ((a7 == (0 : Int)) && ((a8 == (0 : Int)) && true)) = true then
 if (((length a5 : Nat) : Int) == (1 : Int)) = true then
 chk (decide (0 ≤ (0 : Int))) (chk (decide ((0 : Int) < ((length a5 : Nat) : Int))) (Option.bind (call 25 [(V.agg [(V.int .i64 (getI (headD (V.cells (getD a5 (Int.toNat (0 : Int)) V.bot)) V.bot))), (V.int .i64 (getI (headD (tail (V.cells (getD a5 (Int.toNat (0 : Int)) V.bot))) V.bot))), (V.int .i64 (getI (headD (tail (tail (V.cells (getD a5 (Int.toNat (0 : Int)) V.bot)))) V.bot))), (V.int .i64 (getI (headD (tail (tail (tail (V.cells (getD a5 (Int.toNat (0 : Int)) V.bot))))) V.bot))), (V.int .i64 (getI (headD (tail (tail (tail (tail (V.cells (getD a5 (Int.toNat (0 : Int)) V.bot)))))) V.bot))), (V.lst 28 false (getL (headD (tail (tail (tail (tail (tail (V.cells (getD a5 (Int.toNat (0 : Int)) V.bot))))))) V.bot))), (V.lst 24 false (getL (headD (tail (tail (tail (tail (tail (tail (V.cells (getD a5 (Int.toNat (0 : Int)) V.bot)))))))) V.bot))), (V.int .i64 (getI (headD (tail (tail (tail (tail (tail (tail (tail (V.cells (getD a5 (Int.toNat (0 : Int)) V.bot))))))))) V.bot))), (V.int .i64 (getI (headD (tail (tail (tail (tail (tail (tail (tail (tail (V.cells (getD a5 (Int.toNat (0 : Int)) V.bot)))))))))) V.bot)))])] []) fun z0 =>
 if (((getI (headD (V.cells z0.1) V.bot)) == a3) && (((getI (headD (tail (V.cells z0.1)) V.bot)) == a4) && true)) = true then
 if (a2 == a3) = true then
 if (decide (a3 ≤ a4)) = true then
 Option.bind (call 45 [(V.lst 28 false a5), (V.clo (Fn.func 46) [] [])] []) fun z1 =>
 some ((V.bool (!(getB z1.1))), [])
 else
 some ((V.bool false), [])
 else
 some ((V.bool false), [])
 else
 some ((V.bool false), [])))
 else
 some ((V.bool false), [])
 else
 some ((V.bool false), [])
 else
 some ((V.bool false), [])
 else
 if (a0 == (0 : Int)) = true then
 Option.bind (some false) fun y0 =>
 if y0 = true then
 if (a2 == a3) = true then
 if (decide (a3 ≤ a4)) = true then
 Option.bind (call 45 [(V.lst 28 false a5), (V.clo (Fn.func 46) [] [])] []) fun z1 =>
 some ((V.bool (!(getB z1.1))), [])
 else
 some ((V.bool false), [])
 else
 some ((V.bool false), [])
 else
 some ((V.bool false), [])
 else
 if (a0 == (1 : Int)) = true then
 Option.bind (if (decide (((length a5 : Nat) : Int) > (0 : Int))) = true then
 some (((length a5 : Nat) : Int) == ((length a6 : Nat) : Int))
 else
 some false) fun y0 =>
 if y0 = true then
 if (a2 == a3) = true then
 if (decide (a3 ≤ a4)) = true then
 Option.bind (call 45 [(V.lst 28 false a5), (V.clo (Fn.func 46) [] [])] []) fun z1 =>
 some ((V.bool (!(getB z1.1))), [])
 else
 some ((V.bool false), [])
 else
 some ((V.bool false), [])
 else
 some ((V.bool false), [])
 else
 if (a0 == (2 : Int)) = true then
 some ((V.bool false), [])
 else
 some ((V.bool false), [])
def A33 (a0 : Int) (a1 : Int) (a2 : Int) (a3 : Int) (a4 : Int) (a5 : List V) (a6 : List V) (a7 : Int) (a8 : Int) : List V := [V.agg [V.int IntKind.i64 a0, V.int IntKind.i64 a1, V.int IntKind.i64 a2, V.int IntKind.i64 a3, V.int IntKind.i64 a4, V.lst 28 false a5, V.lst 24 false a6, V.int IntKind.i64 a7, V.int IntKind.i64 a8]]
theorem E33 (a0 : Int) (a1 : Int) (a2 : Int) (a3 : Int) (a4 : Int) (a5 : List V) (a6 : List V) (a7 : Int) (a8 : Int) : GO 33 Tryd.f33 (A33 a0 a1 a2 a3 a4 a5 a6 a7 a8) [] call icall again = T33 call a0 a1 a2 a3 a4 a5 a6 a7 a8 := by kernel_rfl
theorem C33 (k : Nat) (a0 : Int) (a1 : Int) (a2 : Int) (a3 : Int) (a4 : Int) (a5 : List V) (a6 : List V) (a7 : Int) (a8 : Int) : callN cfg (k + 1) 33 (A33 a0 a1 a2 a3 a4 a5 a6 a7 a8) [] = T33 (callN cfg k) a0 a1 a2 a3 a4 a5 a6 a7 a8 :=
 (show callN cfg (k + 1) 33 (A33 a0 a1 a2 a3 a4 a5 a6 a7 a8) [] = GO 33 Tryd.f33 (A33 a0 a1 a2 a3 a4 a5 a6 a7 a8) [] (callN cfg k) (icallN cfg (callN cfg k) 20) (RN 33 Tryd.f33 [] (callN cfg k) (icallN cfg (callN cfg k) 20) k) by kernel_rfl).trans (E33 _ _ _ a0 a1 a2 a3 a4 a5 a6 a7 a8)
theorem M33 (a0 : Int) (a1 : Int) (a2 : Int) (a3 : Int) (a4 : Int) (a5 : List V) (a6 : List V) (a7 : Int) (a8 : Int) {r : V × List Ob} (h : Evt (fun k n => T33 (callN cfg k) a0 a1 a2 a3 a4 a5 a6 a7 a8) r) : Ret 33 [V.agg [V.int IntKind.i64 a0, V.int IntKind.i64 a1, V.int IntKind.i64 a2, V.int IntKind.i64 a3, V.int IntKind.i64 a4, V.lst 28 false a5, V.lst 24 false a6, V.int IntKind.i64 a7, V.int IntKind.i64 a8]] [] r := ret_mk (g := fun k n => T33 (callN cfg k) a0 a1 a2 a3 a4 a5 a6 a7 a8) (fun k => C33 k a0 a1 a2 a3 a4 a5 a6 a7 a8) h
def T46 (call : FuncId → Fun) (a0 : Int) (a1 : Int) (a2 : Int) (a3 : Int) (a4 : Int) (a5 : List V) (a6 : List V) (a7 : Int) (a8 : Int) : Option (V × List Ob) :=
 Option.bind (call 33 [(V.agg [(V.int .i64 a0), (V.int .i64 a1), (V.int .i64 a2), (V.int .i64 a3), (V.int .i64 a4), (V.lst 28 false a5), (V.lst 24 false a6), (V.int .i64 a7), (V.int .i64 a8)])] []) fun z0 =>
 some ((V.bool (!(getB z0.1))), [])
def A46 (a0 : Int) (a1 : Int) (a2 : Int) (a3 : Int) (a4 : Int) (a5 : List V) (a6 : List V) (a7 : Int) (a8 : Int) : List V := [V.agg [V.int IntKind.i64 a0, V.int IntKind.i64 a1, V.int IntKind.i64 a2, V.int IntKind.i64 a3, V.int IntKind.i64 a4, V.lst 28 false a5, V.lst 24 false a6, V.int IntKind.i64 a7, V.int IntKind.i64 a8]]
theorem E46 (a0 : Int) (a1 : Int) (a2 : Int) (a3 : Int) (a4 : Int) (a5 : List V) (a6 : List V) (a7 : Int) (a8 : Int) : GO 46 Tryd.f46 (A46 a0 a1 a2 a3 a4 a5 a6 a7 a8) [] call icall again = T46 call a0 a1 a2 a3 a4 a5 a6 a7 a8 := by kernel_rfl
theorem C46 (k : Nat) (a0 : Int) (a1 : Int) (a2 : Int) (a3 : Int) (a4 : Int) (a5 : List V) (a6 : List V) (a7 : Int) (a8 : Int) : callN cfg (k + 1) 46 (A46 a0 a1 a2 a3 a4 a5 a6 a7 a8) [] = T46 (callN cfg k) a0 a1 a2 a3 a4 a5 a6 a7 a8 :=
 (show callN cfg (k + 1) 46 (A46 a0 a1 a2 a3 a4 a5 a6 a7 a8) [] = GO 46 Tryd.f46 (A46 a0 a1 a2 a3 a4 a5 a6 a7 a8) [] (callN cfg k) (icallN cfg (callN cfg k) 20) (RN 46 Tryd.f46 [] (callN cfg k) (icallN cfg (callN cfg k) 20) k) by kernel_rfl).trans (E46 _ _ _ a0 a1 a2 a3 a4 a5 a6 a7 a8)
theorem M46 (a0 : Int) (a1 : Int) (a2 : Int) (a3 : Int) (a4 : Int) (a5 : List V) (a6 : List V) (a7 : Int) (a8 : Int) {r : V × List Ob} (h : Evt (fun k n => T46 (callN cfg k) a0 a1 a2 a3 a4 a5 a6 a7 a8) r) : Ret 46 [V.agg [V.int IntKind.i64 a0, V.int IntKind.i64 a1, V.int IntKind.i64 a2, V.int IntKind.i64 a3, V.int IntKind.i64 a4, V.lst 28 false a5, V.lst 24 false a6, V.int IntKind.i64 a7, V.int IntKind.i64 a8]] [] r := ret_mk (g := fun k n => T46 (callN cfg k) a0 a1 a2 a3 a4 a5 a6 a7 a8) (fun k => C46 k a0 a1 a2 a3 a4 a5 a6 a7 a8) h
def T45 (call : FuncId → Fun) (a0 : List V) : Option (V × List Ob) :=
 Option.bind (call 67 [(V.lst 28 false a0), (V.clo (Fn.func 46) [] [])] []) fun z0 =>
 some ((V.bool (decide ((getI z0.1) ≥ (0 : Int)))), [])
def A45 (a0 : List V) : List V := [V.lst 28 false a0, V.clo (Fn.func 46) [] []]
theorem E45 (a0 : List V) : GO 45 Tryd.f45 (A45 a0) [] call icall again = T45 call a0 := by kernel_rfl
theorem C45 (k : Nat) (a0 : List V) : callN cfg (k + 1) 45 (A45 a0) [] = T45 (callN cfg k) a0 :=
 (show callN cfg (k + 1) 45 (A45 a0) [] = GO 45 Tryd.f45 (A45 a0) [] (callN cfg k) (icallN cfg (callN cfg k) 20) (RN 45 Tryd.f45 [] (callN cfg k) (icallN cfg (callN cfg k) 20) k) by kernel_rfl).trans (E45 _ _ _ a0)
theorem M45 (a0 : List V) {r : V × List Ob} (h : Evt (fun k n => T45 (callN cfg k) a0) r) : Ret 45 [V.lst 28 false a0, V.clo (Fn.func 46) [] []] [] r := ret_mk (g := fun k n => T45 (callN cfg k) a0) (fun k => C45 k a0) h
def T67_0 (call : FuncId → Fun) (ag0 : List V → Int → Int → Option (V × List Ob)) (l0 : List V) (i1 : Int) (i2 : Int) : Option (V × List Ob) :=
 if (decide (i2 < i1)) = true then
 chk (decide (0 ≤ i2)) (chk (decide (i2 < ((length l0 : Nat) : Int))) (Option.bind (call 46 [(V.agg [(V.int .i64 (getI (headD (V.cells (getD l0 (Int.toNat i2) V.bot)) V.bot))), (V.int .i64 (getI (headD (tail (V.cells (getD l0 (Int.toNat i2) V.bot))) V.bot))), (V.int .i64 (getI (headD (tail (tail (V.cells (getD l0 (Int.toNat i2) V.bot)))) V.bot))), (V.int .i64 (getI (headD (tail (tail (tail (V.cells (getD l0 (Int.toNat i2) V.bot))))) V.bot))), (V.int .i64 (getI (headD (tail (tail (tail (tail (V.cells (getD l0 (Int.toNat i2) V.bot)))))) V.bot))), (V.lst 28 false (getL (headD (tail (tail (tail (tail (tail (V.cells (getD l0 (Int.toNat i2) V.bot))))))) V.bot))), (V.lst 24 false (getL (headD (tail (tail (tail (tail (tail (tail (V.cells (getD l0 (Int.toNat i2) V.bot)))))))) V.bot))), (V.int .i64 (getI (headD (tail (tail (tail (tail (tail (tail (tail (V.cells (getD l0 (Int.toNat i2) V.bot))))))))) V.bot))), (V.int .i64 (getI (headD (tail (tail (tail (tail (tail (tail (tail (tail (V.cells (getD l0 (Int.toNat i2) V.bot)))))))))) V.bot)))])] []) fun z0 =>
 if (getB z0.1) = true then
 some ((V.int .i64 i2), [])
 else
 (ag0 (l0) (i1) ((IntKind.wrap .i64 (i2 + (1 : Int)))))))
 else
 some ((V.int .i64 (-1 : Int)), [])
def T67 (call : FuncId → Fun) (ag0 : List V → Int → Int → Option (V × List Ob)) (a0 : List V) : Option (V × List Ob) :=
 (ag0 (a0) (((length a0 : Nat) : Int)) ((0 : Int)))
def A67 (a0 : List V) : List V := [V.lst 28 false a0, V.clo (Fn.func 46) [] []]
def K67_0 (l0 : List V) (i1 : Int) (i2 : Int) : St := ⟨[(V.lst 28 false l0), (V.clo (Fn.func 46) [] []), V.bot, V.bot, V.bot, V.bot, V.bot, (V.int IntKind.i64 i1), (V.int IntKind.i64 i2)] ++ List.replicate 10 V.bot, []⟩
theorem S67_0 (l0 : List V) (i1 : Int) (i2 : Int) :
 RM 67 Tryd.f67 [] call icall again (tdOf Tryd.f67 0) (K67_0 l0 i1 i2) = T67_0 call (fun l0 i1 i2 => again (tdOf Tryd.f67 0) (K67_0 l0 i1 i2)) l0 i1 i2 := by kernel_rfl
theorem E67 (a0 : List V) : GO 67 Tryd.f67 (A67 a0) [] call icall again = T67 call (fun l0 i1 i2 => again (tdOf Tryd.f67 0) (K67_0 l0 i1 i2)) a0 := by kernel_rfl
def L67 (call : FuncId → Fun) : Nat → (List V → Int → Int → Option (V × List Ob))
 | 0 => fun _ _ _ => none
 | n + 1 => T67_0 call (L67 call n)
theorem R67 (call : FuncId → Fun) (icall : ICall (V × List Ob)) : ∀ n, (∀ (l0 : List V) (i1 : Int) (i2 : Int), RN 67 Tryd.f67 [] call icall n (tdOf Tryd.f67 0) (K67_0 l0 i1 i2) = (L67 call n) l0 i1 i2)
  | 0 => fun l0 i1 i2 => rfl
  | n + 1 => by
    have ih := R67 call icall n
    exact fun l0 i1 i2 => (S67_0 call icall (RN 67 Tryd.f67 [] call icall n) l0 i1 i2).trans (by rw [show (fun l0 i1 i2 => RN 67 Tryd.f67 [] call icall n (tdOf Tryd.f67 0) (K67_0 l0 i1 i2)) = (L67 call n) from (funext fun l0 => funext fun i1 => funext fun i2 => ih l0 i1 i2)]; rfl)
theorem C67 (k : Nat) (a0 : List V) : callN cfg (k + 1) 67 (A67 a0) [] = T67 (callN cfg k) (L67 (callN cfg k) k) a0 := by
 have ih := R67 (callN cfg k) (icallN cfg (callN cfg k) 20) k
 refine (show callN cfg (k + 1) 67 (A67 a0) [] = GO 67 Tryd.f67 (A67 a0) [] (callN cfg k) (icallN cfg (callN cfg k) 20) (RN 67 Tryd.f67 [] (callN cfg k) (icallN cfg (callN cfg k) 20) k) by kernel_rfl).trans ((E67 _ _ _ a0).trans ?_)
 rw [show (fun l0 i1 i2 => RN 67 Tryd.f67 [] (callN cfg k) (icallN cfg (callN cfg k) 20) k (tdOf Tryd.f67 0) (K67_0 l0 i1 i2)) = (L67 (callN cfg k) k) from (funext fun l0 => funext fun i1 => funext fun i2 => ih l0 i1 i2)]
theorem M67 (a0 : List V) {r : V × List Ob} (h : Evt (fun k n => T67 (callN cfg k) (L67 (callN cfg k) n) a0) r) : Ret 67 [V.lst 28 false a0, V.clo (Fn.func 46) [] []] [] r := ret_mk (g := fun k n => T67 (callN cfg k) (L67 (callN cfg k) n) a0) (fun k => C67 k a0) h
theorem N67_0 (l0 : List V) (i1 : Int) (i2 : Int) {r : V × List Ob} (h : Evt (fun k n => T67_0 (callN cfg k) (L67 (callN cfg k) n) l0 i1 i2) r) : Evt (fun k n => (L67 (callN cfg k) n) l0 i1 i2) r := evt_step (fun k n => rfl) h
def T22 (call : FuncId → Fun) : Option (V × List Ob) :=
 Option.bind (call 15 [(V.lst 5 false [(V.int .u8 65), (V.int .u8 58), (V.int .u8 32), (V.int .u8 98), (V.int .u8 10), (V.int .u8 10), (V.int .u8 99)])] []) fun z0 =>
 Option.bind (call 24 [(V.agg [(V.int .i64 (getI (headD (V.cells (headD (getT z0.1) V.bot)) V.bot))), (V.int .i64 (getI (headD (tail (V.cells (headD (getT z0.1) V.bot))) V.bot))), (V.int .i64 (getI (headD (tail (tail (V.cells (headD (getT z0.1) V.bot)))) V.bot))), (V.int .i64 (getI (headD (tail (tail (tail (V.cells (headD (getT z0.1) V.bot))))) V.bot))), (V.int .i64 (getI (headD (tail (tail (tail (tail (V.cells (headD (getT z0.1) V.bot)))))) V.bot))), (V.lst 28 false (getL (headD (tail (tail (tail (tail (tail (V.cells (headD (getT z0.1) V.bot))))))) V.bot))), (V.lst 24 false (getL (headD (tail (tail (tail (tail (tail (tail (V.cells (headD (getT z0.1) V.bot)))))))) V.bot))), (V.int .i64 (getI (headD (tail (tail (tail (tail (tail (tail (tail (V.cells (headD (getT z0.1) V.bot))))))))) V.bot))), (V.int .i64 (getI (headD (tail (tail (tail (tail (tail (tail (tail (tail (V.cells (headD (getT z0.1) V.bot)))))))))) V.bot)))])] []) fun z1 =>
 if ((getI (headD (tail (getT z0.1)) V.bot)) == (0 : Int)) = true then
 if (((length (getL z1.1) : Nat) : Int) == (2 : Int)) = true then
 chk (decide (0 ≤ (0 : Int))) (chk (decide ((0 : Int) < ((length (getL z1.1) : Nat) : Int))) (if ((getI (headD (V.cells (getD (getL z1.1) (Int.toNat (0 : Int)) V.bot)) V.bot)) == (0 : Int)) = true then
 chk (decide (0 ≤ (0 : Int))) (chk (decide ((0 : Int) < ((length (getL z1.1) : Nat) : Int))) (if ((getI (headD (tail (tail (V.cells (getD (getL z1.1) (Int.toNat (0 : Int)) V.bot)))) V.bot)) == (6 : Int)) = true then
 chk (decide (0 ≤ (1 : Int))) (chk (decide ((1 : Int) < ((length (getL z1.1) : Nat) : Int))) (if ((getI (headD (V.cells (getD (getL z1.1) (Int.toNat (1 : Int)) V.bot)) V.bot)) == (1 : Int)) = true then
 chk (decide (0 ≤ (1 : Int))) (chk (decide ((1 : Int) < ((length (getL z1.1) : Nat) : Int))) (if ((getI (headD (tail (tail (V.cells (getD (getL z1.1) (Int.toNat (1 : Int)) V.bot)))) V.bot)) == (7 : Int)) = true then
 Option.bind (call 23 [(V.agg [(V.int .i64 (getI (headD (V.cells (headD (getT z0.1) V.bot)) V.bot))), (V.int .i64 (getI (headD (tail (V.cells (headD (getT z0.1) V.bot))) V.bot))), (V.int .i64 (getI (headD (tail (tail (V.cells (headD (getT z0.1) V.bot)))) V.bot))), (V.int .i64 (getI (headD (tail (tail (tail (V.cells (headD (getT z0.1) V.bot))))) V.bot))), (V.int .i64 (getI (headD (tail (tail (tail (tail (V.cells (headD (getT z0.1) V.bot)))))) V.bot))), (V.lst 28 false (getL (headD (tail (tail (tail (tail (tail (V.cells (headD (getT z0.1) V.bot))))))) V.bot))), (V.lst 24 false (getL (headD (tail (tail (tail (tail (tail (tail (V.cells (headD (getT z0.1) V.bot)))))))) V.bot))), (V.int .i64 (getI (headD (tail (tail (tail (tail (tail (tail (tail (V.cells (headD (getT z0.1) V.bot))))))))) V.bot))), (V.int .i64 (getI (headD (tail (tail (tail (tail (tail (tail (tail (tail (V.cells (headD (getT z0.1) V.bot)))))))))) V.bot)))]), (V.int .i64 7)] []) fun z2 =>
 if ((getI z2.1) == (0 : Int)) = true then
 Option.bind (call 23 [(V.agg [(V.int .i64 (getI (headD (V.cells (headD (getT z0.1) V.bot)) V.bot))), (V.int .i64 (getI (headD (tail (V.cells (headD (getT z0.1) V.bot))) V.bot))), (V.int .i64 (getI (headD (tail (tail (V.cells (headD (getT z0.1) V.bot)))) V.bot))), (V.int .i64 (getI (headD (tail (tail (tail (V.cells (headD (getT z0.1) V.bot))))) V.bot))), (V.int .i64 (getI (headD (tail (tail (tail (tail (V.cells (headD (getT z0.1) V.bot)))))) V.bot))), (V.lst 28 false (getL (headD (tail (tail (tail (tail (tail (V.cells (headD (getT z0.1) V.bot))))))) V.bot))), (V.lst 24 false (getL (headD (tail (tail (tail (tail (tail (tail (V.cells (headD (getT z0.1) V.bot)))))))) V.bot))), (V.int .i64 (getI (headD (tail (tail (tail (tail (tail (tail (tail (V.cells (headD (getT z0.1) V.bot))))))))) V.bot))), (V.int .i64 (getI (headD (tail (tail (tail (tail (tail (tail (tail (tail (V.cells (headD (getT z0.1) V.bot)))))))))) V.bot)))]), (V.int .i64 8)] []) fun z3 =>
 (match ((getI z3.1) == (11 : Int)) with
 | true =>
 some ((V.bool true), [])
 | false =>
 some ((V.bool false), []))
 else
 some ((V.bool false), [])
 else
 some ((V.bool false), [])))
 else
 some ((V.bool false), [])))
 else
 some ((V.bool false), [])))
 else
 some ((V.bool false), [])))
 else
 some ((V.bool false), [])
 else
 some ((V.bool false), [])
def A22 : List V := []
theorem E22 : GO 22 Tryd.f22 A22 [] call icall again = T22 call := by kernel_rfl
theorem C22 (k : Nat) : callN cfg (k + 1) 22 A22 [] = T22 (callN cfg k) :=
 (show callN cfg (k + 1) 22 A22 [] = GO 22 Tryd.f22 A22 [] (callN cfg k) (icallN cfg (callN cfg k) 20) (RN 22 Tryd.f22 [] (callN cfg k) (icallN cfg (callN cfg k) 20) k) by kernel_rfl).trans (E22 _ _ _)
theorem M22 {r : V × List Ob} (h : Evt (fun k n => T22 (callN cfg k)) r) : Ret 22 [] [] r := ret_mk (g := fun k n => T22 (callN cfg k)) (fun k => C22 k) h
def T8_0 (call : FuncId → Fun) (ag0 : Int → List V → List V → Int → Int → Int → Int → Int → Int → List V → List V → Int → Int → Option (V × List Ob)) (i0 : Int) (l1 : List V) (o2 : List V) (i3 : Int) (i4 : Int) (i5 : Int) (i6 : Int) (i7 : Int) (i8 : Int) (l9 : List V) (l10 : List V) (i11 : Int) (i12 : Int) : Option (V × List Ob) :=
 if (decide (i3 < ((length l1 : Nat) : Int))) = true then
 Option.bind (chk (decide (0 ≤ i3)) (chk (decide (i3 < ((length l1 : Nat) : Int))) (if (decide ((getI (headD (V.cells (getD l1 (Int.toNat i3) V.bot)) V.bot)) < (0 : Int))) = false then
 chk (decide (0 ≤ i3)) (chk (decide (i3 < ((length l1 : Nat) : Int))) (some (decide ((getI (headD (V.cells (getD l1 (Int.toNat i3) V.bot)) V.bot)) > (5 : Int)))))
 else
 some true))) fun y0 =>
 if y0 = true then
 some ((V.bool false), [])
 else
 chk (decide (0 ≤ i3)) (chk (decide (i3 < ((length l1 : Nat) : Int))) (chk (decide (0 ≤ (getI (headD (V.cells (getD l1 (Int.toNat i3) V.bot)) V.bot)))) (chk (decide ((getI (headD (V.cells (getD l1 (Int.toNat i3) V.bot)) V.bot)) < ((length o2 : Nat) : Int))) (chk (decide (0 ≤ (getI (headD (V.cells (getD l1 (Int.toNat i3) V.bot)) V.bot)))) (chk (decide ((getI (headD (V.cells (getD l1 (Int.toNat i3) V.bot)) V.bot)) < ((length o2 : Nat) : Int))) ((ag0 (i0) (l1) ((List.set o2 (Int.toNat (getI (headD (V.cells (getD l1 (Int.toNat i3) V.bot)) V.bot))) (V.int .i64 (IntKind.wrap .i64 ((getI (getD o2 (Int.toNat (getI (headD (V.cells (getD l1 (Int.toNat i3) V.bot)) V.bot))) V.bot)) + (1 : Int)))))) ((IntKind.wrap .i64 (i3 + (1 : Int)))) (i4) (i5) (i6) (i7) (i8) (l9) (l10) (i11) (i12))))))))
 else
 Option.bind (call 26 [(V.agg [(V.int .i64 i4), (V.int .i64 i5), (V.int .i64 i6), (V.int .i64 i7), (V.int .i64 i8), (V.lst 28 false l9), (V.lst 24 false l10), (V.int .i64 i11), (V.int .i64 i12)])] []) fun z0 =>
 if (i0 == (0 : Int)) = true then
 chk (decide (0 ≤ (0 : Int))) (chk (decide ((0 : Int) < ((length o2 : Nat) : Int))) (Option.bind (call 17 [(V.agg [(V.int .i64 i4), (V.int .i64 i5), (V.int .i64 i6), (V.int .i64 i7), (V.int .i64 i8), (V.lst 28 false l9), (V.lst 24 false l10), (V.int .i64 i11), (V.int .i64 i12)])] []) fun z1 =>
 if ((getI (getD o2 (Int.toNat (0 : Int)) V.bot)) == (getI z1.1)) = true then
 chk (decide (0 ≤ (1 : Int))) (chk (decide ((1 : Int) < ((length o2 : Nat) : Int))) (if ((getI (getD o2 (Int.toNat (1 : Int)) V.bot)) == (getI (headD (getT z0.1) V.bot))) = true then
 chk (decide (0 ≤ (2 : Int))) (chk (decide ((2 : Int) < ((length o2 : Nat) : Int))) (if ((getI (getD o2 (Int.toNat (2 : Int)) V.bot)) == (getI (headD (tail (getT z0.1)) V.bot))) = true then
 chk (decide (0 ≤ (3 : Int))) (chk (decide ((3 : Int) < ((length o2 : Nat) : Int))) (if ((getI (getD o2 (Int.toNat (3 : Int)) V.bot)) == (getI (headD (tail (tail (getT z0.1))) V.bot))) = true then
 chk (decide (0 ≤ (4 : Int))) (chk (decide ((4 : Int) < ((length o2 : Nat) : Int))) (if ((getI (getD o2 (Int.toNat (4 : Int)) V.bot)) == (getI (headD (tail (getT z0.1)) V.bot))) = true then
 chk (decide (0 ≤ (5 : Int))) (chk (decide ((5 : Int) < ((length o2 : Nat) : Int))) (some ((V.bool ((getI (getD o2 (Int.toNat (5 : Int)) V.bot)) == (getI (headD (tail (getT z0.1)) V.bot)))), [])))
 else
 some ((V.bool false), [])))
 else
 some ((V.bool false), [])))
 else
 some ((V.bool false), [])))
 else
 some ((V.bool false), [])))
 else
 some ((V.bool false), [])))
 else
 some ((V.bool false), [])
def T8 (call : FuncId → Fun) (ag0 : Int → List V → List V → Int → Int → Int → Int → Int → Int → List V → List V → Int → Int → Option (V × List Ob)) (a0 : List V) : Option (V × List Ob) :=
 Option.bind (call 22 [] []) fun z0 =>
 if (!(getB z0.1)) = true then
 some ((V.bool false), [])
 else
 if (decide (((length a0 : Nat) : Int) > (2000 : Int))) = true then
 some ((V.bool true), [])
 else
 Option.bind (call 15 [(V.lst 5 false a0)] []) fun z1 =>
 Option.bind (call 24 [(V.agg [(V.int .i64 (getI (headD (V.cells (headD (getT z1.1) V.bot)) V.bot))), (V.int .i64 (getI (headD (tail (V.cells (headD (getT z1.1) V.bot))) V.bot))), (V.int .i64 (getI (headD (tail (tail (V.cells (headD (getT z1.1) V.bot)))) V.bot))), (V.int .i64 (getI (headD (tail (tail (tail (V.cells (headD (getT z1.1) V.bot))))) V.bot))), (V.int .i64 (getI (headD (tail (tail (tail (tail (V.cells (headD (getT z1.1) V.bot)))))) V.bot))), (V.lst 28 false (getL (headD (tail (tail (tail (tail (tail (V.cells (headD (getT z1.1) V.bot))))))) V.bot))), (V.lst 24 false (getL (headD (tail (tail (tail (tail (tail (tail (V.cells (headD (getT z1.1) V.bot)))))))) V.bot))), (V.int .i64 (getI (headD (tail (tail (tail (tail (tail (tail (tail (V.cells (headD (getT z1.1) V.bot))))))))) V.bot))), (V.int .i64 (getI (headD (tail (tail (tail (tail (tail (tail (tail (tail (V.cells (headD (getT z1.1) V.bot)))))))))) V.bot)))])] []) fun z2 =>
 chk true (chk true (chk true ((ag0 ((getI (headD (tail (getT z1.1)) V.bot))) ((getL z2.1)) ([(V.int .i64 0), (V.int .i64 0), (V.int .i64 0), (V.int .i64 0), (V.int .i64 0), (V.int .i64 0)]) ((0 : Int)) ((getI (headD (V.cells (headD (getT z1.1) V.bot)) V.bot))) ((getI (headD (tail (V.cells (headD (getT z1.1) V.bot))) V.bot))) ((getI (headD (tail (tail (V.cells (headD (getT z1.1) V.bot)))) V.bot))) ((getI (headD (tail (tail (tail (V.cells (headD (getT z1.1) V.bot))))) V.bot))) ((getI (headD (tail (tail (tail (tail (V.cells (headD (getT z1.1) V.bot)))))) V.bot))) ((getL (headD (tail (tail (tail (tail (tail (V.cells (headD (getT z1.1) V.bot))))))) V.bot))) ((getL (headD (tail (tail (tail (tail (tail (tail (V.cells (headD (getT z1.1) V.bot)))))))) V.bot))) ((getI (headD (tail (tail (tail (tail (tail (tail (tail (V.cells (headD (getT z1.1) V.bot))))))))) V.bot))) ((getI (headD (tail (tail (tail (tail (tail (tail (tail (tail (V.cells (headD (getT z1.1) V.bot)))))))))) V.bot)))))))
def A8 (a0 : List V) : List V := [V.lst 5 false a0]
def K8_0 (i0 : Int) (l1 : List V) (o2 : List V) (i3 : Int) (i4 : Int) (i5 : Int) (i6 : Int) (i7 : Int) (i8 : Int) (l9 : List V) (l10 : List V) (i11 : Int) (i12 : Int) : St := ⟨[V.bot, V.bot, V.bot, V.bot, (V.ref 0 0), (V.int IntKind.i64 i0), (V.lst 50 false l1), (V.own 3 o2), (V.int IntKind.i64 i3)] ++ List.replicate 98 V.bot, [(Ob.cells [(V.int IntKind.i64 i4), (V.int IntKind.i64 i5), (V.int IntKind.i64 i6), (V.int IntKind.i64 i7), (V.int IntKind.i64 i8), (V.lst 28 false l9), (V.lst 24 false l10), (V.int IntKind.i64 i11), (V.int IntKind.i64 i12)])]⟩
theorem S8_0 (i0 : Int) (l1 : List V) (o2 : List V) (i3 : Int) (i4 : Int) (i5 : Int) (i6 : Int) (i7 : Int) (i8 : Int) (l9 : List V) (l10 : List V) (i11 : Int) (i12 : Int) :
 RM 8 Tryd.f8 [] call icall again (tdOf Tryd.f8 0) (K8_0 i0 l1 o2 i3 i4 i5 i6 i7 i8 l9 l10 i11 i12) = T8_0 call (fun i0 l1 o2 i3 i4 i5 i6 i7 i8 l9 l10 i11 i12 => again (tdOf Tryd.f8 0) (K8_0 i0 l1 o2 i3 i4 i5 i6 i7 i8 l9 l10 i11 i12)) i0 l1 o2 i3 i4 i5 i6 i7 i8 l9 l10 i11 i12 := by kernel_rfl
theorem E8 (a0 : List V) : GO 8 Tryd.f8 (A8 a0) [] call icall again = T8 call (fun i0 l1 o2 i3 i4 i5 i6 i7 i8 l9 l10 i11 i12 => again (tdOf Tryd.f8 0) (K8_0 i0 l1 o2 i3 i4 i5 i6 i7 i8 l9 l10 i11 i12)) a0 := by kernel_rfl
def L8 (call : FuncId → Fun) : Nat → (Int → List V → List V → Int → Int → Int → Int → Int → Int → List V → List V → Int → Int → Option (V × List Ob))
 | 0 => fun _ _ _ _ _ _ _ _ _ _ _ _ _ => none
 | n + 1 => T8_0 call (L8 call n)
theorem R8 (call : FuncId → Fun) (icall : ICall (V × List Ob)) : ∀ n, (∀ (i0 : Int) (l1 : List V) (o2 : List V) (i3 : Int) (i4 : Int) (i5 : Int) (i6 : Int) (i7 : Int) (i8 : Int) (l9 : List V) (l10 : List V) (i11 : Int) (i12 : Int), RN 8 Tryd.f8 [] call icall n (tdOf Tryd.f8 0) (K8_0 i0 l1 o2 i3 i4 i5 i6 i7 i8 l9 l10 i11 i12) = (L8 call n) i0 l1 o2 i3 i4 i5 i6 i7 i8 l9 l10 i11 i12)
  | 0 => fun i0 l1 o2 i3 i4 i5 i6 i7 i8 l9 l10 i11 i12 => rfl
  | n + 1 => by
    have ih := R8 call icall n
    exact fun i0 l1 o2 i3 i4 i5 i6 i7 i8 l9 l10 i11 i12 => (S8_0 call icall (RN 8 Tryd.f8 [] call icall n) i0 l1 o2 i3 i4 i5 i6 i7 i8 l9 l10 i11 i12).trans (by rw [show (fun i0 l1 o2 i3 i4 i5 i6 i7 i8 l9 l10 i11 i12 => RN 8 Tryd.f8 [] call icall n (tdOf Tryd.f8 0) (K8_0 i0 l1 o2 i3 i4 i5 i6 i7 i8 l9 l10 i11 i12)) = (L8 call n) from (funext fun i0 => funext fun l1 => funext fun o2 => funext fun i3 => funext fun i4 => funext fun i5 => funext fun i6 => funext fun i7 => funext fun i8 => funext fun l9 => funext fun l10 => funext fun i11 => funext fun i12 => ih i0 l1 o2 i3 i4 i5 i6 i7 i8 l9 l10 i11 i12)]; rfl)
theorem C8 (k : Nat) (a0 : List V) : callN cfg (k + 1) 8 (A8 a0) [] = T8 (callN cfg k) (L8 (callN cfg k) k) a0 := by
 have ih := R8 (callN cfg k) (icallN cfg (callN cfg k) 20) k
 refine (show callN cfg (k + 1) 8 (A8 a0) [] = GO 8 Tryd.f8 (A8 a0) [] (callN cfg k) (icallN cfg (callN cfg k) 20) (RN 8 Tryd.f8 [] (callN cfg k) (icallN cfg (callN cfg k) 20) k) by kernel_rfl).trans ((E8 _ _ _ a0).trans ?_)
 rw [show (fun i0 l1 o2 i3 i4 i5 i6 i7 i8 l9 l10 i11 i12 => RN 8 Tryd.f8 [] (callN cfg k) (icallN cfg (callN cfg k) 20) k (tdOf Tryd.f8 0) (K8_0 i0 l1 o2 i3 i4 i5 i6 i7 i8 l9 l10 i11 i12)) = (L8 (callN cfg k) k) from (funext fun i0 => funext fun l1 => funext fun o2 => funext fun i3 => funext fun i4 => funext fun i5 => funext fun i6 => funext fun i7 => funext fun i8 => funext fun l9 => funext fun l10 => funext fun i11 => funext fun i12 => ih i0 l1 o2 i3 i4 i5 i6 i7 i8 l9 l10 i11 i12)]
theorem M8 (a0 : List V) {r : V × List Ob} (h : Evt (fun k n => T8 (callN cfg k) (L8 (callN cfg k) n) a0) r) : Ret 8 [V.lst 5 false a0] [] r := ret_mk (g := fun k n => T8 (callN cfg k) (L8 (callN cfg k) n) a0) (fun k => C8 k a0) h
theorem N8_0 (i0 : Int) (l1 : List V) (o2 : List V) (i3 : Int) (i4 : Int) (i5 : Int) (i6 : Int) (i7 : Int) (i8 : Int) (l9 : List V) (l10 : List V) (i11 : Int) (i12 : Int) {r : V × List Ob} (h : Evt (fun k n => T8_0 (callN cfg k) (L8 (callN cfg k) n) i0 l1 o2 i3 i4 i5 i6 i7 i8 l9 l10 i11 i12) r) : Evt (fun k n => (L8 (callN cfg k) n) i0 l1 o2 i3 i4 i5 i6 i7 i8 l9 l10 i11 i12) r := evt_step (fun k n => rfl) h
end Go.Proofs.YtemgbdncidgoiaaDoor
end
section
namespace Go.Proofs.YtemgbdncidgoiaaDoor
open Go.Ev Go
theorem ret_handc {f : FuncId} {args : List V} {objs : List Ob} {r : V × List Ob} {h : (FuncId → Go.Ev.Fun) → Go.Ev.Fun} (hh : cfg.hand f = some h) (e : Evt (fun k _ => h (callN cfg k) args objs) r) : Ret f args objs r := by
  obtain ⟨K, e⟩ := e
  refine ⟨K + 1, fun k hk => ?_⟩
  obtain ⟨j, rfl⟩ : ∃ j, k = j + 1 := ⟨k - 1, by omega⟩
  simp only [callN, hh]; exact e j j (by omega) (by omega)
theorem ret25 (p : Pt) : Ret 25 [partV p] [] (.agg [.int .i64 (p.hd.1 : Nat), .int .i64 (p.bd.2 : Nat)], []) := by
  rw [← part_agg p]
  refine M25 (p.kd : Nat) (p.hd.1 : Nat) (p.hd.2 : Nat) (p.bd.1 : Nat) (p.bd.2 : Nat) (p.ks.map partV) (p.cs.map cutV) (p.en.1 : Nat) (p.en.2 : Nat) ?_
  simp only [T25]
  exact evt_some _
theorem ret24 (p : Pt) (h : (tilesP p).length < 1099511627776) : Ret 24 [partV p] [] (.lst 50 false ((tilesP p).map lnV), []) := by
  refine ret_hand (h := tofF) (by kernel_rfl) ?_
  simp only [tofF, tilesV_of p h, Option.map_some]
theorem ret23 (p : Pt) (n : Int) (h : (tilesP p).length < 1099511627776) (hc : cntF p ≤ 1000000) (hf : Ret 33 [partV p] [] (.bool true, [])) :
    Ret 23 [partV p, .int .i64 n] [] (.int .i64 (errT (cntF p : Nat) (dpF p : Nat) true (p.hd.1 : Nat) (p.bd.2 : Nat) n (tilesP p)), []) := by
  refine ret_handc (h := tcheckF) (by kernel_rfl) ?_
  obtain ⟨K1, h1⟩ := ret17 p hc
  obtain ⟨K2, h2⟩ := ret18 p hc
  obtain ⟨K3, h3⟩ := hf
  obtain ⟨K4, h4⟩ := ret25 p
  refine ⟨K1 + K2 + K3 + K4, fun k _ hk _ => ?_⟩
  have e1 := h1 k (by omega)
  have e2 := h2 k (by omega)
  have e3 := h3 k (by omega)
  have e4 := h4 k (by omega)
  simp only [tcheckF, tilesV_of p h, e1, e2, e3, e4]
mutual
theorem ret33 : ∀ p : Pt, FitsP p → cntF p ≤ 1000000 → Ret 33 [partV p] [] (.bool true, [])
  | .mk k h b kids cuts e, hf, hc => by
    rw [FitsP] at hf
    rw [cntF] at hc
    obtain ⟨hk, hb1, hb2, hl⟩ := hf
    have ih := ret45 kids hl (by omega)
    rw [partV, partVL_eq]
    refine M33 (k : Nat) (h.1 : Nat) (h.2 : Nat) (b.1 : Nat) (b.2 : Nat) (kids.map partV) (cuts.map cutV) (e.1 : Nat) (e.2 : Nat) ?_
    have g2 : (((h.2 : Nat) : Int) == ((b.1 : Nat) : Int)) = true := by rw [hb1]; simp
    have g3 : (((b.1 : Nat) : Int) ≤ ((b.2 : Nat) : Int)) := by omega
    have go : Evt (fun (k _ : Nat) => Option.bind (callN cfg k 45 [.lst 28 false (kids.map partV), .clo (.func 46) [] []] []) fun z1 => some ((V.bool (!(V.getB z1.1))), ([] : List Ob))) (.bool true, []) := by
      refine evt_bind ih ?_
      exact evt_some _
    rcases hk with ⟨rfl, rfl, rfl, rfl⟩ | ⟨rfl, h0, h1⟩ | ⟨rfl, rfl, rfl, q, rfl, hq1, hq2⟩
    · refine evt_eq (fun k n => ?_) go
      simp only [T33, g2, g3, decide_true, if_true]
      rfl
    · have k1 : ((((kids.map partV).length : Nat) : Int) > 0) := by rw [List.length_map]; omega
      have k2 : ((((kids.map partV).length : Nat) : Int) == (((cuts.map cutV).length : Nat) : Int)) = true := by rw [List.length_map, List.length_map, h1]; simp
      have k3 : ((((cuts.map cutV).length : Nat) : Int) == 0) = false := by
        have : ¬ ((((cuts.map cutV).length : Nat) : Int) = 0) := by rw [List.length_map]; omega
        simpa using this
      have k4 : ((((1 : Nat) : Int)) == 0) = false := rfl
      have k5 : ((((1 : Nat) : Int)) == 1) = true := rfl
      refine evt_eq (fun k n => ?_) go
      simp only [T33, g2, g3, k1, k2, k3, k4, k5, decide_true, if_true, Bool.false_eq_true, if_false, bind_s]
    · have r25 := ret25 q
      have k3 : ((((0 : Nat) : Int)) == 0) = true := rfl
      have k4 : ((((2 : Nat) : Int)) == 0) = false := rfl
      have k5 : ((((2 : Nat) : Int)) == 1) = false := rfl
      have k6 : ((((2 : Nat) : Int)) == 2) = true := rfl
      have k7 : ((((1 : Nat) : Int)) == 1) = true := rfl
      have k8 : (0 : Int) < ((1 : Nat) : Int) := by omega
      have k9 : (((q.hd.1 : Nat) : Int) == ((b.1 : Nat) : Int)) = true := by rw [hq1]; simp
      have ka : (((q.bd.2 : Nat) : Int) == ((b.2 : Nat) : Int)) = true := by rw [hq2]; simp
      have hd : ([q].map partV).getD 0 .bot = partV q := rfl
      simp only [T33, g2, g3, k3, k4, k5, k6, k7, decide_true, if_true, Bool.false_eq_true, if_false, List.map_nil, List.length_nil, List.length_map, List.length_cons, Nat.zero_add, Bool.and_self, chk_p (Int.le_refl 0), chk_p k8, Int.toNat_zero, hd, eta_part]
      refine evt_bind r25 ?_
      have c25 : V.cells (.agg [.int .i64 (q.hd.1 : Nat), .int .i64 (q.bd.2 : Nat)]) = [.int .i64 (q.hd.1 : Nat), .int .i64 (q.bd.2 : Nat)] := rfl
      simp only [c25, List.headD_cons, List.tail_cons, getI_int, k9, ka, Bool.and_self, if_true]
      exact go
theorem ret45 : ∀ l : List Pt, FitsL l → cntL l ≤ 1000000 → Ret 45 [.lst 28 false (l.map partV), .clo (.func 46) [] []] [] (.bool false, [])
  | l, hf, hc => by
    refine M45 (l.map partV) ?_
    simp only [T45]
    have r67 : Ret 67 [.lst 28 false (l.map partV), .clo (.func 46) [] []] [] (.int .i64 (-1), []) := by
      refine M67 (l.map partV) ?_
      simp only [T67, List.length_map]
      exact loop67 l [] hf (by simpa using hc)
    refine evt_bind r67 ?_
    exact evt_some _
theorem loop67 : ∀ (r pre : List Pt), FitsL r → pre.length + cntL r ≤ 1000000 →
    Evt (fun k j => L67 (callN cfg k) j ((pre ++ r).map partV) ((pre ++ r).length : Nat) (pre.length : Nat)) (.int .i64 (-1), [])
  | [], pre, hf, h => by
    refine N67_0 ((pre ++ []).map partV) ((pre ++ []).length : Nat) (pre.length : Nat) ?_
    have h1 : ¬ ((pre.length : Int) < ((pre ++ []).length : Nat)) := by simp
    simp only [T67_0, h1, decide_false, Bool.false_eq_true, if_false]
    exact evt_some _
  | p :: r, pre, hf, h => by
    rw [cntL] at h
    rw [FitsL] at hf
    have hpos := cntF_pos p
    refine N67_0 ((pre ++ p :: r).map partV) ((pre ++ p :: r).length : Nat) (pre.length : Nat) ?_
    have h1 : ((pre.length : Int) < ((pre ++ p :: r).length : Nat)) := by simp; omega
    have h2 : (0 : Int) ≤ (pre.length : Nat) := by omega
    have hw : IntKind.wrap .i64 (((pre.length : Nat) : Int) + 1) = ((pre.length + 1 : Nat) : Int) := by rw [wrap64 (by omega) (by omega)]; omega
    have r46 : Ret 46 [partV p] [] (.bool false, []) := by
      have r33 := ret33 p hf.1 (by omega)
      rw [← part_agg p] at r33 ⊢
      refine M46 (p.kd : Nat) (p.hd.1 : Nat) (p.hd.2 : Nat) (p.bd.1 : Nat) (p.bd.2 : Nat) (p.ks.map partV) (p.cs.map cutV) (p.en.1 : Nat) (p.en.2 : Nat) ?_
      simp only [T46]
      refine evt_bind r33 ?_
      exact evt_some _
    simp only [T67_0, h1, decide_true, if_true, chk_p h2, List.length_map, chk_t, Int.toNat_natCast, getD_mid, eta_part, hw]
    refine evt_bind r46 ?_
    have := loop67 r (pre ++ [p]) hf.2 (by simp; omega)
    simp only [List.append_assoc, List.singleton_append, List.length_append, List.length_cons, List.length_nil, Nat.zero_add] at this
    simp only [getB_bool, Bool.false_eq_true, if_false, List.length_append, List.length_cons]
    exact this
end
def aw3B : Bs := [65, 58, 32, 98, 10, 10, 99]
theorem aw3Tree : entF aw3B 32 0 aw3B.length false 1 = (leafP 0 6 7, 1) := by kernel_rfl
theorem aw3Parse : Ret 15 [.lst 5 false (ofBytes aw3B)] [] (.tup [partV (leafP 0 6 7), .int .i64 0], []) := by
  have := ret15 aw3B (by simp [aw3B])
  rw [aw3Tree] at this
  exact this
theorem aw3Tiles : tilesP (leafP 0 6 7) = [(0, 0, 6), (1, 6, 7)] := by
  unfold leafP
  rw [tilesP, if_neg (by decide), if_neg (by decide)]
theorem aw3Fits : FitsP (leafP 0 6 7) := by
  unfold leafP
  rw [FitsP, FitsL]
  exact ⟨.inl ⟨rfl, rfl, rfl, rfl⟩, rfl, by decide, trivial⟩
theorem aw3Cnt : cntF (leafP 0 6 7) = 1 := by simp only [leafP, cntF, cntL]
theorem aw3Dp : dpF (leafP 0 6 7) = 0 := by simp only [leafP, dpF, dpL]
theorem ret22 : Ret 22 [] [] (.bool true, []) := by
  have hc : cntF (leafP 0 6 7) ≤ 1000000 := by rw [aw3Cnt]; omega
  have hl : (tilesP (leafP 0 6 7)).length < 1099511627776 := by rw [aw3Tiles]; decide
  have hf := ret33 _ aw3Fits hc
  have g1 := ret24 (leafP 0 6 7) hl
  have g2 := ret23 (leafP 0 6 7) 7 hl hc hf
  have g3 := ret23 (leafP 0 6 7) 8 hl hc hf
  have e2 : errT 1 0 true 0 7 7 [(0, 0, 6), (1, 6, 7)] = 0 := by decide
  have e3 : errT 1 0 true 0 7 8 [(0, 0, 6), (1, 6, 7)] = 11 := by decide
  rw [aw3Tiles] at g1
  rw [aw3Tiles, aw3Cnt, aw3Dp, show ((leafP 0 6 7).hd.1) = 0 from rfl, show ((leafP 0 6 7).bd.2) = 7 from rfl] at g2 g3
  simp only [Int.natCast_zero, show ((1 : Nat) : Int) = 1 from rfl, show ((7 : Nat) : Int) = 7 from rfl, e2, e3] at g2 g3
  refine M22 ?_
  refine evt_eq (g' := fun k _ => Option.bind (callN cfg k 15 [.lst 5 false (ofBytes aw3B)] []) fun z0 => _) (fun k n => by rw [T22]; rfl) ?_
  refine evt_bind aw3Parse ?_
  simp only [getT_tup, List.headD_cons, List.tail_cons, getI_int, eta_part]
  refine evt_bind g1 ?_
  refine evt_eq (g' := fun k _ => Option.bind (callN cfg k 23 [partV (leafP 0 6 7), .int .i64 7] []) fun z2 => if ((V.getI z2.1) == (0 : Int)) = true then
      Option.bind (callN cfg k 23 [partV (leafP 0 6 7), .int .i64 8] []) fun z3 => (match ((V.getI z3.1) == (11 : Int)) with | true => some ((V.bool true), []) | false => some ((V.bool false), []))
    else some ((V.bool false), [])) (fun k n => by rfl) ?_
  refine evt_bind g2 ?_
  refine evt_bind g3 ?_
  exact evt_some _
theorem ok_tree (b : Bs) (hb : b.length ≤ 100000) : FitsP (entF b 32 0 b.length false 1).1 ∧ cntF (entF b 32 0 b.length false 1).1 ≤ 1000 ∧ (tilesP (entF b 32 0 b.length false 1).1).length ≤ 5000 ∧ Chn 0 (tilesP (entF b 32 0 b.length false 1).1) b.length ∧
    (entF b 32 0 b.length false 1).1.hd.1 = 0 ∧ (entF b 32 0 b.length false 1).1.bd.2 = b.length ∧ dpF (entF b 32 0 b.length false 1).1 ≤ 32 := by
  have cT := entF_n b 32 0 b.length false 1 (by omega)
  have cT2 := entF_cnt b 32 0 b.length false 1
  obtain ⟨e1, e2⟩ := entF_hb b 32 0 b.length false 1
  have ht := tiles_cnt (entF b 32 0 b.length false 1).1
  refine ⟨entF_fits b 32 0 b.length false 1 (by omega) (Nat.le_refl _), by omega, by omega, entF_chn b 32 0 b.length false 1 (by omega) (Nat.le_refl _), by rw [e1], by rw [e2], entF_dp b 32 0 b.length false 1 (by omega) (Nat.le_refl _)⟩
end Go.Proofs.YtemgbdncidgoiaaDoor
end
section
namespace Go.Proofs.YtemgbdncidgoiaaDoor
open Go.Ev Go
theorem getD_midN {α : Type} (f : α → V) (pre : List α) (p : α) (r : List α) : ((pre ++ p :: r).map f).getD pre.length .bot = f p := by
  simp [List.getD]
theorem cells_ln (t : Nat × Nat × Nat) : V.cells (lnV t) = [.int .i64 (t.1 : Nat), .int .i64 (t.2.1 : Nat), .int .i64 (t.2.2 : Nat)] := rfl
end Go.Proofs.YtemgbdncidgoiaaDoor
end
section
namespace Go.Proofs.YtemgbdncidgoiaaDoor
open Go.Ev Go
mutual
theorem ret26 : ∀ p : Pt, FitsP p → cntF p ≤ 1000000 → Ret 26 [partV p] [] (.tup [.int .i64 ((talF p).1 : Nat), .int .i64 ((talF p).2.1 : Nat), .int .i64 ((talF p).2.2 : Nat)], [])
  | .mk k h b kids cuts e, hf, hc => by
    have hle := tal_le _ hf
    rw [FitsP] at hf
    rw [talF, cntF] at hle
    rw [cntF] at hc
    rw [partV, partVL_eq, talF]
    refine M26 (k : Nat) (h.1 : Nat) (h.2 : Nat) (b.1 : Nat) (b.2 : Nat) (kids.map partV) (cuts.map cutV) (e.1 : Nat) (e.2 : Nat) ?_
    have := loop26 kids [] k h b cuts e (if k = 0 then 1 else 0) (if k = 1 then 1 else 0) (if k = 1 then cuts.length else 0) hf.2.2.2 (by simp only at hle; omega) (by simp only at hle; omega) (by simp only at hle; omega) (by simpa using (by omega : cntL kids ≤ 1000000))
    rw [List.nil_append] at this
    refine evt_eq (fun kk n => ?_) this
    simp only [T26, List.length_map]
    by_cases k0 : k = 0
    · subst k0
      rfl
    · have c0 : (((k : Nat) : Int) == 0) = false := by
        have : ¬ (((k : Nat) : Int) = 0) := by omega
        simpa using this
      by_cases k1 : k = 1
      · subst k1
        rfl
      · have c1 : (((k : Nat) : Int) == 1) = false := by
          have : ¬ (((k : Nat) : Int) = 1) := by omega
          simpa using this
        simp only [c0, c1, Bool.false_eq_true, if_false, if_neg k0, if_neg k1]
        rfl
theorem loop26 : ∀ (r pre : List Pt) (k : Nat) (h b : Nat × Nat) (cuts : List (Nat × Nat)) (e : Nat × Nat) (x y z : Nat), FitsL r → x + (talL r).1 ≤ 4000000 → y + (talL r).2.1 ≤ 4000000 → z + (talL r).2.2 ≤ 4000000 → pre.length + cntL r ≤ 1000000 →
    Evt (fun kk j => L26 (callN cfg kk) j (x : Nat) (y : Nat) (z : Nat) (pre.length : Nat) (k : Nat) (h.1 : Nat) (h.2 : Nat) (b.1 : Nat) (b.2 : Nat) ((pre ++ r).map partV) (cuts.map cutV) (e.1 : Nat) (e.2 : Nat))
      (.tup [.int .i64 ((x + (talL r).1 : Nat) : Int), .int .i64 ((y + (talL r).2.1 : Nat) : Int), .int .i64 ((z + (talL r).2.2 : Nat) : Int)], [])
  | [], pre, k, h, b, cuts, e, x, y, z, hf, hx, hy, hz, hp => by
    refine N26_0 (x : Nat) (y : Nat) (z : Nat) (pre.length : Nat) (k : Nat) (h.1 : Nat) (h.2 : Nat) (b.1 : Nat) (b.2 : Nat) ((pre ++ []).map partV) (cuts.map cutV) (e.1 : Nat) (e.2 : Nat) ?_
    have h1 : ¬ ((pre.length : Int) < (((pre ++ []).map partV).length : Nat)) := by simp
    simp only [T26_0, h1, decide_false, Bool.false_eq_true, if_false, talL, Nat.add_zero]
    exact evt_some _
  | p :: r, pre, k, h, b, cuts, e, x, y, z, hf, hx, hy, hz, hp => by
    rw [FitsL] at hf
    rw [cntL] at hp
    rw [talL] at hx hy hz ⊢
    simp only at hx hy hz
    have hpos := cntF_pos p
    refine N26_0 (x : Nat) (y : Nat) (z : Nat) (pre.length : Nat) (k : Nat) (h.1 : Nat) (h.2 : Nat) (b.1 : Nat) (b.2 : Nat) ((pre ++ p :: r).map partV) (cuts.map cutV) (e.1 : Nat) (e.2 : Nat) ?_
    have h1 : ((pre.length : Int) < (((pre ++ p :: r).map partV).length : Nat)) := by simp; omega
    have h2 : (0 : Int) ≤ (pre.length : Nat) := by omega
    have hw : IntKind.wrap .i64 (((pre.length : Nat) : Int) + 1) = ((pre.length + 1 : Nat) : Int) := by rw [wrap64 (by omega) (by omega)]; omega
    have w1 : IntKind.wrap .i64 (((x : Nat) : Int) + (((talF p).1 : Nat) : Int)) = ((x + (talF p).1 : Nat) : Int) := by rw [wrap64 (by omega) (by omega)]; omega
    have w2 : IntKind.wrap .i64 (((y : Nat) : Int) + (((talF p).2.1 : Nat) : Int)) = ((y + (talF p).2.1 : Nat) : Int) := by rw [wrap64 (by omega) (by omega)]; omega
    have w3 : IntKind.wrap .i64 (((z : Nat) : Int) + (((talF p).2.2 : Nat) : Int)) = ((z + (talF p).2.2 : Nat) : Int) := by rw [wrap64 (by omega) (by omega)]; omega
    simp only [T26_0, h1, decide_true, if_true, chk_p h2, chk_t, Int.toNat_natCast, getD_mid, eta_part, hw]
    refine evt_bind (ret26 p hf.1 (by omega)) ?_
    simp only [getT_tup, List.headD_cons, List.tail_cons, getI_int, w1, w2, w3]
    have := loop26 r (pre ++ [p]) k h b cuts e (x + (talF p).1) (y + (talF p).2.1) (z + (talF p).2.2) hf.2 (by omega) (by omega) (by omega) (by simp; omega)
    simp only [List.append_assoc, List.singleton_append, List.length_append, List.length_cons, List.length_nil, Nat.zero_add, Nat.add_assoc] at this ⊢
    exact this
end
def kV (l : List (Nat × Nat × Nat)) : List V := [.int .i64 (cK 0 l : Nat), .int .i64 (cK 1 l : Nat), .int .i64 (cK 2 l : Nat), .int .i64 (cK 3 l : Nat), .int .i64 (cK 4 l : Nat), .int .i64 (cK 5 l : Nat)]
theorem cK_le (j : Nat) : ∀ l : List (Nat × Nat × Nat), cK j l ≤ l.length
  | [] => by simp [cK]
  | t :: r => by have := cK_le j r; rw [cK, List.length_cons]; split <;> omega
theorem kV_step (l : List (Nat × Nat × Nat)) (t : Nat × Nat × Nat) (h : t.1 ≤ 5) (hl : l.length ≤ 5000) : (kV l).set t.1 (.int .i64 (IntKind.wrap .i64 (V.getI ((kV l).getD t.1 .bot) + 1))) = kV (l ++ [t]) := by
  obtain ⟨j, x⟩ := t
  simp only at h ⊢
  have hw : ∀ i, IntKind.wrap .i64 (((cK i l : Nat) : Int) + 1) = ((cK i l + 1 : Nat) : Int) := fun i => by
    have := cK_le i l
    rw [wrap64 (by omega) (by omega)]; omega
  unfold kV
  simp only [cK_app, cK, Nat.add_zero]
  match j, h with
  | 0, _ => simp [V.getI, hw]
  | 1, _ => simp [V.getI, hw]
  | 2, _ => simp [V.getI, hw]
  | 3, _ => simp [V.getI, hw]
  | 4, _ => simp [V.getI, hw]
  | 5, _ => simp [V.getI, hw]
theorem loop8 (T : Pt) (hf : FitsP T) (hc : cntF T ≤ 1000) : ∀ (r pre : List (Nat × Nat × Nat)) (a z : Nat), pre.length + r.length ≤ 5000 → Chn a r z → pre ++ r = tilesP T →
    Evt (fun k j => L8 (callN cfg k) j 0 ((pre ++ r).map lnV) (kV pre) (pre.length : Nat) (T.kd : Nat) (T.hd.1 : Nat) (T.hd.2 : Nat) (T.bd.1 : Nat) (T.bd.2 : Nat) (T.ks.map partV) (T.cs.map cutV) (T.en.1 : Nat) (T.en.2 : Nat)) (.bool true, [])
  | [], pre, a, z, hl, hch, he => by
    rw [List.append_nil] at he
    subst he
    refine N8_0 0 ((tilesP T ++ []).map lnV) (kV (tilesP T)) ((tilesP T).length : Nat) (T.kd : Nat) (T.hd.1 : Nat) (T.hd.2 : Nat) (T.bd.1 : Nat) (T.bd.2 : Nat) (T.ks.map partV) (T.cs.map cutV) (T.en.1 : Nat) (T.en.2 : Nat) ?_
    have k1 : ¬ (((tilesP T).length : Int) < (((tilesP T ++ []).map lnV).length : Nat)) := by simp
    have r26 := ret26 T hf (by omega)
    have r17 := ret17 T (by omega)
    have hk : kV (tilesP T) = [.int .i64 (cntF T : Nat), .int .i64 ((talF T).1 : Nat), .int .i64 ((talF T).2.1 : Nat), .int .i64 ((talF T).2.2 : Nat), .int .i64 ((talF T).2.1 : Nat), .int .i64 ((talF T).2.1 : Nat)] := by
      unfold kV
      rw [cK_tiles 0 (by omega) T hf, cK_tiles 1 (by omega) T hf, cK_tiles 2 (by omega) T hf, cK_tiles 3 (by omega) T hf, cK_tiles 4 (by omega) T hf, cK_tiles 5 (by omega) T hf]
      rfl
    have z0 : ((0 : Int) == (0 : Int)) = true := rfl
    simp only [T8_0, k1, decide_false, Bool.false_eq_true, if_false, part_agg, hk, z0, if_true]
    refine evt_bind r26 ?_
    refine evt_bind r17 ?_
    simp only [getT_tup, List.headD_cons, List.tail_cons, getI_int]
    have g : ∀ (n : Nat) (x : Option (V × List Ob)), n < 6 → chk (decide ((n : Int) < ((6 : Nat) : Int))) x = x := fun n x hn => chk_p (by omega) x
    refine evt_eq (fun k n => ?_) (evt_some (V.bool true, ([] : List Ob)))
    simp [List.getD, V.getI, chk]
  | t :: r, pre, a, z, hl, hch, he => by
    obtain ⟨c1, c2, c3, c4⟩ := hch
    refine N8_0 0 ((pre ++ t :: r).map lnV) (kV pre) (pre.length : Nat) (T.kd : Nat) (T.hd.1 : Nat) (T.hd.2 : Nat) (T.bd.1 : Nat) (T.bd.2 : Nat) (T.ks.map partV) (T.cs.map cutV) (T.en.1 : Nat) (T.en.2 : Nat) ?_
    have k1 : ((pre.length : Int) < (((pre ++ t :: r).map lnV).length : Nat)) := by simp; omega
    have k2 : (0 : Int) ≤ (pre.length : Nat) := by omega
    have hw : IntKind.wrap .i64 (((pre.length : Nat) : Int) + 1) = ((pre.length + 1 : Nat) : Int) := by rw [wrap64 (by simp at hl; omega) (by simp at hl; omega)]; omega
    have k6 : ¬ (((t.1 : Nat) : Int) < 0) := by omega
    have k7 : ¬ (((t.1 : Nat) : Int) > 5) := by omega
    have k8 : (0 : Int) ≤ ((t.1 : Nat) : Int) := by omega
    have k9 : ((t.1 : Nat) : Int) < (((kV pre).length : Nat) : Int) := by
      have : (kV pre).length = 6 := rfl
      omega
    simp only [T8_0, k1, decide_true, if_true, chk_p k2, chk_t, Int.toNat_natCast, getD_midN, cells_ln, List.headD_cons, List.tail_cons, getI_int, hw, k6, k7, decide_false, chk_p k8, chk_p k9, bind_s, Bool.false_eq_true, if_false, kV_step pre t c1 (by omega)]
    have := loop8 T hf hc r (pre ++ [t]) t.2.2 z (by simp at hl ⊢; omega) c4 (by simpa using he)
    simp only [List.append_assoc, List.singleton_append, List.length_append, List.length_cons, List.length_nil, Nat.zero_add] at this
    exact this
theorem ret8 (b : Bs) : Ret 8 [.lst 5 false (ofBytes b)] [] (.bool true, []) := by
  refine M8 (ofBytes b) ?_
  simp only [T8]
  refine evt_bind ret22 ?_
  simp only [getB_bool, Bool.not_true, Bool.false_eq_true, if_false, ofBytes_length]
  by_cases hb : b.length ≤ 2000
  · have h1 : ¬ (((b.length : Nat) : Int) > 2000) := by omega
    have r15 := ret15 b (by omega)
    obtain ⟨q1, q2, q3, q4, q5, q6, q7⟩ := ok_tree b (by omega)
    have ro := ret24 (entF b 32 0 b.length false 1).1 (by omega)
    generalize (entF b 32 0 b.length false 1).1 = T at *
    simp only [h1, decide_false, Bool.false_eq_true, if_false]
    refine evt_bind r15 ?_
    simp only [getT_tup, List.headD_cons, List.tail_cons, getI_int, eta_part]
    refine evt_bind ro ?_
    simp only [getL_lst, cells_part, List.headD_cons, List.tail_cons, getI_int, chk_t]
    exact loop8 T q1 q2 (tilesP T) [] 0 b.length (by simpa using q3) q4 rfl
  · have h1 : (((b.length : Nat) : Int) > 2000) := by omega
    simp only [h1, decide_true, if_true]
    exact evt_some _
end Go.Proofs.YtemgbdncidgoiaaDoor
end
section
namespace Go.Proofs.YtemgbdncidgoiaaDoor
open Go.ChangeShapes Go.WideShapes Go.ChangeAt Go.RowKit Go.Ev
theorem cells5 : Tryd.prog.cellsOf 5 = 1 := by kernel_rfl
theorem size5 : tySize cfg 5 = 1 := by kernel_rfl
theorem fits5 (n : Int) : fitsE cfg 5 (.int .u8 n) = true := by kernel_rfl
theorem flat_u8 (zs : List Int) : flat (zs.map (Value.int .u8)) = zs.map (Value.int .u8) := by
  induction zs with
  | nil => rfl
  | cons z zs ih => simp only [flat, List.map_cons, List.flatMap_cons, Value.cells] at ih ⊢; rw [ih]; rfl
theorem slice_block {P : Program} {w : World} {r : Reach} {base : Nat} {t e : TypeId} {a : Addr} {len cap : Nat} (ht : P.underlying t = some (.slice e)) (h : Value.okWide P w r base t (.slice (some a) len cap)) : a.block < w.heap.size := by
  simp only [Value.okWide, ht, Cell.okWide, Cell.ok] at h
  obtain ⟨_, _, _, _, row, cells, hs, _⟩ := h
  unfold World.shape? at hs
  by_cases hb : a.block < w.heap.size
  · exact hb
  · rw [Array.getElem?_eq_none (by omega)] at hs
    simp at hs
set_option maxRecDepth 100000 in
theorem bytes_in {H : Type} {enc : TypeId × Value → H} {W : World} {base : Nat} {v : Value} {d : DataW H} {p : List MemPlace} (hval : Value.okWide Tryd.prog W .any base 32 v)
    (h : DataW.Trod enc Tryd.prog W 0 (fun _ => true) true 32 v d p) :
    ∃ vs : List UInt8, Rep cfg W (sizes W) [] (.lst 5 false (ofBytes vs)) v ∧
      ∀ W', Kept W W' → ∀ sp : Nat → Bool, (∀ x ∈ p, sp x.block = true) → DataW.Trod enc Tryd.prog W' 0 sp true 32 v d p := by
  obtain ⟨a1, len, cap, rfl⟩ := okWide_slice Tryd.underlying32 hval
  obtain ⟨fuel, hf⟩ := h
  rcases open_ints Tryd.underlying32 Tryd.underlying5 cells5 hf with ⟨hcs, hx⟩ | ⟨a, len', cap', zs, hcs, _, hl, hm, hz, hx, hcell, hwz⟩
  · simp [Value.cells] at hcs
    obtain ⟨rfl, rfl, rfl⟩ := hcs
    simp only [Prod.mk.injEq] at hx
    obtain ⟨rfl, rfl⟩ := hx
    refine ⟨[], ?_, fun W' _ sp _ => shut_slice_nil Tryd.underlying32⟩
    exact Rep.lst 5 false [] none 0 [] rfl (fun i v x h => by simp at h) (fun v h => by cases h) (fun x h => by cases h) (by rw [size5]; omega) (Nat.le_refl _) ⟨fun _ => rfl, fun p h => by cases h⟩ (fun p h => by cases h)
  · simp [Value.cells] at hcs
    obtain ⟨rfl, rfl, rfl⟩ := hcs
    simp only [Prod.mk.injEq] at hx
    obtain ⟨rfl, rfl⟩ := hx
    have hblk : a.block < W.heap.size := slice_block Tryd.underlying32 hval
    have hsn : some a = none → cap = 0 := fun h => by cases h
    have hsb : ∀ p, some a = some p → p.block < W.heap.size := fun p hp => by cases hp; exact hblk
    simp only [if_true] at hz
    have hrng : ∀ n ∈ zs, 0 ≤ n ∧ n < 256 := fun n hn => by have := bounds_u8 (hwz n hn); omega
    refine ⟨(zs.take len).map fun n => UInt8.ofNat n.toNat, ?_, fun W' hk sp hsp => ?_⟩
    · have hxs : ofBytes ((zs.take len).map fun n => UInt8.ofNat n.toNat) = (zs.take len).map (V.int .u8) := by
        unfold ofBytes
        rw [List.map_map]
        refine List.map_congr_left fun n hn => ?_
        have := hrng n (List.mem_of_mem_take hn)
        simp only [Function.comp, UInt8.toNat_ofNat']
        congr 1
        omega
      have hlen : (ofBytes ((zs.take len).map fun n => UInt8.ofNat n.toNat)).length = len := by rw [hxs]; simp; omega
      have := Rep.lst (c := cfg) (w := W) (G := sizes W) (μ := []) 5 false (ofBytes ((zs.take len).map fun n => UInt8.ofNat n.toNat)) (some a) cap ((zs.take len).map (Value.int .u8)) (by rw [hlen]; simp; omega) (fun i v x hv hx => by
          rw [hxs] at hv
          obtain ⟨n, h1, rfl⟩ := get_map hv
          obtain ⟨n', h2, rfl⟩ := get_map hx
          rw [h1] at h2; cases h2
          exact .int _ _) (fun v hv => by
          rw [hxs] at hv
          obtain ⟨n, _, rfl⟩ := List.mem_map.1 hv
          exact fits5 n) (fun x hx => by
          obtain ⟨n, _, rfl⟩ := List.mem_map.1 hx
          rw [size5]; rfl) (by rw [size5]; omega) (by rw [hlen]; exact hl) ⟨hsn, hsb⟩ (fun p hp hne => by
          cases hp
          have hl0 : 0 < len := by
            rcases Nat.eq_zero_or_pos len with h0 | h0
            · exact absurd (List.eq_nil_of_length_eq_zero (hlen.trans h0)) hne
            · exact h0
          obtain ⟨ab, ao, spot⟩ := a
          have hspot : spot = none := by simpa [Addr.add] using World.cell?_spot (hcell 0 (by omega))
          subst hspot
          refine ⟨rfl, ?_⟩
          rw [flat_u8]
          refine srow_sizes fun j x hj => ?_
          have hjl := (List.getElem?_eq_some_iff.1 hj).1
          rw [List.length_map, List.length_take] at hjl
          have hjl : j < len ∧ j < zs.length := by omega
          have hc := hcell j (by omega)
          rw [Addr.add_lit] at hc
          rw [hc]
          rw [List.getElem?_map, List.getElem?_take, if_pos hjl.1, List.getElem?_eq_getElem hjl.2] at hj
          simp at hj
          rw [← hj]; simp [List.getD, hjl.2])
      rw [hlen] at this
      exact this
    · have hzl : zs.length = (if sp a.block then cap else len) := by
        rcases Nat.eq_zero_or_pos zs.length with h0 | h0
        · split <;> omega
        · have : sp a.block = true := hsp (.cell a.block (a.off + 0)) (by simp only [MemPlace.row, List.mem_map, List.mem_range]; exact ⟨0, h0, rfl⟩)
          rw [if_pos this]; exact hz
      exact ⟨2, shut_ints 0 Tryd.underlying32 Tryd.underlying5 cells5 (Nat.zero_le _) hl hm hzl (fun i hi => hk.cell _ _ (hcell i hi)) hwz⟩
end Go.Proofs.YtemgbdncidgoiaaDoor
end
