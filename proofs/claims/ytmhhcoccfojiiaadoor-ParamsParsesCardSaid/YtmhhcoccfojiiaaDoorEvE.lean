/- Operations that only compute: the model's answer is the plain reading's. -/
import Derived.Test.YtmhhcoccfojiiaaDoorEvD
import Derived.Laws.StructEq
import Derived.Laws.Strings
import Derived.ChangeKeysEq
namespace Go.Ev

def isAggD : TypeDesc → Bool
  | .struct _ | .array _ _ => true
  | _ => false
/-- A cell of a type's zero value. -/
def zfit (c : Cfg) : V → Value → Bool
  | .bool b, .bool b' => b == b'
  | .int k n, .int k' n' => k == k' && n == n'
  | .str [], .string s => s.size == 0
  | .lst e true [], .slice none 0 0 => 0 < tySize c e
  | .raw (.pointer none), .pointer none => true
  | .raw (.map none), .map none => true
  | .raw .nilFunc, .nilFunc => true
  | .raw .nilIface, .nilIface => true
  | _, _ => false
def zfits (c : Cfg) : List V → List Value → Bool
  | [], [] => true
  | v :: vs, x :: xs => zfit c v x && zfits c vs xs
  | _, _ => false

structure TyOk (c : Cfg) (t : TypeId) (y : Ty) : Prop where
  und : c.P.underlying t = some y.d
  info : ∃ i, c.P.info? t = some i ∧ i.size = y.size ∧ i.bytes = y.bytes ∧ ∃ z, i.zero = some z ∧ zfits c y.zero z.cells.toList = true ∧ (y.agg = true ↔ ∃ l, z = .agg l)
  size : y.zero.length = y.size
  agg : y.agg = isAggD y.d
  fields : ∀ fs, y.d = .struct fs → ∀ f ∈ fs, ∃ y', c.ty f.type = some y'
  elem : ∀ n e, y.d = .array n e → ∃ y', c.ty e = some y'
  eq : y.eq = true → isAggD y.d = true → c.P.stoodInHeld t = false ∧ c.P.eqGuardType c.P.depth t = false

structure CfgOk (c : Cfg) : Prop where
  ty : ∀ t y, c.ty t = some y → TyOk c t y
  fn : ∀ f x, c.fn f = some x → c.P.funcs[f]? = some x ∧ x.name ≠ "runtime.NumGoroutine" ∧ x.body.isSome = true
  mixed : c.P.follows .mixedOrders = true
  inl : ∀ f, c.inl f = false
  ro : ∀ f x, c.ro f = true → c.fn f = some x → ∀ b, x.body = some b → roCode c b = true

section
variable {c : Cfg} {w : World} {G : Gh} {μ : List Nat}

theorem TyOk.sizeOf {t : TypeId} {y : Ty} (h : TyOk c t y) (w : World) : (Go.sizeOf t).run c.P w = .ok y.size w := by
  obtain ⟨i, hi, hs, _⟩ := h.info
  rw [run_sizeOf w hi]; simp [Program.cellsOf, hi, hs]
theorem TyOk.cellsOf {t : TypeId} {y : Ty} (h : TyOk c t y) : c.P.cellsOf t = y.size := by
  obtain ⟨i, hi, hs, _⟩ := h.info
  simp [Program.cellsOf, hi, hs]
theorem TyOk.isAgg {t : TypeId} {y : Ty} (h : TyOk c t y) (w : World) : (Go.isAgg t).run c.P w = .ok y.agg w := by
  simp only [Go.isAgg, Sem.run_bind, run_underlying h.und, Result.andThen_ok]
  rw [h.agg]
  cases y.d <;> simp [isAggD]

theorem single_of {v : V} {x : Value} (h : Rep c w G μ v x) (hv : v.single = true) : single x = true := by
  cases h with
  | raw => cases x <;> simp_all [V.single, Go.Ev.single]
  | _ => simp_all [V.single, Go.Ev.single]

theorem cells_rep {v : V} {x : Value} (h : Rep c w G μ v x) (hs : v.cells.all V.single = true) :
    x.cells.size = v.cells.length ∧ (∀ y ∈ x.cells.toList, single y = true) ∧ ∀ (i : Nat) u y, v.cells[i]? = some u → x.cells.toList[i]? = some y → Rep c w G μ u y := by
  by_cases ha : ∃ cs, v = .agg cs
  · obtain ⟨cs, rfl⟩ := ha
    cases h with
    | agg cs l hl hs' hr => exact ⟨by simp [Value.cells, V.cells, hl], by simpa [Value.cells] using hs', by simpa [Value.cells, V.cells] using hr⟩
  · have hvc : v.cells = [v] := by cases v <;> first | rfl | exact absurd ⟨_, rfl⟩ ha
    have hsv : v.single = true := by simpa [hvc] using hs
    have hx := single_of h hsv
    have hxc : x.cells = #[x] := by cases x <;> simp_all [Value.cells, Go.Ev.single]
    rw [hvc, hxc]
    refine ⟨rfl, by simpa using hx, fun i u y hu hy => ?_⟩
    cases i with
    | zero => simp at hu hy; subst hu; subst hy; exact h
    | succ i => simp at hu

theorem leaf3_nil_of_tips {v : V} (x : Value) (h : v.tips = false) : leaf3 v x = [] := by
  have h1 : ∀ (v : V) (x : Value), v.tip1 = false → leaf1 v x = [] := by
    intro v x h; cases v <;> cases x <;> simp_all [V.tip1, leaf1]
  have hz : ∀ (f : V → Value → List Leaf) (p : V → Bool), (∀ v x, p v = false → f v x = []) → ∀ (vs : List V) (xs : List Value), vs.any p = false → zipF f vs xs = [] := by
    intro f p hp vs
    induction vs with
    | nil => intro xs _; simp [zipF]
    | cons v vs ih =>
      intro xs h
      simp only [List.any_cons, Bool.or_eq_false_iff] at h
      cases xs with
      | nil => simp [zipF]
      | cons x xs => simp [zipF, hp v x h.1, ih xs h.2]
  have h2 : ∀ (v : V) (x : Value), v.tip2 = false → leaf2 v x = [] := by
    intro v x h
    cases v with
    | agg cs => cases x with
      | agg l => exact hz leaf1 V.tip1 h1 cs l.toList h
      | _ => rfl
    | lst e t xs => cases x <;> (simp only [leaf2]; exact h1 _ _ h)
    | _ => cases x <;> rfl
  cases v with
  | tup cs => cases x with
    | tuple l => exact hz leaf2 V.tip2 h2 cs l.toList h
    | _ => rfl
  | agg cs => cases x <;> (simp only [leaf3]; exact h2 (.agg cs) _ h)
  | lst e t xs => cases x <;> (simp only [leaf3]; exact h2 (.lst e t xs) _ h)
  | _ => cases x <;> rfl

theorem toList_mk (s : List UInt8) : (⟨s.toArray⟩ : ByteArray).toList = s := by rw [ByteArray.toList_eq]

theorem chk_some {R : Type} {b : Bool} {x : Option R} {r : R} (h : chk b x = some r) : b = true ∧ x = some r := by
  unfold chk at h; split at h <;> simp_all

theorem intOp_run {R : Type} {op : BinOp} {k : IntKind} {a b : Int} {K : V → Option R} {r : R} (t : TypeId) (h : intOp op k a b K = some r) :
    ∃ v u, K v = some r ∧ (∀ w', (binOp op t (.int k a) (.int k b)).run c.P w' = .ok u w') ∧ (∀ w G μ, Rep c w G μ v u) ∧ v.tips = false := by
  unfold intOp at h
  cases op <;> simp only at h
  case add => exact ⟨_, _, h, fun w' => by rw [binOp_add]; rfl, fun _ _ _ => .int _ _, rfl⟩
  case sub => exact ⟨_, _, h, fun w' => by rw [binOp_sub]; rfl, fun _ _ _ => .int _ _, rfl⟩
  case mul => exact ⟨_, _, h, fun w' => by rw [binOp_mul]; rfl, fun _ _ _ => .int _ _, rfl⟩
  case quo =>
    obtain ⟨h1, h2⟩ := chk_some h
    have h1 : b ≠ 0 := by simpa using h1
    exact ⟨_, _, h2, fun w' => by rw [binOp_quo]; simp only [Op.intDiv, if_neg h1]; rfl, fun _ _ _ => .int _ _, rfl⟩
  case rem =>
    obtain ⟨h1, h2⟩ := chk_some h
    have h1 : b ≠ 0 := by simpa using h1
    exact ⟨_, _, h2, fun w' => by rw [binOp_rem]; simp only [Op.intDiv, if_neg h1]; rfl, fun _ _ _ => .int _ _, rfl⟩
  case and => exact ⟨_, _, h, fun w' => by rw [binOp_and]; rfl, fun _ _ _ => .int _ _, rfl⟩
  case or => exact ⟨_, _, h, fun w' => by rw [binOp_or]; rfl, fun _ _ _ => .int _ _, rfl⟩
  case xor => exact ⟨_, _, h, fun w' => by rw [binOp_xor]; rfl, fun _ _ _ => .int _ _, rfl⟩
  case andNot => exact ⟨_, _, h, fun w' => by rw [binOp_andNot]; rfl, fun _ _ _ => .int _ _, rfl⟩
  case eql => exact ⟨_, _, h, fun w' => by rw [binOp_eql]; rfl, fun _ _ _ => .bool _, rfl⟩
  case neq => exact ⟨_, _, h, fun w' => by rw [binOp_neq]; rfl, fun _ _ _ => .bool _, rfl⟩
  case lss => exact ⟨_, _, h, fun w' => by rw [binOp_lss]; rfl, fun _ _ _ => .bool _, rfl⟩
  case leq => exact ⟨_, _, h, fun w' => by rw [binOp_leq]; rfl, fun _ _ _ => .bool _, rfl⟩
  case gtr => exact ⟨_, _, h, fun w' => by rw [binOp_gtr]; rfl, fun _ _ _ => .bool _, rfl⟩
  case geq => exact ⟨_, _, h, fun w' => by rw [binOp_geq]; rfl, fun _ _ _ => .bool _, rfl⟩
  all_goals cases h

theorem shiftOp_run {R : Type} {op : BinOp} {k k' : IntKind} {a b : Int} {K : V → Option R} {r : R} (t : TypeId) (h : shiftOp op k a b K = some r) :
    ∃ v u, K v = some r ∧ (∀ w', (binOp op t (.int k a) (.int k' b)).run c.P w' = .ok u w') ∧ (∀ w G μ, Rep c w G μ v u) ∧ v.tips = false := by
  unfold shiftOp at h
  cases op <;> simp only at h
  case shl =>
    obtain ⟨h1, h2⟩ := chk_some h
    have h1 : ¬ b < 0 := by simpa using h1
    exact ⟨_, _, h2, fun w' => by rw [binOp_shl]; simp only [Op.shift, if_neg h1]; rfl, fun _ _ _ => .int _ _, rfl⟩
  case shr =>
    obtain ⟨h1, h2⟩ := chk_some h
    have h1 : ¬ b < 0 := by simpa using h1
    exact ⟨_, _, h2, fun w' => by rw [binOp_shr]; simp only [Op.shift, if_neg h1]; rfl, fun _ _ _ => .int _ _, rfl⟩
  all_goals cases h

theorem strOp_run {R : Type} {op : BinOp} {x y : List UInt8} {K : V → Option R} {r : R} (t : TypeId) (h : strOp op x y K = some r) :
    ∃ v u, K v = some r ∧ (∀ w', (binOp op t (.string ⟨x.toArray⟩) (.string ⟨y.toArray⟩)).run c.P w' = .ok u w') ∧ (∀ w G μ, Rep c w G μ v u) ∧ v.tips = false := by
  unfold strOp at h
  have hb : ∀ op : BinOp, op ≠ .shl → op ≠ .shr → binOp op t (.string ⟨x.toArray⟩) (.string ⟨y.toArray⟩) = Op.stringOp op ⟨x.toArray⟩ ⟨y.toArray⟩ := by
    intro op h1 h2; cases op <;> first | rfl | exact absurd rfl h1 | exact absurd rfl h2
  cases op <;> simp only at h
  case add =>
    obtain ⟨h1, h2⟩ := chk_some h
    have h1 : x.length + y.length ≤ 9223372036854775807 := by simpa [catOk] using h1
    refine ⟨_, .string (⟨x.toArray⟩ ++ ⟨y.toArray⟩), h2, fun w' => ?_, fun w G μ => ?_, rfl⟩
    · rw [hb _ (by simp) (by simp)]
      have hs : ¬ (((⟨x.toArray⟩ : ByteArray).size + (⟨y.toArray⟩ : ByteArray).size : Nat) : Int) > IntKind.i64.max := by
        have e1 : (⟨x.toArray⟩ : ByteArray).size = x.length := by simp [ByteArray.size]
        have e2 : (⟨y.toArray⟩ : ByteArray).size = y.length := by simp [ByteArray.size]
        rw [e1, e2, IntKind.max_i64]; omega
      simp only [Op.stringOp, if_neg hs]; rfl
    · have : (⟨x.toArray⟩ ++ ⟨y.toArray⟩ : ByteArray) = ⟨(x ++ y).toArray⟩ := by
        apply ByteArray.ext; simp
      rw [this]; exact .str _
  case eql => exact ⟨_, .bool (sEq x y), h, fun w' => by rw [hb _ (by simp) (by simp)]; simp only [Op.stringOp, toList_mk]; rfl, fun _ _ _ => .bool _, rfl⟩
  case neq => exact ⟨_, .bool (!sEq x y), h, fun w' => by rw [hb _ (by simp) (by simp)]; simp only [Op.stringOp, toList_mk]; rfl, fun _ _ _ => .bool _, rfl⟩
  case lss => exact ⟨_, .bool (sLt x y), h, fun w' => by rw [hb _ (by simp) (by simp)]; simp only [Op.stringOp, toList_mk]; rfl, fun _ _ _ => .bool _, rfl⟩
  case leq => exact ⟨_, .bool (sLt x y || sEq x y), h, fun w' => by rw [hb _ (by simp) (by simp)]; simp only [Op.stringOp, toList_mk]; rfl, fun _ _ _ => .bool _, rfl⟩
  case gtr => exact ⟨_, .bool (!(sLt x y || sEq x y)), h, fun w' => by rw [hb _ (by simp) (by simp)]; simp only [Op.stringOp, toList_mk]; rfl, fun _ _ _ => .bool _, rfl⟩
  case geq => exact ⟨_, .bool (!sLt x y), h, fun w' => by rw [hb _ (by simp) (by simp)]; simp only [Op.stringOp, toList_mk]; rfl, fun _ _ _ => .bool _, rfl⟩
  all_goals cases h

/-- A part of a struct or an array. -/
theorem partV_run (hc : CfgOk c) {t : TypeId} {off : Nat} {cs : List V} {l : List Value} {v : V} (h : partV c t off cs = some v) (hl : l.length = cs.length) (hs : ∀ x ∈ l, single x = true)
    (hr : ∀ (i : Nat) v x, cs[i]? = some v → l[i]? = some x → Rep c w G μ v x) {y : Ty} (hy : c.ty t = some y) :
    ∃ u, (∀ w', (part t l.toArray off).run c.P w' = .ok u w') ∧ Rep c w G μ v u ∧ u.cells.toList = (l.drop off).take y.size ∧ off + y.size ≤ l.length ∧ (y.agg = true → ∃ q, u = .agg q) ∧ (y.agg = false → single u = true) := by
  have hok := hc.ty t y hy
  have hsz : tySize c t = y.size := by simp [tySize, hy]
  unfold partV at h
  split at h
  · rename_i hle
    rw [hsz] at h hle
    unfold ofCells at h
    have hag : isAggT c t = y.agg := by simp [isAggT, hy]
    rw [hag] at h
    have hget : ∀ (i : Nat) v x, ((cs.drop off).take y.size)[i]? = some v → ((l.drop off).take y.size)[i]? = some x → Rep c w G μ v x := by
      intro i v x hv hx
      rw [List.getElem?_take] at hv hx
      split at hv
      · rename_i hi
        rw [if_pos hi] at hx
        rw [List.getElem?_drop] at hv hx
        exact hr _ v x hv hx
      · cases hv
    have hlen : ((l.drop off).take y.size).length = ((cs.drop off).take y.size).length := by simp [hl]
    cases hagg : y.agg with
    | true =>
      rw [hagg] at h
      simp only [if_true, Option.some.injEq] at h
      subst h
      have ext : l.toArray.extract off (off + y.size) = ((l.drop off).take y.size).toArray := by
        apply Array.ext'
        simp [List.extract_eq_take_drop]
      refine ⟨.agg ((l.drop off).take y.size).toArray, fun w' => ?_, .agg _ _ hlen (fun x hx => hs x (List.mem_of_mem_drop (List.mem_of_mem_take hx))) hget, by simp [Value.cells], by omega, fun _ => ⟨_, rfl⟩, fun h => by simp at h⟩
      simp only [part, Sem.run_bind, hok.isAgg, Result.andThen_ok, hagg, if_true, hok.sizeOf, Sem.run_pure, ext]
    | false =>
      rw [hagg] at h
      simp only [Bool.false_eq_true, if_false] at h
      split at h
      · rename_i x0 hx0
        cases h
        have h1 : y.size = 1 := by
          have := congrArg List.length hx0
          simp at this; omega
        have hlt : off < l.length := by omega
        have hlx : l[off]? = some l[off] := List.getElem?_eq_getElem hlt
        have ht : (l.drop off).take y.size = [l[off]] := by
          rw [h1, List.take_one, List.head?_drop, hlx]; rfl
        have hsx : single l[off] = true := hs _ (List.getElem_mem hlt)
        refine ⟨l[off], fun w' => ?_, hget 0 v l[off] (by rw [hx0]; rfl) (by rw [ht]; rfl), ?_, by omega, fun h => by simp at h, fun _ => hsx⟩
        · have hlt' : off < l.toArray.size := by simpa using hlt
          simp [part, hok.isAgg, hagg, hlt]
        · rw [ht]
          cases hx : l[off] <;> simp_all [Value.cells, Go.Ev.single]
      · cases h
  · cases h

theorem eqT_run (hc : CfgOk c) : ∀ (d : Nat) (t : TypeId) (x y : V) (X Y : Value) (b : Bool), eqT c d t x y = some b → Rep c w G μ x X → Rep c w G μ y Y →
    ∀ w', (Op.equalIn d t X Y).run c.P w' = .ok b w' := by
  intro d
  induction d with
  | zero => intro t x y X Y b h; simp [eqT] at h
  | succ d ih =>
    intro t x y X Y b h hx hy w'
    simp only [eqT] at h
    split at h
    · cases h
    · rename_i ty hty
      have hok := hc.ty t ty hty
      generalize hd : ty.d = dd at h
      split at h
      · cases h; cases hx; cases hy
        exact run_equalIn_bool' w' d t _ _ (hd ▸ hok.und)
      · split at h
        · rename_i hk
          cases h; cases hx; cases hy
          have := eq_of_beq hk; subst this
          exact run_equalIn_int w' d t _ _ _ _ (hd ▸ hok.und)
        · cases h
      · cases h; cases hx; cases hy
        rw [run_equalIn_string w' d t _ _ (hd ▸ hok.und), toList_mk, toList_mk]; rfl
      · cases h; cases hx; cases hy
        have := hok.und; rw [hd] at this
        simp [Op.equalIn, run_underlying this]
      · cases h; cases hx; cases hy
        have := hok.und; rw [hd] at this
        simp [Op.equalIn, run_underlying this]
      · cases h; cases hx; cases hy
        have := hok.und; rw [hd] at this
        simp [Op.equalIn, run_underlying this]
      · rename_i fs xs ys
        split at h
        · rename_i he
          simp only [Bool.and_eq_true] at he
          cases hx with
          | agg _ lx hlx hsx hrx =>
          cases hy with
          | agg _ ly hly hsy hry =>
          have hag : isAggD ty.d = true := by rw [hd]; rfl
          have hp := hok.eq he.1 hag
          have hf : c.P.fieldsOf t = fs := by simp [Program.fieldsOf, hok.und, hd]
          rw [run_equalIn_struct w' d t _ _ (by rw [hf, hok.und, hd]) hp.1, hf]
          have hfs := hok.fields fs hd
          have key : ∀ (l : List Field), (∀ f ∈ l, ∃ y', c.ty f.type = some y') → (l.all fun f => f.name != "_") = true → ∀ b, eqFs c (eqT c d) xs ys l = some b →
              (Op.eqFields d lx.toArray ly.toArray l).run c.P w' = .ok b w' := by
            intro l
            induction l with
            | nil => intro _ _ b hb; simp [eqFs] at hb; subst hb; simp [Op.eqFields]
            | cons f l ihl =>
              intro hfl hn b hb
              simp only [eqFs] at hb
              split at hb
              · rename_i x1 y1 hx1 hy1
                split at hb
                · rename_i b1 b2 hb1 hb2
                  cases hb
                  obtain ⟨yf, hyf⟩ := hfl f (by simp)
                  obtain ⟨u1, hu1, hr1, _⟩ := partV_run hc hx1 hlx hsx hrx hyf
                  obtain ⟨u2, hu2, hr2, _⟩ := partV_run hc hy1 hly hsy hry hyf
                  simp only [List.all_cons, Bool.and_eq_true] at hn
                  have hnn : f.name ≠ "_" := by simpa using hn.1
                  have e1 := ih f.type x1 y1 u1 u2 b1 hb1 hr1 hr2 w'
                  have e2 := ihl (fun f hf => hfl f (by simp [hf])) hn.2 b2 hb2
                  simp only [Op.eqFields, if_pos hnn, Sem.run_bind, hu1, hu2, Result.andThen_ok, e1, Sem.run_ite, e2, Sem.run_pure]
                  cases b1 <;> simp
                · cases hb
              · cases hb
          exact key fs.toList (fun f hf => hfs f (by simpa using hf)) he.2 b h
        · cases h
      · cases h

theorem eqT_shape (hc : CfgOk c) {d : Nat} {t : TypeId} {x y : V} {b : Bool} (h : eqT c d t x y = some b) :
    ((∃ p q, x = .bool p ∧ y = .bool q) ∨ (∃ k p k' q, x = .int k p ∧ y = .int k' q) ∨ (∃ p q, x = .str p ∧ y = .str q) ∨ (∃ i o, x = .ref i o ∧ y = .raw (.pointer none)) ∨
      (∃ i o, x = .raw (.pointer none) ∧ y = .ref i o) ∨ (x = .raw (.pointer none) ∧ y = .raw (.pointer none)) ∨
      (∃ p q, x = .agg p ∧ y = .agg q ∧ c.P.eqGuardType c.P.depth t = false)) := by
  cases d with
  | zero => simp [eqT] at h
  | succ d =>
    simp only [eqT] at h
    split at h
    · cases h
    · rename_i ty hty
      have hok := hc.ty t ty hty
      generalize hd : ty.d = dd at h
      split at h
      · exact .inl ⟨_, _, rfl, rfl⟩
      · exact .inr (.inl ⟨_, _, _, _, rfl, rfl⟩)
      · exact .inr (.inr (.inl ⟨_, _, rfl, rfl⟩))
      · exact .inr (.inr (.inr (.inl ⟨_, _, rfl, rfl⟩)))
      · exact .inr (.inr (.inr (.inr (.inl ⟨_, _, rfl, rfl⟩))))
      · exact .inr (.inr (.inr (.inr (.inr (.inl ⟨rfl, rfl⟩)))))
      · split at h
        · rename_i he
          simp only [Bool.and_eq_true] at he
          exact .inr (.inr (.inr (.inr (.inr (.inr ⟨_, _, rfl, rfl, (hok.eq he.1 (by rw [hd]; rfl)).2⟩)))))
        · cases h
      · cases h

theorem binV_run (hc : CfgOk c) {R : Type} {op : BinOp} {t : TypeId} {x y : V} {X Y : Value} {K : V → Option R} {r : R} (h : binV c op t x y K = some r) (hx : Rep c w G μ x X) (hy : Rep c w G μ y Y) (ox oy : Operand) :
    ∃ v u, K v = some r ∧ (∀ w', (do eqGuard op t ox oy X Y; binOp op t X Y : Sem Value).run c.P w' = .ok u w') ∧ (∀ w G μ, Rep c w G μ v u) ∧ v.tips = false := by
  unfold binV at h
  split at h
  · rename_i k a k' b
    cases hx; cases hy
    split at h
    · obtain ⟨v, u, h1, h2, h3⟩ := shiftOp_run (c := c) (k' := k') t h
      exact ⟨v, u, h1, fun w' => by rw [eqGuard_at_int]; simpa using h2 w', h3⟩
    · obtain ⟨v, u, h1, h2, h3⟩ := shiftOp_run (c := c) (k' := k') t h
      exact ⟨v, u, h1, fun w' => by rw [eqGuard_at_int]; simpa using h2 w', h3⟩
    · split at h
      · rename_i hk
        have := eq_of_beq hk; subst this
        obtain ⟨v, u, h1, h2, h3⟩ := intOp_run (c := c) t h
        exact ⟨v, u, h1, fun w' => by rw [eqGuard_at_int]; simpa using h2 w', h3⟩
      · cases h
  · cases hx; cases hy
    obtain ⟨v, u, h1, h2, h3⟩ := strOp_run (c := c) t h
    exact ⟨v, u, h1, fun w' => by rw [eqGuard_at_string]; simpa using h2 w', h3⟩
  · rename_i hni hns
    have guard : ∀ b, eqT c 20 t x y = some b → ∀ w', (eqGuard op t ox oy X Y).run c.P w' = .ok () w' := by
      intro b hb w'
      rcases eqT_shape hc hb with ⟨p, q, rfl, rfl⟩ | ⟨k, p, k', q, rfl, rfl⟩ | ⟨p, q, rfl, rfl⟩ | ⟨i, o, rfl, rfl⟩ | ⟨i, o, rfl, rfl⟩ | ⟨rfl, rfl⟩ | ⟨p, q, rfl, rfl, hg⟩
      · cases hx; rw [eqGuard_at_bool]; rfl
      · cases hx; rw [eqGuard_at_int]; rfl
      · cases hx; rw [eqGuard_at_string]; rfl
      · cases hx; rw [eqGuard_at_pointer]; rfl
      · cases hx; rw [eqGuard_at_pointer]; rfl
      · cases hx; rw [eqGuard_at_pointer]; rfl
      · cases hx; cases hy; exact run_eqGuard_agg w' op t ox oy _ _ hg
    have big : ∀ b, eqT c 20 t x y = some b → ∀ w', (Op.equal t X Y).run c.P w' = .ok b w' := by
      intro b hb w'
      have mono : ∀ (d : Nat) (t : TypeId) (x y : V) (b : Bool), eqT c d t x y = some b → ∀ k, eqT c (d + k) t x y = some b := by
        intro d
        induction d with
        | zero => intro t x y b h; simp [eqT] at h
        | succ d ihd =>
          intro t x y b h k
          rw [Nat.add_right_comm]
          simp only [eqT] at h ⊢
          split at h
          · cases h
          · split at h <;> first | exact h | skip
            rename_i ty fs xs ys hd
            split at h
            · rename_i hcnd
              rw [if_pos hcnd]
              have fsM : ∀ (l : List Field) b, eqFs c (eqT c d) xs ys l = some b → eqFs c (eqT c (d + k)) xs ys l = some b := by
                intro l
                induction l with
                | nil => intro b h; exact h
                | cons f l ihl =>
                  intro b h
                  simp only [eqFs] at h ⊢
                  split at h
                  · split at h
                    · rename_i b1 b2 h1 h2
                      rw [ihd _ _ _ _ h1 k, ihl _ h2]; exact h
                    · cases h
                  · cases h
              exact fsM _ _ h
            · cases h
      have := eqT_run (w := w) (G := G) (μ := μ) hc 10000 t x y X Y b (mono 20 t x y b hb 9980) hx hy w'
      exact this
    have be : binOp .eql t X Y = (do pure (.bool (← Op.equal t X Y)) : Sem Value) ∧ binOp .neq t X Y = (do pure (.bool (!(← Op.equal t X Y))) : Sem Value) ∨ (eqT c 20 t x y).isNone := by
      cases hq : eqT c 20 t x y with
      | none => exact .inr rfl
      | some b =>
        refine .inl ?_
        rcases eqT_shape hc hq with ⟨p, q, rfl, rfl⟩ | ⟨k, p, k', q, rfl, rfl⟩ | ⟨p, q, rfl, rfl⟩ | ⟨i, o, rfl, rfl⟩ | ⟨i, o, rfl, rfl⟩ | ⟨rfl, rfl⟩ | ⟨p, q, rfl, rfl, hg⟩
        · cases hx; cases hy; exact ⟨rfl, rfl⟩
        · exact absurd rfl (hni _ _ _ _ rfl)
        · exact absurd rfl (hns _ _ rfl)
        · cases hx; cases hy; exact ⟨rfl, rfl⟩
        · cases hx; cases hy; exact ⟨rfl, rfl⟩
        · cases hx; cases hy; exact ⟨rfl, rfl⟩
        · cases hx; cases hy; exact ⟨rfl, rfl⟩
    split at h
    · split at h
      · rename_i b hb
        refine ⟨_, .bool b, h, fun w' => ?_, fun _ _ _ => .bool _, rfl⟩
        rcases be with be | be
        · simp only [Sem.run_bind, guard b hb w', Result.andThen_ok, be.1, big b hb w', Sem.run_pure]
        · rw [hb] at be; simp at be
      · cases h
    · split at h
      · rename_i b hb
        refine ⟨_, .bool (!b), h, fun w' => ?_, fun _ _ _ => .bool _, rfl⟩
        rcases be with be | be
        · simp only [Sem.run_bind, guard b hb w', Result.andThen_ok, be.2, big b hb w', Sem.run_pure]
        · rw [hb] at be; simp at be
      · cases h
    · cases h
end
end Go.Ev
