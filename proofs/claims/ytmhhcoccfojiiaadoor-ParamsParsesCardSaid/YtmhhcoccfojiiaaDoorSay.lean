/- What a function gives, whatever the rounds that it is let; small laws for it. -/
import Derived.Test.YtmhhcoccfojiiaaDoorGlue
import Derived.IntWalk
import Derived.Laws.BitsAllLaws
namespace Go.Proofs.YtmhhcoccfojiiaaDoor
open Go.Ev Go
abbrev Bs := List UInt8

/-- With rounds enough the function gives this. -/
def Ret (f : FuncId) (args : List V) (objs : List Ob) (r : V × List Ob) : Prop := ∃ K, ∀ k, K ≤ k → callN cfg k f args objs = some r
/-- With rounds enough, of calls and of a loop. -/
def Evt {α : Type} (g : Nat → Nat → Option α) (r : α) : Prop := ∃ K, ∀ k n, K ≤ k → K ≤ n → g k n = some r

theorem ret_mk {f : FuncId} {args : List V} {objs : List Ob} {r : V × List Ob} {g : Nat → Nat → Option (V × List Ob)} (hc : ∀ k, callN cfg (k + 1) f args objs = g k k) (h : Evt g r) : Ret f args objs r := by
  obtain ⟨K, h⟩ := h
  refine ⟨K + 1, fun k hk => ?_⟩
  obtain ⟨j, rfl⟩ : ∃ j, k = j + 1 := ⟨k - 1, by omega⟩
  rw [hc]; exact h j j (by omega) (by omega)
theorem evt_step {α : Type} {g g' : Nat → Nat → Option α} {r : α} (hg : ∀ k n, g k (n + 1) = g' k n) (h : Evt g' r) : Evt g r := by
  obtain ⟨K, h⟩ := h
  refine ⟨K + 1, fun k n hk hn => ?_⟩
  obtain ⟨j, rfl⟩ : ∃ j, n = j + 1 := ⟨n - 1, by omega⟩
  rw [hg]; exact h k j (by omega) (by omega)
theorem evt_some {α : Type} (r : α) : Evt (fun _ _ => some r) r := ⟨0, fun _ _ _ _ => rfl⟩
theorem evt_bind {α : Type} {f : FuncId} {args : List V} {objs : List Ob} {p : V × List Ob} {F : Nat → Nat → V × List Ob → Option α} {r : α} (h : Ret f args objs p) (h2 : Evt (fun k n => F k n p) r) :
    Evt (fun k n => Option.bind (callN cfg k f args objs) (F k n)) r := by
  obtain ⟨K, h⟩ := h
  obtain ⟨K2, h2⟩ := h2
  refine ⟨K + K2, fun k n hk hn => ?_⟩
  show Option.bind (callN cfg k f args objs) (F k n) = some r
  rw [h k (by omega)]
  exact h2 k n (by omega) (by omega)
theorem ret_hand {f : FuncId} {args : List V} {objs : List Ob} {r : V × List Ob} {h : Go.Ev.Fun} (hh : cfg.hand f = some h) (e : h args objs = some r) : Ret f args objs r := by
  refine ⟨1, fun k hk => ?_⟩
  obtain ⟨j, rfl⟩ : ∃ j, k = j + 1 := ⟨k - 1, by omega⟩
  simp only [callN, hh]; exact e

theorem chk_t {R : Type} (x : Option R) : chk true x = x := rfl
theorem chk_p {R : Type} {p : Prop} [Decidable p] (h : p) (x : Option R) : chk (decide p) x = x := by simp [chk, h]
theorem chk_b {R : Type} {b : Bool} (h : b = true) (x : Option R) : chk b x = x := by subst h; rfl
theorem bind_s {α β : Type} (a : α) (f : α → Option β) : Option.bind (some a) f = f a := rfl
theorem wrap64 {n : Int} (h1 : -9223372036854775808 ≤ n) (h2 : n < 9223372036854775808) : IntKind.wrap .i64 n = n := by
  rw [IntKind.wrap_i64]; omega
theorem wrapN (n : Nat) (h : n < 9223372036854775808) : IntKind.wrap .i64 (n : Int) = n := wrap64 (by omega) (by omega)
theorem wrap8 {n : Int} (h1 : 0 ≤ n) (h2 : n < 256) : IntKind.wrap .u8 n = n := by
  rw [IntKind.wrap_u8']; omega
theorem cat_ok {x y : Bs} (h : x.length + y.length ≤ 9223372036854775807) : catOk x y = true := by simp [catOk, h]
theorem app_ok {x y : List V} {n : Nat} (h : (x.length + y.length) * n ≤ 70368744177664) : appOk x y n = true := by simp [appOk, h]
theorem ofBytes_snoc (l : Bs) (c : UInt8) : ofBytes l ++ [.int .u8 (c.toNat : Int)] = ofBytes (l ++ [c]) := by simp [ofBytes]
theorem bytesOf_ofBytes (l : Bs) : bytesOf (ofBytes l) = l := by
  simp [bytesOf, ofBytes, V.getI, Function.comp_def]
theorem ofBytes_length (l : Bs) : (ofBytes l).length = l.length := by simp [ofBytes]

theorem getD_at {s : Bs} {i : Nat} (h : i < s.length) : s.getD i 0 = s[i] := by simp [List.getD, h]
theorem drop_at {s : Bs} {i : Nat} (h : i < s.length) : s.drop i = s[i] :: s.drop (i + 1) := List.drop_eq_getElem_cons h
/-- A statement on all bytes is one on 256 numbers. -/
theorem all_bytes {p : UInt8 → Prop} (h : ∀ n : Fin 256, p ⟨⟨n⟩⟩) (c : UInt8) : p c := by
  have := h ⟨c.toNat, c.toNat_lt⟩
  simpa using this
end Go.Proofs.YtmhhcoccfojiiaaDoor
