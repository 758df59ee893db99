/- Three functions of the library's, and one of the program's, walked by hand: what each call gives. -/
import Derived.Test.YtmhhcoccfojiiaaDoorProg
import Derived.Lib.Split
import Derived.Lib.Walk
import Derived.Lib.Strings
import Derived.Lib.Bytealg
import Derived.Lib.CutLaws
import Derived.Lib.ConvBytes
import Derived.Laws.Strings3
import Derived.WalkKit
import Derived.Deep.OwnRows
import Derived.Deep.LoopGhost
import Derived.Deep.Light
namespace Go.Proofs.YtmhhcoccfojiiaaDoor
open Go.RowKit

/-- A letter's small one. -/
def lowI (c : Int) : Int := if 65 ≤ c ∧ c ≤ 90 then c + 32 else c
theorem lowI_range {c : Int} (h : 0 ≤ c ∧ c < 256) : 0 ≤ lowI c ∧ lowI c < 256 := by unfold lowI; split <;> omega

set_option maxHeartbeats 1000000 in
theorem lower_c (c : Int) (h : 0 ≤ c ∧ c < 256) (w : World) : Calls Tryd.prog 33 #[.int .u8 c] w fun e w' => e = .returned (.int .u8 (lowI c)) ∧ w' = w := by
  by_cases h1 : 65 ≤ c
  · by_cases h2 : c ≤ 90
    · have e : lowI c = c - 65 + 97 := by unfold lowI; rw [if_pos ⟨h1, h2⟩]; omega
      rw [e]
      go_enter Tryd.func33, Tryd.ntmps33
      go_wp2
      go_ret
      exact ⟨rfl, rfl⟩
    · have e : lowI c = c := by unfold lowI; rw [if_neg (by omega)]
      rw [e]
      go_enter Tryd.func33, Tryd.ntmps33
      go_wp2
      go_ret
      exact ⟨rfl, rfl⟩
  · have e : lowI c = c := by unfold lowI; rw [if_neg (by omega)]
    rw [e]
    go_enter Tryd.func33, Tryd.ntmps33
    go_wp2
    go_ret
    exact ⟨rfl, rfl⟩

set_option maxHeartbeats 1000000 in
theorem indexByte_c (s : ByteArray) (c : Int) (w : World) : Calls Tryd.prog 58 #[.string s, .int .u8 c] w fun e w' => e = .returned (.int .i64 (Lib.indexByte s.data.toList c.toNat.toUInt8)) ∧ w' = w := by
  go_enter Tryd.func58, Tryd.ntmps58
  go_wp2
  rw [run_callFunc_extern Tryd.func63 (by kernel_rfl) (by kernel_rfl) (by kernel_rfl) (e := Extern.BytealgIndexByte.indexByte) (by kernel_rfl), Lib.run_indexByteString]
  simp only [Result.andThen]
  rw [Oper.upon_value]
  go_wp2
  go_ret
  exact ⟨rfl, rfl⟩

/-- Where a byte stands first; below 0: nowhere. -/
abbrev at1 (s : ByteArray) (b : UInt8) : Int := Lib.indexByte s.data.toList b

theorem u8_back (b : UInt8) : ((b.toNat : Int).toNat.toUInt8) = b := by simp

set_option maxHeartbeats 1000000 in
theorem index_c (s : ByteArray) (b : UInt8) (w : World) : Calls Tryd.prog 51 #[.string s, .string ⟨#[b]⟩] w fun e w' => e = .returned (.int .i64 (at1 s b)) ∧ w' = w := by
  go_enter Tryd.func51, Tryd.ntmps51
  go_wp2_with (first | (go_at_call 58; refine (indexByte_c _ _ _).mono ?_; rintro e w' ⟨rfl, hw⟩; rw [hw]))
  · have h : ([b] == s.toList) = true := by assumption
    go_ret
    refine ⟨?_, rfl⟩
    have e : s.data.toList = [b] := by rw [← Lib.toList_data]; exact (beq_iff_eq.1 h).symm
    unfold at1
    rw [e]
    simp [Lib.indexByte]
  · go_ret
    exact ⟨rfl, rfl⟩

set_option maxHeartbeats 1000000 in
theorem index2_c (s : ByteArray) (b : UInt8) (w : World) : Calls Tryd.prog 67 #[.string s, .string ⟨#[b]⟩] w fun e w' => e = .returned (.int .i64 (at1 s b)) ∧ w' = w := by
  go_enter Tryd.func67, Tryd.ntmps67
  go_wp2_with (first | (go_at_call 51; refine (index_c _ _ _).mono ?_; rintro e w' ⟨rfl, hw⟩; rw [hw]))
  go_ret
  exact ⟨rfl, rfl⟩

theorem info9 : (Tryd.prog.info? 9).map (fun i => (i.zero, i.size, i.bytes)) = some (some (.string ByteArray.empty), 1, 16) := by kernel_rfl

theorem index_byte (b : UInt8) : ∀ l : List UInt8, Lib.index l [b] = Lib.indexByte l b
  | [] => rfl
  | x :: l => by
    unfold Lib.index Lib.indexByte
    rw [index_byte b l]
    by_cases h : x = b
    · simp [h]
    · simp [h, Ne.symm h]

set_option maxHeartbeats 4000000 in
set_option maxRecDepth 1000000 in
/-- strings.genSplit at a byte, in at most so many pieces. -/
theorem genSplit_c (s : ByteArray) (b : UInt8) (n : Int) (N : Nat) (w : World) (hs : s.size < 4294967281) (hn0 : 0 < n) (hn63 : n ≤ 9223372036854775807) (hN : (N : Int) = min n ((s.size : Int) + 1)) :
    Calls Tryd.prog 62 #[.string s, .string ⟨#[b]⟩, .int .i64 0, .int .i64 n] w fun e w' =>
      e = .returned (.slice (some ⟨w.heap.size, 0, none⟩) (Lib.splitB ⟨#[b]⟩ 0 (N - 1) s).length N) ∧ w' = w.alloc (.cells (Lib.cellsOf (Lib.splitB ⟨#[b]⟩ 0 (N - 1) s) N) 9) := by
  have hI : ∀ (x : ByteArray) (c : Array Value), Calls Tryd.prog 67 #[.string x, .string ⟨#[b]⟩] (w.alloc (.cells c 9)) fun e w' => e = .returned (.int .i64 (Lib.indexB x ⟨#[b]⟩)) ∧ w' = w.alloc (.cells c 9) := by
    intro x c
    have := index2_c x b (w.alloc (.cells c 9))
    have e : Lib.indexB x ⟨#[b]⟩ = at1 x b := index_byte b _
    rw [e]; exact this
  have hne : (n == 0) = false := beq_eq_false_iff_ne.2 (by omega)
  have eN' : min n ((s.size : Int) + 1) = (N : Int) := hN.symm
  have hneg : ¬ n < 0 := by omega
  have hNs : (N : Int) ≤ (s.size : Int) + 1 := by rw [← eN']; exact Int.min_le_right _ _
  have hN1 : (1 : Int) ≤ (N : Int) := by rw [← eN']; exact Int.le_min.2 ⟨by omega, by omega⟩
  have hmk := run_make_row' (P := Tryd.prog) 75 9 (.string ByteArray.empty) 16 Tryd.underlying75 info9 rfl .i64 .i64 N (by omega) (by omega)
  clear hN
  go_enter Tryd.func62, Tryd.ntmps62
  go_wp2
  clear hmk
  go_loopg [0, 10] (N - 1) (fun g s0 s10 wr => ∃ (done : List ByteArray) (rest : ByteArray), s0 = .string rest ∧ s10 = .int .i64 done.length ∧ done.length ≤ N - 1 ∧ g = N - 1 - done.length ∧ rest.size ≤ s.size ∧
    wr = w.alloc (.cells (Lib.cellsOf done N) 9) ∧ done ++ Lib.splitB ⟨#[b]⟩ 0 (N - 1 - done.length) rest = Lib.splitB ⟨#[b]⟩ 0 (N - 1) s)
  case atStart => exact ⟨[], s, rfl, rfl, Nat.zero_le _, rfl, Nat.le_refl _, by rw [Lib.cellsOf_nil], rfl⟩
  case round =>
    obtain ⟨done, rest, rfl, rfl, hd, rfl, hrs, rfl, hsp⟩ := hrel
    have hnext : (Lib.cellsOf done N)[done.length]? = some (.string ByteArray.empty) := Lib.cellsOf_next (by omega)
    have HS : Aside (done ++ Lib.splitB ⟨#[b]⟩ 0 (N - 1 - done.length) rest = Lib.splitB ⟨#[b]⟩ 0 (N - 1) s) := hsp
    clear hsp
    have fin : Lib.splitB ⟨#[b]⟩ 0 (N - 1 - done.length) rest = [rest] → (Lib.splitB ⟨#[b]⟩ 0 (N - 1) s).length = done.length + 1 ∧ (Lib.cellsOf done N).setIfInBounds done.length (.string rest) = Lib.cellsOf (Lib.splitB ⟨#[b]⟩ 0 (N - 1) s) N := fun h => by
      have e := HS.out
      rw [h] at e
      rw [← e]
      exact ⟨by simp, Lib.cellsOf_set (by omega) rest⟩
    by_cases hlt : done.length < N - 1
    · have hltz : ((done.length : Nat) : Int) < (N : Int) - 1 := by omega
      rcases Lib.indexB_cases rest ⟨#[b]⟩ with hix | ⟨i, hix, hroom⟩
      · go_wp2_with (first | (go_at_call 67; refine (hI rest _).mono ?_; rintro e w' ⟨rfl, hw⟩; rw [hw, hix]))
        go_ret
        obtain ⟨f1, f2⟩ := fin (Lib.splitB_miss ⟨#[b]⟩ 0 _ rest hix)
        rw [f1, ← f2]
        exact ⟨by first | rfl | (congr 2 <;> omega), rfl⟩
      · have hroom : i + 1 ≤ rest.size := hroom
        have c0 : ¬ ((i : Int) < 0) := by omega
        have c1 : (0 : Int) ≤ ↑i + 0 := by omega
        have c2 : (↑i + 0 : Int) ≤ ↑rest.size := by omega
        have c1' : (0 : Int) ≤ ↑i := by omega
        have c2' : (↑i : Int) ≤ ↑rest.size := by omega
        have c3 : (0 : Int) ≤ ↑i + 1 := by omega
        have c4 : (↑i + 1 : Int) ≤ ↑rest.size := by omega
        go_wp2_with (first | (go_at_call 67; refine (hI rest _).mono ?_; rintro e w' ⟨rfl, hw⟩; rw [hw, hix]))
        go_roundg (N - 1 - (done.length + 1))
        case measure => go_light; omega
        case rel =>
          go_light
          refine ⟨done ++ [rest.extract 0 (i + 0)], rest.extract (i + 1) rest.size, rfl, by simp, by simp; omega, by simp, by rw [ByteArray.size_extract]; omega, by rw [← Lib.cellsOf_set (by omega)]; try simp, ?_⟩
          rw [← HS.out, show N - 1 - done.length = (N - 1 - (done.length + 1)) + 1 by omega, Lib.splitB_hit ⟨#[b]⟩ 0 _ rest i hix]
          simp
          rfl
    · have hltz : ¬ (((done.length : Nat) : Int) < (N : Int) - 1) := by omega
      go_wp2
      go_ret
      obtain ⟨f1, f2⟩ := fin (by rw [show N - 1 - done.length = 0 by omega]; rfl)
      rw [f1, ← f2]
      exact ⟨by first | rfl | (congr 2 <;> omega), rfl⟩

set_option maxHeartbeats 1000000 in
theorem splitN_c (s : ByteArray) (b : UInt8) (n : Int) (N : Nat) (w : World) (hs : s.size < 4294967281) (hn0 : 0 < n) (hn63 : n ≤ 9223372036854775807) (hN : (N : Int) = min n ((s.size : Int) + 1)) :
    Calls Tryd.prog 53 #[.string s, .string ⟨#[b]⟩, .int .i64 n] w fun e w' =>
      e = .returned (.slice (some ⟨w.heap.size, 0, none⟩) (Lib.splitB ⟨#[b]⟩ 0 (N - 1) s).length N) ∧ w' = w.alloc (.cells (Lib.cellsOf (Lib.splitB ⟨#[b]⟩ 0 (N - 1) s) N) 9) := by
  go_enter Tryd.func53, Tryd.ntmps53
  go_wp2_with (first | (go_at_call 62; refine (genSplit_c s b n N _ hs hn0 hn63 hN).mono ?_; rintro e w' ⟨rfl, hw⟩; rw [hw]))
  go_ret
  exact ⟨rfl, rfl⟩

/-- Where Fold's loop stands: so many bytes of the row that it made are small. -/
structure FoldAt (w : World) (s : ByteArray) (k : Nat) (wr : World) : Prop where
  size : wr.heap.size = w.heap.size + 1
  old : ∀ b, b < w.heap.size → wr.heap[b]? = w.heap[b]?
  os : wr.os = w.os
  out : wr.output = w.output
  tape : wr.tape = w.tape
  row : ∃ (cs : Array Value) (fr : Nat × Nat), wr.heap[w.heap.size]? = some (.cells cs 5 fr) ∧ s.size ≤ cs.size ∧ s.size ≤ fr.1 ∧
    ∀ j, j < s.size → cs[j]? = some (.int .u8 (if j < k then lowI (s.data.toList.getD j 0).toNat else (s.data.toList.getD j 0).toNat))

theorem FoldAt.start (w : World) (s : ByteArray) : FoldAt w s 0 (Lib.bytesWorld w 5 s) := by
  have hge := grownCap_ge w s.size 0 5
  have hsz : (Lib.bytesCells w 5 s).size = grownCap w s.size 0 5 := by simp [Lib.bytesCells]; omega
  refine ⟨Lib.bytesWorld_size w 5 s, fun b hb => Lib.bytesWorld_at_old w 5 s b hb, ?_, ?_, ?_, _, _, Lib.bytesWorld_at_new w 5 s, by omega, by simp only []; omega, fun j hj => ?_⟩
  iterate 3 (unfold Lib.bytesWorld World.freeze; split <;> rfl)
  have := Lib.bytesWorld_cell w 5 s j hj
  simp only [World.cell?, Lib.bytesWorld_at_new] at this
  simpa using this

theorem FoldAt.store {w wr : World} {s : ByteArray} {k : Nat} (h : FoldAt w s k wr) (hk : k < s.size) :
    FoldAt w s (k + 1) (wr.setCell ⟨w.heap.size, k, none⟩ (.int .u8 (lowI (s.data.toList.getD k 0).toNat))) := by
  obtain ⟨h1, h2, h3, h4, h5, cs, fr, h6, h7, h8, h9⟩ := h
  have hat : (wr.setCell ⟨w.heap.size, k, none⟩ (.int .u8 (lowI (s.data.toList.getD k 0).toNat))).heap[w.heap.size]? = some (.cells (cs.setIfInBounds k (.int .u8 (lowI (s.data.toList.getD k 0).toNat))) 5 fr) := by
    unfold World.setCell
    rw [Array.getElem?_modify, if_pos rfl, h6]
    rfl
  refine ⟨by simp [World.setCell, h1], fun b hb => ?_, h3, h4, h5, _, _, hat, by simpa using h7, h8, fun j hj => ?_⟩
  · have hne : ¬ (w.heap.size = b) := by omega
    unfold World.setCell
    rw [Array.getElem?_modify, if_neg hne, h2 b hb]
  · rw [Array.getElem?_setIfInBounds]
    by_cases hjk : k = j
    · subst hjk
      rw [if_pos rfl, if_pos (by omega), if_pos (Nat.lt_succ_self _)]
    · rw [if_neg hjk, h9 j hj]
      by_cases hlt : j < k
      · rw [if_pos hlt, if_pos (by omega)]
      · rw [if_neg hlt, if_neg (by omega)]

theorem bytes_foldl : ∀ (ns : List Int) (s : ByteArray), ns.foldl (fun r n => r.push (UInt8.ofNat n.toNat)) s = ⟨(s.data.toList ++ ns.map fun n => UInt8.ofNat n.toNat).toArray⟩
  | [], s => by simp
  | n :: ns, s => by
    rw [List.foldl_cons, bytes_foldl ns]
    congr 1
    simp [ByteArray.push]

/-- What Fold returns is read off the row behind its last round. -/
theorem FoldAt.text {w wr : World} {s : ByteArray} (h : FoldAt w s s.size wr) (cap : Nat) :
    (convert 44 9 (.slice (some ⟨w.heap.size, 0, none⟩) s.size cap)).run Tryd.prog wr = .ok (.string ⟨(s.data.toList.map fun b => UInt8.ofNat (lowI b.toNat).toNat).toArray⟩) wr := by
  rw [run_convert_bytes_string wr 44 9 5 _ _ _ Tryd.underlying44 Tryd.underlying5 Tryd.underlying9]
  obtain ⟨h1, h2, h3, h4, h5, cs, fr, h6, h7, h8, h9⟩ := h
  have hl : s.data.toList.length = s.size := (Lib.size_eq s).symm
  have hld := run_loadCells_list (P := Tryd.prog) wr ⟨w.heap.size, 0, none⟩ ((s.data.toList.map fun b => lowI b.toNat).map (Value.int .u8)) (fun j v hj => by
    have hlt := (List.getElem?_eq_some_iff.1 hj).1
    simp [hl] at hlt
    have := h9 j hlt
    rw [if_pos hlt] at this
    rw [Addr.add_lit]
    simp only [World.cell?, Nat.zero_add, h6]
    have hv : v = .int .u8 (lowI (s.data.toList.getD j 0).toNat) := by
      simp only [List.getElem?_map] at hj
      rw [List.getElem?_eq_getElem (by omega)] at hj
      simp at hj
      rw [← hj]; simp [List.getD, hlt]
    rw [hv]; simpa using this)
  have hlen : ((s.data.toList.map fun b => lowI b.toNat).map (Value.int .u8)).length = s.size := by simp [hl]
  rw [hlen] at hld
  rw [run_bytesToString wr _ _ _ _ hld, bytes_foldl]
  simp [Function.comp_def]

set_option maxHeartbeats 1000000 in
theorem fold_c (s : ByteArray) (w : World) (hs : s.size < 4294967281) : Calls Tryd.prog 17 #[.string s] w fun e w' =>
    e = .returned (.string ⟨(s.data.toList.map fun b => UInt8.ofNat (lowI b.toNat).toNat).toArray⟩) ∧ FoldAt w s s.size w' := by
  have hconv := Lib.run_convert_string_bytes (P := Tryd.prog) w 9 44 5 s Tryd.underlying9 Tryd.underlying44 Tryd.underlying5
  go_enter Tryd.func17, Tryd.ntmps17
  go_wp2
  clear hconv
  go_loopg [9] s.size (fun g s9 wr => ∃ k : Nat, s9 = .int .i64 k ∧ k ≤ s.size ∧ g = s.size - k ∧ FoldAt w s k wr)
  case atStart => exact ⟨0, rfl, Nat.zero_le _, rfl, FoldAt.start w s⟩
  case round =>
    obtain ⟨k, rfl, hk, rfl, hF⟩ := hrel
    by_cases hlt : k < s.size
    · have hltz : (k : Int) < (s.size : Int) := by omega
      obtain ⟨cs, fr, h6, h7, h8, h9⟩ := hF.row
      have hcell : wr.cell? ⟨w.heap.size, k, none⟩ = some (.int .u8 (s.data.toList.getD k 0).toNat) := by
        have := h9 k hlt
        rw [if_neg (Nat.lt_irrefl _)] at this
        simp only [World.cell?, h6]; simpa using this
      have hfz : wr.frozen? ⟨w.heap.size, k, none⟩ = false := by
        unfold World.frozen?
        simp only [h6]
        simp; omega
      have hb : 0 ≤ ((s.data.toList.getD k 0).toNat : Int) ∧ ((s.data.toList.getD k 0).toNat : Int) < 256 := ⟨by omega, by have := (s.data.toList.getD k 0).toNat_lt; omega⟩
      obtain ⟨x, hx⟩ : ∃ x : Int, x = ((s.data.toList.getD k 0).toNat : Int) := ⟨_, rfl⟩
      rw [← hx] at hcell hb
      have HF : Aside (FoldAt w s k wr ∧ x = ((s.data.toList.getD k 0).toNat : Int)) := ⟨hF, hx⟩
      clear hF h6 h7 h8 h9 hx
      have h33 := lower_c x hb wr
      go_wp2_with (first | (go_at_call 33; refine h33.mono ?_; rintro e w' ⟨rfl, hw⟩; rw [hw]))
      go_roundg (s.size - (k + 1))
      case measure => go_light; omega
      case rel =>
        go_light
        obtain ⟨hF, hx⟩ := HF.out
        refine ⟨k + 1, by push_cast; rfl, by omega, by omega, ?_⟩
        rw [hx]
        exact hF.store hlt
    · have hltz : ¬ ((k : Int) < (s.size : Int)) := by omega
      obtain rfl : k = s.size := by omega
      have htx := hF.text (grownCap w s.size 0 5)
      go_wp2
      go_ret
      exact ⟨rfl, hF⟩
end Go.Proofs.YtmhhcoccfojiiaaDoor
