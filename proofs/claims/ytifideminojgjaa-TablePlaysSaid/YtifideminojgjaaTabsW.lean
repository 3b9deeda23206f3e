/- Lemmas for the statements of tables: what a table in memory is, what its calls do to it. -/
import Derived.Test.YtifideminojgjaaTabs
namespace Go.Proofs.Ytifideminojgjaa
set_option linter.unusedVariables false
set_option linter.unusedSimpArgs false
open Go.RowKit Go.Maps

theorem law9 : Keyed Try.prog 9 := string_keyed Try.underlying9
theorem zero3 (w : World) : (zeroValue 3).run Try.prog w = .ok (.int .i64 0) w := by kernel_rfl
theorem infoS : (Try.prog.info? 9).map (fun i => (i.zero, i.size, i.bytes)) = some (some (.string ByteArray.empty), 1, 16) := by kernel_rfl

def roomOf (n : Int) : Int := min (max n 1) 65536

set_option maxHeartbeats 400000 in
theorem newS_walk (n : Int) (w : World) :
    Calls Try.prog 16 #[.int .i64 n] w fun e w' => e = .returned (.pointer (some ⟨w.heap.size + 1, 0, none⟩)) ∧ w' = (w.alloc (.map #[] 0)).alloc (.cells #[.int .i64 (roomOf n), .slice none 0 0, .map (some w.heap.size)] 70) := by
  have hmm := @run_makeMap Try.prog
  go_enter Try.func16, Try.ntmps16
  go_wp2
  all_goals (go_ret; refine ⟨rfl, ?_⟩)
  all_goals (congr 5; unfold roomOf; omega)

/-- A table of strings. -/
abbrev TabS (w : World) (B tb mb room : Nat) (lv : Value) (l : List ByteArray) : Prop := Tab Try.prog 9 70 1 (fun s => [Value.string s]) kS w B tb mb room lv l

theorem newS (n : Int) (w : World) (B : Nat) (hB : B ≤ w.heap.size) :
    Calls Try.prog 16 #[.int .i64 n] w fun e w' => e = .returned (.pointer (some ⟨w.heap.size + 1, 0, none⟩)) ∧ TabS w' B (w.heap.size + 1) w.heap.size (roomOf n).toNat (.slice none 0 0) [] ∧ Turned (fun _ => False) w w' := by
  refine (newS_walk n w).mono ?_
  rintro e w' ⟨rfl, rfl⟩
  have hr : 1 ≤ roomOf n ∧ roomOf n ≤ 65536 := by unfold roomOf; omega
  refine ⟨rfl, ⟨by omega, hB, fun k e => by simp [Value.ownBlock] at e, ?_, Row.nil _ _ _, ?_, by simp [Value.ownBlock], by omega, by omega, by simp⟩, ((Turned.refl _ _).alloc _).alloc _⟩
  · rw [show ((roomOf n).toNat : Int) = roomOf n from by omega]
    have := heap_alloc_new (w.alloc (.map #[] 0)) (.cells #[.int .i64 (roomOf n), .slice none 0 0, .map (some w.heap.size)] 70)
    simpa using this
  · exact ⟨_, (World.ownsMap_made w _ _ _).alloc _, Rep.nil _⟩

set_option maxHeartbeats 400000 in
theorem lenS {w : World} {B tb mb room : Nat} {lv : Value} {l : List ByteArray} (h : TabS w B tb mb room lv l) :
    Calls Try.prog 20 #[.pointer (some ⟨tb, 0, none⟩)] w fun e w' => e = .returned (.int .i64 l.length) ∧ w = w' := by
  obtain ⟨a, cap, rfl⟩ := h.row.shape
  have c1 := h.cell1
  go_enter Try.func20, Try.ntmps20
  go_wp2
  go_ret
  exact ⟨rfl, rfl⟩

theorem keyS {s : ByteArray} (hs : s.size ≤ maxLen) : keyOf Try.prog 9 (.string s) = some (kS s) := WideMaps.keyOf_string_mk Try.underlying9 hs

theorem lit_int_inj {c : Int} {i : Nat} (h : (DataW.lit (Lit.int IntKind.i64 i) : DataW Unit) = DataW.lit (Lit.int IntKind.i64 c)) : c = i := by
  injection h with h; injection h with _ h; exact h.symm

set_option maxHeartbeats 400000 in
theorem findS_hit {w : World} {B tb mb room : Nat} {lv : Value} {l : List ByteArray} (h : TabS w B tb mb room lv l) (s : ByteArray) (hs : s.size ≤ maxLen) (i : Nat) (hi : l[i]? = some s) :
    Calls Try.prog 22 #[.pointer (some ⟨tb, 0, none⟩), .string s] w fun e w' => e = .returned (.tuple #[.int .i64 i, .bool true]) ∧ w = w' := by
  obtain ⟨D, hown, hrep⟩ := h.maps
  have c2 := h.cell2
  have hkey := keyS hs
  have hy := (hrep.yes i s hi).1
  have ha := Lib.hid (hrep.yes i s hi).2
  clear hi h hrep
  go_enter Try.func22, Try.ntmps22
  go_wp2_with (first
    | (at_lookup; refine wpList_lookup_own_ok_int _ rfl _ _ 68 rfl 9 3 .i64 law9 Try.underlying68 Try.underlying3 (zero3 _) mb _ D rfl hown _ _ rfl hkey ?_; intro c hat hwc; obtain rfl := lit_int_inj (ha.out.symm.trans hat)))
  go_ret2
  exact ⟨rfl, rfl⟩

set_option maxHeartbeats 400000 in
theorem findS_miss {w : World} {B tb mb room : Nat} {lv : Value} {l : List ByteArray} (h : TabS w B tb mb room lv l) (s : ByteArray) (hs : s.size ≤ maxLen) (hi : s ∉ l) :
    Calls Try.prog 22 #[.pointer (some ⟨tb, 0, none⟩), .string s] w fun e w' => e = .returned (.tuple #[.int .i64 0, .bool false]) ∧ w = w' := by
  obtain ⟨D, hown, hrep⟩ := h.maps
  have c2 := h.cell2
  have hkey := keyS hs
  have hy := hrep.no s hi
  have ha := Lib.hid (Maps.atKey_of_not_has hy (.lit (.int .i64 0)))
  clear hi h hrep
  go_enter Try.func22, Try.ntmps22
  go_wp2_with (first
    | (at_lookup; refine wpList_lookup_own_ok_int _ rfl _ _ 68 rfl 9 3 .i64 law9 Try.underlying68 Try.underlying3 (zero3 _) mb _ D rfl hown _ _ rfl hkey ?_; intro c hat hwc; obtain rfl := lit_int_inj (i := 0) (ha.out.symm.trans hat)))
  go_ret2
  exact ⟨rfl, rfl⟩
end Go.Proofs.Ytifideminojgjaa
