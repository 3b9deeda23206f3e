/- What the calls of a stack do. -/
import Derived.Test.YtifideminojgjaaStksR
import Derived.Deep.DeepCutAuto
import Derived.Test.YtifideminojgjaaProg
import Derived.LoopTactic
import Derived.BigRegion
namespace Go.Proofs.Ytifideminojgjaa
open Go.RowKit
set_option linter.unusedVariables false
set_option linter.unusedSimpArgs false

/-- A stack of Int. -/
abbrev StkI (w : World) (B sb room : Nat) (lv : Value) (l : List Int) : Prop := Stk 75 3 (Value.int .i64) w B sb room lv l

theorem onesI (l : List Int) : ∀ x ∈ l.map (Value.int .i64), x.oneCell' = true := by intro x hx; obtain ⟨_, _, rfl⟩ := List.mem_map.1 hx; rfl
theorem atsI {l : List Int} {i : Nat} {x : Int} (h : l[i]? = some x) : (l.map (Value.int .i64))[i]? = some ((Value.int .i64) x) := by rw [List.getElem?_map, h]; rfl

set_option maxHeartbeats 400000 in
theorem stkNewI_walk (n : Int) (w : World) :
    Calls Try.prog 25 #[.int .i64 n] w fun e w' => e = .returned (.pointer (some ⟨w.heap.size, 0, none⟩)) ∧ w' = w.alloc (.cells #[.int .i64 (min (max n 1) 65536), .slice none 0 0] 75) := by
  go_enter Try.func25, Try.ntmps25
  go_wp2
  all_goals (go_ret; refine ⟨rfl, ?_⟩)
  all_goals (congr 5; omega)

theorem stkNewI (n : Int) (w : World) :
    Calls Try.prog 25 #[.int .i64 n] w fun e w' => e = .returned (.pointer (some ⟨w.heap.size, 0, none⟩)) ∧ StkI w' w.heap.size w.heap.size (min (max n 1) 65536).toNat (.slice none 0 0) [] ∧ Turned (fun _ => False) w w' := by
  refine (stkNewI_walk n w).mono ?_
  rintro e w' ⟨rfl, rfl⟩
  refine ⟨rfl, ⟨Nat.le_refl _, fun k e => by simp [Value.ownBlock] at e, ?_, Row.nil _ _ _, by simp [Value.ownBlock], by omega, by omega, by simp⟩, (Turned.refl _ _).alloc _⟩
  rw [show (((min (max n 1) 65536).toNat : Nat) : Int) = min (max n 1) 65536 from by omega]
  exact heap_alloc_new w _

set_option maxHeartbeats 400000 in
theorem stkMarkI {w : World} {B sb room : Nat} {lv : Value} {l : List Int} (h : StkI w B sb room lv l) :
    Calls Try.prog 36 #[.pointer (some ⟨sb, 0, none⟩)] w fun e w' => e = .returned (.int .i64 l.length) ∧ w = w' := by
  obtain ⟨a, cap, rfl⟩ := h.row.shape
  obtain ⟨c0, c1, _⟩ := rec2_cells h.blk
  clear h
  go_enter Try.func36, Try.ntmps36
  go_wp2
  go_ret
  exact ⟨rfl, rfl⟩

set_option maxHeartbeats 400000 in
theorem stkAtI_hit {w : World} {B sb room : Nat} {lv : Value} {l : List Int} (h : StkI w B sb room lv l) (x : Int) (i : Nat) (hi : l[i]? = some x) :
    Calls Try.prog 43 #[.pointer (some ⟨sb, 0, none⟩), .int .i64 i] w fun e w' => e = .returned (.tuple #[(Value.int .i64) x, .bool true]) ∧ w = w' := by
  have hlt := (List.getElem?_eq_some_iff.1 hi).1
  have hr := h.room2
  have hl := h.len
  obtain ⟨g, cap, rfl⟩ := h.row.shape_pos (by omega)
  obtain ⟨c0, c1, _⟩ := rec2_cells h.blk
  have hc := h.row.cells rfl i _ (atsI hi)
  clear hi h
  go_enter Try.func43, Try.ntmps43
  go_wp2
  go_ret2
  exact ⟨rfl, rfl⟩

set_option maxHeartbeats 400000 in
theorem stkAtI_miss {w : World} {B sb room : Nat} {lv : Value} {l : List Int} (h : StkI w B sb room lv l) (i : Int) (hi : i < 0 ∨ (l.length : Int) ≤ i) :
    Calls Try.prog 43 #[.pointer (some ⟨sb, 0, none⟩), .int .i64 i] w fun e w' => e = .returned (.tuple #[Value.int .i64 0, .bool false]) ∧ w = w' := by
  obtain ⟨a, cap, rfl⟩ := h.row.shape
  have hr := h.room2
  have hl := h.len
  obtain ⟨c0, c1, _⟩ := rec2_cells h.blk
  clear h
  by_cases h0 : i < 0
  · go_enter Try.func43, Try.ntmps43
    go_wp2
    go_ret2
    exact ⟨rfl, rfl⟩
  · have h1 : (l.length : Int) ≤ i := by omega
    have h2 : 0 ≤ i := by omega
    clear hi h0
    go_enter Try.func43, Try.ntmps43
    go_wp2
    go_ret2
    exact ⟨rfl, rfl⟩

set_option maxHeartbeats 400000 in
theorem stkTopI_hit {w : World} {B sb room : Nat} {lv : Value} {l : List Int} {x : Int} (h : StkI w B sb room lv (l ++ [x])) :
    Calls Try.prog 35 #[.pointer (some ⟨sb, 0, none⟩)] w fun e w' => e = .returned (.tuple #[(Value.int .i64) x, .bool true]) ∧ w = w' := by
  have hc := stkAtI_hit h x l.length (by simp)
  have hr := h.room2
  have hl := h.len
  obtain ⟨a, cap, rfl⟩ := h.row.shape
  obtain ⟨c0, c1, _⟩ := rec2_cells h.blk
  have HC := Lib.hid hc
  simp at c1 hl
  clear h hc
  go_enter Try.func35, Try.ntmps35
  go_wp2_with fail
  refine HC.out.mono ?_
  rintro e w' ⟨rfl, rfl⟩
  go_wp2
  go_ret2
  exact ⟨rfl, rfl⟩

set_option maxHeartbeats 400000 in
theorem stkTopI_miss {w : World} {B sb room : Nat} {lv : Value} (h : StkI w B sb room lv []) :
    Calls Try.prog 35 #[.pointer (some ⟨sb, 0, none⟩)] w fun e w' => e = .returned (.tuple #[Value.int .i64 0, .bool false]) ∧ w = w' := by
  have hc := stkAtI_miss h (-1) (.inl (by omega))
  obtain ⟨a, cap, rfl⟩ := h.row.shape
  obtain ⟨c0, c1, _⟩ := rec2_cells h.blk
  have HC := Lib.hid hc
  simp at c1
  clear h hc
  go_enter Try.func35, Try.ntmps35
  go_wp2_with fail
  refine HC.out.mono ?_
  rintro e w' ⟨rfl, rfl⟩
  go_wp2
  go_ret2
  exact ⟨rfl, rfl⟩

set_option maxHeartbeats 400000 in
theorem stkPushI_no {w : World} {B sb room : Nat} {lv : Value} {l : List Int} (h : StkI w B sb room lv l) (va : Option Addr) (m cv : Nat) (hm : m ≤ 9223372036854775807) (hfull : room < l.length + m) :
    Calls Try.prog 31 #[.pointer (some ⟨sb, 0, none⟩), .slice va m cv] w fun e w' => e = .returned (.bool false) ∧ StkI w' B sb room lv l ∧ Turned (fun _ => False) w w' := by
  have hk := Lib.hid h
  obtain ⟨a, cap, rfl⟩ := h.row.shape
  have hr := h.room2
  have hl := h.len
  obtain ⟨c0, c1, _⟩ := rec2_cells h.blk
  have ht : (room : Int) - (l.length : Int) < (m : Int) := by omega
  clear h
  go_enter Try.func31, Try.ntmps31
  go_wp2
  go_quiet (fail)
  go_wp2
  go_ret
  exact ⟨rfl, hk.out.turned0 ((Turned.refl _ _).drewN _), (Turned.refl _ _).drewN _⟩

theorem push_closeI {w w2 : World} {B sb room m : Nat} {lv v2 : Value} {l ys : List Int} (h : StkI w B sb room lv l) (hB : B ≤ w.heap.size) (hm : ys.length = m) (hroom : l.length + m ≤ room)
    (T2 : Turned (fun k => lv.ownBlock = some k) w w2) (hown2 : Row w2 3 1 v2 (l.length + m) (l.map (Value.int .i64) ++ ys.map (Value.int .i64))) (hloc : v2.ownBlock = lv.ownBlock ∨ v2.ownBlock = some w.heap.size) :
    StkI (w2.setCell ⟨sb, 1, none⟩ v2) B sb room v2 (l ++ ys) ∧ Turned (Mine2 sb lv) w (w2.setCell ⟨sb, 1, none⟩ v2) ∧ (v2.ownBlock = lv.ownBlock ∨ ∃ g, v2.ownBlock = some g ∧ w.heap.size ≤ g) := by
  have lsb := (Array.getElem?_eq_some_iff.1 h.blk).1
  have blk2 := (T2.block sb lsb (fun e => h.apart e)).trans h.blk
  have hne : v2.ownBlock ≠ some sb := by
    rcases hloc with e | e
    · rw [e]; exact h.apart
    · rw [e]; intro e'; injection e' with e'; omega
  refine ⟨⟨h.base, ?_, rec2_set blk2 _, ?_, hne, h.room1, h.room2, by simp; omega⟩, ?_, ?_⟩
  · intro k hk
    rcases hloc with e | e
    · exact h.baseR k (by rw [← e]; exact hk)
    · rw [hk] at e; injection e with e; omega
  · have := hown2.setCell (p := ⟨sb, 1, none⟩) hne v2
    rw [List.length_append, hm, List.map_append]
    exact this
  · exact Turned.setCell (T2.mono (fun i _ e => .inr e)) (.inr (.inl rfl)) _
  · rcases hloc with e | e
    · exact .inl e
    · exact .inr ⟨_, e, Nat.le_refl _⟩

set_option maxHeartbeats 400000 in
theorem stkPushI {w : World} {B sb room : Nat} {lv : Value} {l ys : List Int} (h : StkI w B sb room lv l) (va : Option Addr) (m cv : Nat) (hm : ys.length = m) (hroom : l.length + m ≤ room) (hB : B ≤ w.heap.size)
    (hnone : va = none → m = 0 ∧ cv = 0) (hsrc : ∀ ad, va = some ad → ∀ j u, (ys.map (Value.int .i64))[j]? = some u → w.cell? (ad.add j) = some u) :
    Calls Try.prog 31 #[.pointer (some ⟨sb, 0, none⟩), .slice va m cv] w fun e w' => e = .returned (.bool true) ∧ ∃ lv', StkI w' B sb room lv' (l ++ ys) ∧ Turned (Mine2 sb lv) w w' ∧ (lv'.ownBlock = lv.ownBlock ∨ ∃ g, lv'.ownBlock = some g ∧ w.heap.size ≤ g) := by
  have hk := Lib.hid h
  obtain ⟨a, cap, rfl⟩ := h.row.shape
  have hr := h.room2
  have hl := h.len
  obtain ⟨c0, c1, f1⟩ := rec2_cells h.blk
  have ht : ¬ ((room : Int) - (l.length : Int) < (m : Int)) := by omega
  have ht2 : (m : Int) ≤ (room : Int) - (l.length : Int) := by omega
  obtain ⟨i0, hi0, hz0, hz1, hz2⟩ := info_parts stkInfoI
  have hrow := h.row
  have HN := Lib.hid hnone
  have HS := Lib.hid hsrc
  have HM := Lib.hid hm
  have ap := Lib.hid h.apart
  have lsb := (Array.getElem?_eq_some_iff.1 h.blk).1
  clear h hnone hsrc ht hm
  go_enter Try.func31, Try.ntmps31
  go_wp2
  go_quiet (fail)
  go_wp2_with (first
    | (at_builtin; refine append_any _ rfl _ _ 55 rfl 3 i0 (.int .i64 0) 1 8 Try.underlying55 hi0 hz0 hz1 hz2 rfl (by decide) _ _ _ rfl (hrow.turned0 ((Turned.refl _ _).drewN _)) va m cv (ys.map (Value.int .i64)) rfl HN.out (by simp [HM.out]) HS.out (onesI _) (by unfold maxLen; omega) (by omega) ?_; intro v2 w2 hown2 hg2 hloc2; have T2 := ((Turned.refl (fun k => (Value.slice a l.length cap).ownBlock = some k) w).drewN nq).trans hg2; have e1 := T2.cell c1 ap.out; have f2 := T2.frozen lsb f1 ap.out; obtain ⟨g2, cap2, rfl⟩ := hown2.shape; clear c0 c1 f1))
  go_ret
  obtain ⟨r1, r2, r3⟩ := push_closeI hk.out hB HM.out hroom T2 hown2 hloc2
  exact ⟨rfl, _, r1, r2, r3⟩

/-- A stack of ByteArray. -/
abbrev StkS (w : World) (B sb room : Nat) (lv : Value) (l : List ByteArray) : Prop := Stk 73 9 Value.string w B sb room lv l

theorem onesS (l : List ByteArray) : ∀ x ∈ l.map Value.string, x.oneCell' = true := by intro x hx; obtain ⟨_, _, rfl⟩ := List.mem_map.1 hx; rfl
theorem atsS {l : List ByteArray} {i : Nat} {x : ByteArray} (h : l[i]? = some x) : (l.map Value.string)[i]? = some (Value.string x) := by rw [List.getElem?_map, h]; rfl

set_option maxHeartbeats 400000 in
theorem stkNewS_walk (n : Int) (w : World) :
    Calls Try.prog 24 #[.int .i64 n] w fun e w' => e = .returned (.pointer (some ⟨w.heap.size, 0, none⟩)) ∧ w' = w.alloc (.cells #[.int .i64 (min (max n 1) 65536), .slice none 0 0] 73) := by
  go_enter Try.func24, Try.ntmps24
  go_wp2
  all_goals (go_ret; refine ⟨rfl, ?_⟩)
  all_goals (congr 5; omega)

theorem stkNewS (n : Int) (w : World) :
    Calls Try.prog 24 #[.int .i64 n] w fun e w' => e = .returned (.pointer (some ⟨w.heap.size, 0, none⟩)) ∧ StkS w' w.heap.size w.heap.size (min (max n 1) 65536).toNat (.slice none 0 0) [] ∧ Turned (fun _ => False) w w' := by
  refine (stkNewS_walk n w).mono ?_
  rintro e w' ⟨rfl, rfl⟩
  refine ⟨rfl, ⟨Nat.le_refl _, fun k e => by simp [Value.ownBlock] at e, ?_, Row.nil _ _ _, by simp [Value.ownBlock], by omega, by omega, by simp⟩, (Turned.refl _ _).alloc _⟩
  rw [show (((min (max n 1) 65536).toNat : Nat) : Int) = min (max n 1) 65536 from by omega]
  exact heap_alloc_new w _

set_option maxHeartbeats 400000 in
theorem stkMarkS {w : World} {B sb room : Nat} {lv : Value} {l : List ByteArray} (h : StkS w B sb room lv l) :
    Calls Try.prog 32 #[.pointer (some ⟨sb, 0, none⟩)] w fun e w' => e = .returned (.int .i64 l.length) ∧ w = w' := by
  obtain ⟨a, cap, rfl⟩ := h.row.shape
  obtain ⟨c0, c1, _⟩ := rec2_cells h.blk
  clear h
  go_enter Try.func32, Try.ntmps32
  go_wp2
  go_ret
  exact ⟨rfl, rfl⟩

set_option maxHeartbeats 400000 in
theorem stkAtS_hit {w : World} {B sb room : Nat} {lv : Value} {l : List ByteArray} (h : StkS w B sb room lv l) (x : ByteArray) (i : Nat) (hi : l[i]? = some x) :
    Calls Try.prog 30 #[.pointer (some ⟨sb, 0, none⟩), .int .i64 i] w fun e w' => e = .returned (.tuple #[Value.string x, .bool true]) ∧ w = w' := by
  have hlt := (List.getElem?_eq_some_iff.1 hi).1
  have hr := h.room2
  have hl := h.len
  obtain ⟨g, cap, rfl⟩ := h.row.shape_pos (by omega)
  obtain ⟨c0, c1, _⟩ := rec2_cells h.blk
  have hc := h.row.cells rfl i _ (atsS hi)
  clear hi h
  go_enter Try.func30, Try.ntmps30
  go_wp2
  go_ret2
  exact ⟨rfl, rfl⟩

set_option maxHeartbeats 400000 in
theorem stkAtS_miss {w : World} {B sb room : Nat} {lv : Value} {l : List ByteArray} (h : StkS w B sb room lv l) (i : Int) (hi : i < 0 ∨ (l.length : Int) ≤ i) :
    Calls Try.prog 30 #[.pointer (some ⟨sb, 0, none⟩), .int .i64 i] w fun e w' => e = .returned (.tuple #[Value.string ByteArray.empty, .bool false]) ∧ w = w' := by
  obtain ⟨a, cap, rfl⟩ := h.row.shape
  have hr := h.room2
  have hl := h.len
  obtain ⟨c0, c1, _⟩ := rec2_cells h.blk
  clear h
  by_cases h0 : i < 0
  · go_enter Try.func30, Try.ntmps30
    go_wp2
    go_ret2
    exact ⟨rfl, rfl⟩
  · have h1 : (l.length : Int) ≤ i := by omega
    have h2 : 0 ≤ i := by omega
    clear hi h0
    go_enter Try.func30, Try.ntmps30
    go_wp2
    go_ret2
    exact ⟨rfl, rfl⟩

set_option maxHeartbeats 400000 in
theorem stkTopS_hit {w : World} {B sb room : Nat} {lv : Value} {l : List ByteArray} {x : ByteArray} (h : StkS w B sb room lv (l ++ [x])) :
    Calls Try.prog 28 #[.pointer (some ⟨sb, 0, none⟩)] w fun e w' => e = .returned (.tuple #[Value.string x, .bool true]) ∧ w = w' := by
  have hc := stkAtS_hit h x l.length (by simp)
  have hr := h.room2
  have hl := h.len
  obtain ⟨a, cap, rfl⟩ := h.row.shape
  obtain ⟨c0, c1, _⟩ := rec2_cells h.blk
  have HC := Lib.hid hc
  simp at c1 hl
  clear h hc
  go_enter Try.func28, Try.ntmps28
  go_wp2_with fail
  refine HC.out.mono ?_
  rintro e w' ⟨rfl, rfl⟩
  go_wp2
  go_ret2
  exact ⟨rfl, rfl⟩

set_option maxHeartbeats 400000 in
theorem stkTopS_miss {w : World} {B sb room : Nat} {lv : Value} (h : StkS w B sb room lv []) :
    Calls Try.prog 28 #[.pointer (some ⟨sb, 0, none⟩)] w fun e w' => e = .returned (.tuple #[Value.string ByteArray.empty, .bool false]) ∧ w = w' := by
  have hc := stkAtS_miss h (-1) (.inl (by omega))
  obtain ⟨a, cap, rfl⟩ := h.row.shape
  obtain ⟨c0, c1, _⟩ := rec2_cells h.blk
  have HC := Lib.hid hc
  simp at c1
  clear h hc
  go_enter Try.func28, Try.ntmps28
  go_wp2_with fail
  refine HC.out.mono ?_
  rintro e w' ⟨rfl, rfl⟩
  go_wp2
  go_ret2
  exact ⟨rfl, rfl⟩

set_option maxHeartbeats 400000 in
theorem stkPushS_no {w : World} {B sb room : Nat} {lv : Value} {l : List ByteArray} (h : StkS w B sb room lv l) (va : Option Addr) (m cv : Nat) (hm : m ≤ 9223372036854775807) (hfull : room < l.length + m) :
    Calls Try.prog 26 #[.pointer (some ⟨sb, 0, none⟩), .slice va m cv] w fun e w' => e = .returned (.bool false) ∧ StkS w' B sb room lv l ∧ Turned (fun _ => False) w w' := by
  have hk := Lib.hid h
  obtain ⟨a, cap, rfl⟩ := h.row.shape
  have hr := h.room2
  have hl := h.len
  obtain ⟨c0, c1, _⟩ := rec2_cells h.blk
  have ht : (room : Int) - (l.length : Int) < (m : Int) := by omega
  clear h
  go_enter Try.func26, Try.ntmps26
  go_wp2
  go_quiet (fail)
  go_wp2
  go_ret
  exact ⟨rfl, hk.out.turned0 ((Turned.refl _ _).drewN _), (Turned.refl _ _).drewN _⟩

theorem push_closeS {w w2 : World} {B sb room m : Nat} {lv v2 : Value} {l ys : List ByteArray} (h : StkS w B sb room lv l) (hB : B ≤ w.heap.size) (hm : ys.length = m) (hroom : l.length + m ≤ room)
    (T2 : Turned (fun k => lv.ownBlock = some k) w w2) (hown2 : Row w2 9 1 v2 (l.length + m) (l.map Value.string ++ ys.map Value.string)) (hloc : v2.ownBlock = lv.ownBlock ∨ v2.ownBlock = some w.heap.size) :
    StkS (w2.setCell ⟨sb, 1, none⟩ v2) B sb room v2 (l ++ ys) ∧ Turned (Mine2 sb lv) w (w2.setCell ⟨sb, 1, none⟩ v2) ∧ (v2.ownBlock = lv.ownBlock ∨ ∃ g, v2.ownBlock = some g ∧ w.heap.size ≤ g) := by
  have lsb := (Array.getElem?_eq_some_iff.1 h.blk).1
  have blk2 := (T2.block sb lsb (fun e => h.apart e)).trans h.blk
  have hne : v2.ownBlock ≠ some sb := by
    rcases hloc with e | e
    · rw [e]; exact h.apart
    · rw [e]; intro e'; injection e' with e'; omega
  refine ⟨⟨h.base, ?_, rec2_set blk2 _, ?_, hne, h.room1, h.room2, by simp; omega⟩, ?_, ?_⟩
  · intro k hk
    rcases hloc with e | e
    · exact h.baseR k (by rw [← e]; exact hk)
    · rw [hk] at e; injection e with e; omega
  · have := hown2.setCell (p := ⟨sb, 1, none⟩) hne v2
    rw [List.length_append, hm, List.map_append]
    exact this
  · exact Turned.setCell (T2.mono (fun i _ e => .inr e)) (.inr (.inl rfl)) _
  · rcases hloc with e | e
    · exact .inl e
    · exact .inr ⟨_, e, Nat.le_refl _⟩

set_option maxHeartbeats 400000 in
theorem stkPushS {w : World} {B sb room : Nat} {lv : Value} {l ys : List ByteArray} (h : StkS w B sb room lv l) (va : Option Addr) (m cv : Nat) (hm : ys.length = m) (hroom : l.length + m ≤ room) (hB : B ≤ w.heap.size)
    (hnone : va = none → m = 0 ∧ cv = 0) (hsrc : ∀ ad, va = some ad → ∀ j u, (ys.map Value.string)[j]? = some u → w.cell? (ad.add j) = some u) :
    Calls Try.prog 26 #[.pointer (some ⟨sb, 0, none⟩), .slice va m cv] w fun e w' => e = .returned (.bool true) ∧ ∃ lv', StkS w' B sb room lv' (l ++ ys) ∧ Turned (Mine2 sb lv) w w' ∧ (lv'.ownBlock = lv.ownBlock ∨ ∃ g, lv'.ownBlock = some g ∧ w.heap.size ≤ g) := by
  have hk := Lib.hid h
  obtain ⟨a, cap, rfl⟩ := h.row.shape
  have hr := h.room2
  have hl := h.len
  obtain ⟨c0, c1, f1⟩ := rec2_cells h.blk
  have ht : ¬ ((room : Int) - (l.length : Int) < (m : Int)) := by omega
  have ht2 : (m : Int) ≤ (room : Int) - (l.length : Int) := by omega
  obtain ⟨i0, hi0, hz0, hz1, hz2⟩ := info_parts stkInfoS
  have hrow := h.row
  have HN := Lib.hid hnone
  have HS := Lib.hid hsrc
  have HM := Lib.hid hm
  have ap := Lib.hid h.apart
  have lsb := (Array.getElem?_eq_some_iff.1 h.blk).1
  clear h hnone hsrc ht hm
  go_enter Try.func26, Try.ntmps26
  go_wp2
  go_quiet (fail)
  go_wp2_with (first
    | (at_builtin; refine append_any _ rfl _ _ 31 rfl 9 i0 (.string ByteArray.empty) 1 16 Try.underlying31 hi0 hz0 hz1 hz2 rfl (by decide) _ _ _ rfl (hrow.turned0 ((Turned.refl _ _).drewN _)) va m cv (ys.map Value.string) rfl HN.out (by simp [HM.out]) HS.out (onesS _) (by unfold maxLen; omega) (by omega) ?_; intro v2 w2 hown2 hg2 hloc2; have T2 := ((Turned.refl (fun k => (Value.slice a l.length cap).ownBlock = some k) w).drewN nq).trans hg2; have e1 := T2.cell c1 ap.out; have f2 := T2.frozen lsb f1 ap.out; obtain ⟨g2, cap2, rfl⟩ := hown2.shape; clear c0 c1 f1))
  go_ret
  obtain ⟨r1, r2, r3⟩ := push_closeS hk.out hB HM.out hroom T2 hown2 hloc2
  exact ⟨rfl, _, r1, r2, r3⟩

end Go.Proofs.Ytifideminojgjaa
