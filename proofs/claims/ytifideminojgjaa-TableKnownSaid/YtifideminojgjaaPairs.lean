/- Table[[2]int]: what New, Put and Len do. -/
import Derived.Test.YtifideminojgjaaTabsK
import Derived.WideKeyPair
import Derived.Laws.StructEq
import Derived.Deep.RegionLaw
namespace Go.Proofs.Ytifideminojgjaa
set_option linter.unusedVariables false
set_option linter.unusedSimpArgs false
open Go.RowKit Go.Maps

theorem laidOut : laidOutB Try.prog = true := by kernel_rfl
theorem cells26 : Try.prog.cellsOf 26 = 2 := by kernel_rfl
theorem arr26 : WideMaps.ArrKey Try.prog 26 3 2 := ⟨Try.underlying26, by kernel_rfl, by kernel_rfl, cells26⟩
theorem law26 : Keyed Try.prog 26 := Keyed.of_law arr26.law
theorem infoP : (Try.prog.info? 26).map (fun i => (i.zero, i.size, i.bytes)) = some (some (.agg #[.int .i64 0, .int .i64 0]), 2, 16) := by kernel_rfl

/-- A pair of ints. -/
abbrev I2 := { p : Int × Int // (Lit.int .i64 p.1).wf = true ∧ (Lit.int .i64 p.2).wf = true }
def I2.v (p : I2) : Value := .agg #[.int .i64 p.1.1, .int .i64 p.1.2]
def I2.cells (p : I2) : List Value := [.int .i64 p.1.1, .int .i64 p.1.2]
def kP (p : I2) : Lit := .string (keyBytes [.int .i64 p.1.1, .int .i64 p.1.2])
theorem kP_key (p : I2) : WideAt.IsKeyLit (kP p) := trivial
theorem keyP (p : I2) : keyOf Try.prog 26 (.agg #[.int .i64 p.1.1, .int .i64 p.1.2]) = some (kP p) :=
  WideMaps.keyOf_pair arr26 Try.underlying3 ⟨_, rfl⟩ p.2.1 p.2.2
theorem kP_inj (a b : I2) (h : kP a = kP b) : a = b := by
  have := law26.inj (keyP a) (by rw [h]; exact keyP b)
  injection this with this
  have h1 := congrArg (·.toList) this
  simp at h1
  exact Subtype.ext (Prod.ext h1.1 h1.2)

abbrev TabP (w : World) (B tb mb room : Nat) (lv : Value) (l : List I2) : Prop := Tab Try.prog 26 67 2 I2.cells kP w B tb mb room lv l

set_option maxHeartbeats 400000 in
theorem newP_walk (n : Int) (w : World) :
    Calls Try.prog 13 #[.int .i64 n] w fun e w' => e = .returned (.pointer (some ⟨w.heap.size + 1, 0, none⟩)) ∧ w' = (w.alloc (.map #[] 0)).alloc (.cells #[.int .i64 (roomOf n), .slice none 0 0, .map (some w.heap.size)] 67) := by
  have hmm := @run_makeMap Try.prog
  go_enter Try.func13, Try.ntmps13
  go_wp2
  all_goals (go_ret; refine ⟨rfl, ?_⟩)
  all_goals (congr 5; unfold roomOf; omega)

theorem newP (n : Int) (w : World) (B : Nat) (hB : B ≤ w.heap.size) :
    Calls Try.prog 13 #[.int .i64 n] w fun e w' => e = .returned (.pointer (some ⟨w.heap.size + 1, 0, none⟩)) ∧ TabP w' B (w.heap.size + 1) w.heap.size (roomOf n).toNat (.slice none 0 0) [] ∧ Turned (fun _ => False) w w' := by
  refine (newP_walk n w).mono ?_
  rintro e w' ⟨rfl, rfl⟩
  have hr : 1 ≤ roomOf n ∧ roomOf n ≤ 65536 := by unfold roomOf; omega
  refine ⟨rfl, ⟨by omega, hB, fun k e => by simp [Value.ownBlock] at e, ?_, Row.nil _ _ _, ?_, by simp [Value.ownBlock], by omega, by omega, by simp⟩, ((Turned.refl _ _).alloc _).alloc _⟩
  · rw [show ((roomOf n).toNat : Int) = roomOf n from by omega]
    have := heap_alloc_new (w.alloc (.map #[] 0)) (.cells #[.int .i64 (roomOf n), .slice none 0 0, .map (some w.heap.size)] 67)
    simpa using this
  · exact ⟨_, (World.ownsMap_made w _ _ _).alloc _, Rep.nil _⟩

set_option maxHeartbeats 400000 in
theorem lenP {w : World} {B tb mb room : Nat} {lv : Value} {l : List I2} (h : TabP w B tb mb room lv l) :
    Calls Try.prog 15 #[.pointer (some ⟨tb, 0, none⟩)] w fun e w' => e = .returned (.int .i64 l.length) ∧ w = w' := by
  obtain ⟨a, cap, rfl⟩ := h.row.shape
  have c1 := h.cell1
  go_enter Try.func15, Try.ntmps15
  go_wp2
  go_ret
  exact ⟨rfl, rfl⟩

set_option maxHeartbeats 400000 in
theorem putP_hit {w : World} {B tb mb room : Nat} {lv : Value} {l : List I2} (h : TabP w B tb mb room lv l) (s : I2) (i : Nat) (hi : l[i]? = some s) :
    Calls Try.prog 14 #[.pointer (some ⟨tb, 0, none⟩), .agg #[.int .i64 s.1.1, .int .i64 s.1.2]] w fun e w' => e = .returned (.tuple #[.int .i64 i, .bool true]) ∧ Turned (fun _ => False) w w' := by
  obtain ⟨D, hown, hrep⟩ := h.maps
  have c2 := h.cell2
  have hlook : ∀ q, (Instr.lookup 65 (.map (some mb)) (.agg #[.int .i64 s.1.1, .int .i64 s.1.2]) true).run Try.prog ((w.alloc (.cells #[.int .i64 s.1.1, .int .i64 s.1.2] 26)).drewN q) = .ok (.tuple #[.int .i64 i, .bool true]) ((w.alloc (.cells #[.int .i64 s.1.1, .int .i64 s.1.2] 26)).drewN q) :=
    fun q => look_run (w := (w.alloc (.cells #[.int .i64 s.1.1, .int .i64 s.1.2] 26)).drewN q) (hown.alloc _) law26 Try.underlying65 Try.underlying3 (zero3 _) (keyP s) (hrep.yes i s hi).1 (hrep.yes i s hi).2
  have lt := (Array.getElem?_eq_some_iff.1 h.blk).1
  obtain ⟨⟨x, y⟩, wx, wy⟩ := s
  have d2 : (w.alloc (.cells #[.int .i64 x, .int .i64 y] 26)).cell? ⟨tb, 2, none⟩ = some (.map (some mb)) := cell_old c2
  clear hi h hrep hown c2
  go_enter Try.func14, Try.ntmps14
  go_wp2
  go_quiet (fail)
  go_wp2
  go_ret2
  exact ⟨rfl, ((Turned.refl _ _).alloc _).drewN _⟩

set_option maxHeartbeats 400000 in
theorem putP_full {w : World} {B tb mb room : Nat} {lv : Value} {l : List I2} (h : TabP w B tb mb room lv l) (s : I2) (hi : s ∉ l) (hfull : l.length = room) :
    Calls Try.prog 14 #[.pointer (some ⟨tb, 0, none⟩), .agg #[.int .i64 s.1.1, .int .i64 s.1.2]] w fun e w' => e = .returned (.tuple #[.int .i64 0, .bool false]) ∧ Turned (fun _ => False) w w' := by
  obtain ⟨D, hown, hrep⟩ := h.maps
  obtain ⟨a, cap, rfl⟩ := h.row.shape
  have c2 := h.cell2
  have c1 := h.cell1
  have c0 := h.cell0
  have hlook : ∀ q, (Instr.lookup 65 (.map (some mb)) (.agg #[.int .i64 s.1.1, .int .i64 s.1.2]) true).run Try.prog ((w.alloc (.cells #[.int .i64 s.1.1, .int .i64 s.1.2] 26)).drewN q) = .ok (.tuple #[.int .i64 (0 : Nat), .bool false]) ((w.alloc (.cells #[.int .i64 s.1.1, .int .i64 s.1.2] 26)).drewN q) :=
    fun q => look_run (w := (w.alloc (.cells #[.int .i64 s.1.1, .int .i64 s.1.2] 26)).drewN q) (hown.alloc _) law26 Try.underlying65 Try.underlying3 (zero3 _) (keyP s) (hrep.no s hi) (Maps.atKey_of_not_has (hrep.no s hi) _)
  have lt := (Array.getElem?_eq_some_iff.1 h.blk).1
  obtain ⟨⟨x, y⟩, wx, wy⟩ := s
  have d2 : (w.alloc (.cells #[.int .i64 x, .int .i64 y] 26)).cell? ⟨tb, 2, none⟩ = some (.map (some mb)) := cell_old c2
  have d1 : (w.alloc (.cells #[.int .i64 x, .int .i64 y] 26)).cell? ⟨tb, 1, none⟩ = some (.slice a l.length cap) := cell_old c1
  have d0 : (w.alloc (.cells #[.int .i64 x, .int .i64 y] 26)).cell? ⟨tb, 0, none⟩ = some (.int .i64 room) := cell_old c0
  have ht : ((l.length : Int) == (room : Int)) = true := by simp; omega
  clear hi h hrep hown c2 c1 c0 hfull
  go_enter Try.func14, Try.ntmps14
  go_wp2
  go_quiet (fail)
  go_wp2
  go_quiet (fail)
  go_wp2
  go_ret2
  exact ⟨rfl, (((Turned.refl _ _).alloc _).drewN _).drewN _⟩

set_option maxHeartbeats 2000000 in
theorem putP_new {w : World} {B tb mb room : Nat} {lv : Value} {l : List I2} (h : TabP w B tb mb room lv l) (s : I2) (hi : s ∉ l) (hroom : l.length < room) (hB : B ≤ w.heap.size) :
    Calls Try.prog 14 #[.pointer (some ⟨tb, 0, none⟩), .agg #[.int .i64 s.1.1, .int .i64 s.1.2]] w fun e w' => e = .returned (.tuple #[.int .i64 l.length, .bool true]) ∧ ∃ lv', TabP w' B tb mb room lv' (l ++ [s]) ∧ Turned (Mine tb mb lv) w w' ∧ (lv'.ownBlock = lv.ownBlock ∨ ∃ g, lv'.ownBlock = some g ∧ w.heap.size ≤ g) := by
  have hk := Lib.hid h
  obtain ⟨D, hown, hrep⟩ := h.maps
  obtain ⟨a, cap, rfl⟩ := h.row.shape
  have hrm := h.room2
  have c2 := h.cell2
  have c1 := h.cell1
  have c0 := h.cell0
  have hlook : ∀ q, (Instr.lookup 65 (.map (some mb)) (.agg #[.int .i64 s.1.1, .int .i64 s.1.2]) true).run Try.prog ((w.alloc (.cells #[.int .i64 s.1.1, .int .i64 s.1.2] 26)).drewN q) = .ok (.tuple #[.int .i64 (0 : Nat), .bool false]) ((w.alloc (.cells #[.int .i64 s.1.1, .int .i64 s.1.2] 26)).drewN q) :=
    fun q => look_run (w := (w.alloc (.cells #[.int .i64 s.1.1, .int .i64 s.1.2] 26)).drewN q) (hown.alloc _) law26 Try.underlying65 Try.underlying3 (zero3 _) (keyP s) (hrep.no s hi) (Maps.atKey_of_not_has (hrep.no s hi) _)
  have lt := (Array.getElem?_eq_some_iff.1 h.blk).1
  have hkey := keyP s
  have hRep := Lib.hid (hrep.snoc kP_key kP_inj hi)
  have hwf : (Lit.int .i64 (l.length : Int)).wf = true := WalkArith.wf_i64 (by omega)
  obtain ⟨i0, hi0, hz0, hz1, hz2⟩ := info_parts infoP
  obtain ⟨⟨x, y⟩, wx, wy⟩ := s
  have d2 : (w.alloc (.cells #[.int .i64 x, .int .i64 y] 26)).cell? ⟨tb, 2, none⟩ = some (.map (some mb)) := cell_old c2
  have d1 : (w.alloc (.cells #[.int .i64 x, .int .i64 y] 26)).cell? ⟨tb, 1, none⟩ = some (.slice a l.length cap) := cell_old c1
  have d0 : (w.alloc (.cells #[.int .i64 x, .int .i64 y] 26)).cell? ⟨tb, 0, none⟩ = some (.int .i64 room) := cell_old c0
  have ht : ((l.length : Int) == (room : Int)) = false := by simp; omega
  clear hi h hrep c2 c1 c0
  go_enter Try.func14, Try.ntmps14
  go_wp2
  go_quiet (fail)
  go_wp2
  obtain ⟨nq_1, hq1⟩ : ∃ q, q = nq := ⟨_, rfl⟩
  rw [← hq1]
  clear hq1
  go_quiet (fail)
  go_wp2
  refine region_tail 10 (by kernel_rfl) (by kernel_rfl) ?_
  simp only [List.take_succ_cons, List.take_zero, List.drop_succ_cons, List.drop_zero]
  repeat still_step
  refine wpStill_nil ?_
  go_wp2_with (first
    | (at_mapUpdate; refine wpList_mapUpdate_in _ rfl _ _ _ 65 rfl 26 3 law26 Try.underlying65 _ mb _ D rfl (hown.alloc _) (by unfold maxLen; omega) _ _ _ rfl rfl hkey _ [] (plainElem_int Try.underlying3 hwf) ?_; intro w1 hown1 hturn1))
  have T1 := (((((Turned.refl (· = mb) w).alloc (.cells #[.int .i64 x, .int .i64 y] 26)).drewN nq_1).drewN nq).drew).grown hturn1.grown (fun k e => by cases e; exact Or.inr rfl)
  obtain ⟨blk1, row1, sz1, ltb, lmb⟩ := hk.out.behindMap T1
  have bx : w1.heap[w.heap.size]? = some (.cells #[.int .i64 x, .int .i64 y] 26 (0, 0)) := (hturn1.grown.block w.heap.size (by simp) (fun e => by injection e with e; omega)).trans (heap_alloc_new w _)
  have sz2 : w.heap.size < w1.heap.size := (Array.getElem?_eq_some_iff.1 bx).1
  obtain ⟨e0, e1, e2, f1⟩ := rec_cells blk1
  have b0 : w1.cell? ⟨w.heap.size, 0, none⟩ = some (.int .i64 x) := by rw [cell_of_row w1 _ 0 _ 26 (0, 0) bx]; rfl
  have b1 : w1.cell? ⟨w.heap.size, 1, none⟩ = some (.int .i64 y) := by rw [cell_of_row w1 _ 1 _ 26 (0, 0) bx]; rfl
  have HB := Lib.hid blk1
  have ho1 : ¬ (Value.slice a l.length cap).ownBlock = some tb := hk.out.apart
  have ho2 : ¬ (Value.slice a l.length cap).ownBlock = some w.heap.size := fun e => by have := hk.out.row.lt _ e; omega
  have ltb1 : tb < w1.heap.size := by omega
  have TA := ((Turned.refl (fun _ => False) w1).alloc (.cells #[.int .i64 x, .int .i64 y] 26)).drew
  clear blk1 d0 d1 d2 hlook bx
  go_frame
  go_region_law ((refine step_append_some _ rfl (.tmp 43) (.tmp 45) 22 rfl 26 i0 (.agg #[.int .i64 0, .int .i64 0]) 2 16 Try.underlying22 hi0 hz0 hz1 hz2 rfl (by decide) (.slice a l.length cap) _ _ (by simp [Act.eval, Act.put]) (row1.turned0 TA) ⟨w1.heap.size, 0, none⟩ 1 1 [.int .i64 x, .int .i64 y] (by simp [Act.eval, Act.put]) rfl (World.news_of_block (cs := #[.int .i64 x, .int .i64 y]) (t := 26) (fr := (0, 0)) (heap_alloc_new w1 _)) (by simp [Value.oneCell']) (by omega) (by unfold maxLen; omega) (by omega) ?_; intro g2 cap2 w2 hown2 hg2 hloc2; have T2 := (((Turned.refl (fun k => (Value.slice a l.length cap).ownBlock = some k) w1).alloc (.cells #[.int .i64 x, .int .i64 y] 26)).drew).trans hg2; have e1' := T2.cell e1 ho1; have f1' := T2.frozen ltb1 f1 ho1))
  all_goals
    obtain ⟨blk2, map2, sz3⟩ := append_kept hk.out HB.out hown1 T2 ltb sz1
    have HB2 := Lib.hid blk2
    clear blk2
    go_wp2
    go_ret2
    obtain ⟨_, rfl, r1, r2, r3⟩ := put_close hk.out hroom hRep.out hB T1 T2 HB2.out map2 hown2 (hloc2.imp id (fun e => by simpa using e))
    exact ⟨rfl, _, r1, r2, r3⟩
end Go.Proofs.Ytifideminojgjaa
