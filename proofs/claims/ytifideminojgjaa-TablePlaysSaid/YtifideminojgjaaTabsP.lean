/- Lemmas for the statements of tables: what a table in memory is, what its calls do to it. -/
import Derived.Test.YtifideminojgjaaTabsW
namespace Go.Proofs.Ytifideminojgjaa
set_option linter.unusedVariables false
set_option linter.unusedSimpArgs false
open Go.RowKit Go.Maps

set_option maxHeartbeats 400000 in
theorem putS_hit {w : World} {B tb mb room : Nat} {lv : Value} {l : List ByteArray} (h : TabS w B tb mb room lv l) (s : ByteArray) (hs : s.size ≤ maxLen) (i : Nat) (hi : l[i]? = some s) :
    Calls Try.prog 17 #[.pointer (some ⟨tb, 0, none⟩), .string s] w fun e w' => e = .returned (.tuple #[.int .i64 i, .bool true]) ∧ w = w' := by
  obtain ⟨D, hown, hrep⟩ := h.maps
  have c2 := h.cell2
  have hkey := keyS hs
  have hy := (hrep.yes i s hi).1
  have ha := Lib.hid (hrep.yes i s hi).2
  clear hi h hrep
  go_enter Try.func17, Try.ntmps17
  go_wp2_with (first
    | (at_lookup; refine wpList_lookup_own_ok_int _ rfl _ _ 68 rfl 9 3 .i64 law9 Try.underlying68 Try.underlying3 (zero3 _) mb _ D rfl hown _ _ rfl hkey ?_; intro c hat hwc; obtain rfl := lit_int_inj (ha.out.symm.trans hat)))
  go_ret2
  exact ⟨rfl, rfl⟩

set_option maxHeartbeats 400000 in
theorem putS_full {w : World} {B tb mb room : Nat} {lv : Value} {l : List ByteArray} (h : TabS w B tb mb room lv l) (s : ByteArray) (hs : s.size ≤ maxLen) (hi : s ∉ l) (hfull : l.length = room) :
    Calls Try.prog 17 #[.pointer (some ⟨tb, 0, none⟩), .string s] w fun e w' => e = .returned (.tuple #[.int .i64 0, .bool false]) ∧ TabS w' B tb mb room lv l ∧ Turned (fun _ => False) w w' := by
  have hk := Lib.hid h
  obtain ⟨D, hown, hrep⟩ := h.maps
  obtain ⟨a, cap, rfl⟩ := h.row.shape
  have c2 := h.cell2
  have c1 := h.cell1
  have c0 := h.cell0
  have hkey := keyS hs
  have hy := hrep.no s hi
  have ha := Lib.hid (Maps.atKey_of_not_has hy (.lit (.int .i64 0)))
  have ht : ((l.length : Int) == (room : Int)) = true := by simp; omega
  clear hi h hrep hfull
  go_enter Try.func17, Try.ntmps17
  go_wp2_with (first
    | (at_lookup; refine wpList_lookup_own_ok_int _ rfl _ _ 68 rfl 9 3 .i64 law9 Try.underlying68 Try.underlying3 (zero3 _) mb _ D rfl hown _ _ rfl hkey ?_; intro c hat hwc; obtain rfl := lit_int_inj (i := 0) (ha.out.symm.trans hat)))
  go_quiet (fail)
  go_wp2
  go_ret2
  exact ⟨rfl, hk.out.turned0 ((Turned.refl _ _).drewN _), (Turned.refl _ _).drewN _⟩

set_option maxHeartbeats 1000000 in
theorem putS_new {w : World} {B tb mb room : Nat} {lv : Value} {l : List ByteArray} (h : TabS w B tb mb room lv l) (s : ByteArray) (hs : s.size ≤ maxLen) (hi : s ∉ l) (hroom : l.length < room) (hB : B ≤ w.heap.size) :
    Calls Try.prog 17 #[.pointer (some ⟨tb, 0, none⟩), .string s] w fun e w' => e = .returned (.tuple #[.int .i64 l.length, .bool true]) ∧ ∃ lv', TabS w' B tb mb room lv' (l ++ [s]) ∧ Turned (Mine tb mb lv) w w' ∧ (lv'.ownBlock = lv.ownBlock ∨ ∃ g, lv'.ownBlock = some g ∧ w.heap.size ≤ g) := by
  have hk := Lib.hid h
  obtain ⟨D, hown, hrep⟩ := h.maps
  obtain ⟨a, cap, rfl⟩ := h.row.shape
  have c2 := h.cell2
  have c1 := h.cell1
  have c0 := h.cell0
  have hrow := h.row
  have hkey := keyS hs
  have hy := hrep.no s hi
  have hrm := h.room2
  have ha := Lib.hid (Maps.atKey_of_not_has hy (.lit (.int .i64 0)))
  have ht : ((l.length : Int) == (room : Int)) = false := by simp; omega
  have hwf : (Lit.int .i64 (l.length : Int)).wf = true := WalkArith.wf_i64 (by omega)
  obtain ⟨i0, hi0, hz0, hz1, hz2⟩ := info_parts infoS
  have hRep := Lib.hid (hrep.snoc kS_key kS_inj hi)
  clear hi h hrep
  go_enter Try.func17, Try.ntmps17
  go_wp2_with (first
    | (at_lookup; refine wpList_lookup_own_ok_int _ rfl _ _ 68 rfl 9 3 .i64 law9 Try.underlying68 Try.underlying3 (zero3 _) mb _ D rfl hown _ _ rfl hkey ?_; intro c hat hwc; obtain rfl := lit_int_inj (i := 0) (ha.out.symm.trans hat)))
  go_quiet (fail)
  go_wp2
  refine region_tail 10 (by kernel_rfl) (by kernel_rfl) ?_
  simp only [List.take_succ_cons, List.take_zero, List.drop_succ_cons, List.drop_zero]
  repeat still_step
  refine wpStill_nil ?_
  go_wp2_with (first
    | (at_mapUpdate; refine wpList_mapUpdate_in _ rfl _ _ _ 68 rfl 9 3 law9 Try.underlying68 _ mb _ D rfl hown (by unfold maxLen; omega) _ _ _ rfl rfl hkey _ [] (plainElem_int Try.underlying3 hwf) ?_; intro w1 hown1 hturn1; have T1 := (((Turned.refl (· = mb) w).drewN nq).drew).grown hturn1.grown (fun k e => by cases e; exact Or.inr rfl); obtain ⟨blk1, row1, sz1, ltb, lmb⟩ := hk.out.behindMap T1; obtain ⟨d0, d1, d2, f1⟩ := rec_cells blk1; have HB := Lib.hid blk1; clear blk1 c0 c1 c2)
    | (at_builtin; refine append_some _ rfl _ _ 31 rfl 9 i0 (.string ByteArray.empty) 1 16 Try.underlying31 hi0 hz0 hz1 hz2 rfl (by decide) _ _ _ rfl (row1.alloc _) ⟨w1.heap.size, 0, none⟩ 1 1 [.string s] rfl rfl (cell_one_new _ _ _) (by simp [Value.oneCell']) (by omega) (by unfold maxLen; omega) (by omega) ?_; intro g2 cap2 w2 hown2 hg2 hloc2; have T2 := ((Turned.refl (fun k => (Value.slice a l.length cap).ownBlock = some k) w1).alloc (.cells #[.string s] 9)).trans hg2; obtain ⟨blk2, map2, sz2⟩ := append_kept hk.out HB.out hown1 T2 ltb sz1; obtain ⟨e0, e1, e2, f2⟩ := rec_cells blk2; have HB2 := Lib.hid blk2; clear blk2 d0 d1 d2 f1))
  go_ret2
  obtain ⟨_, rfl, r1, r2, r3⟩ := put_close hk.out hroom hRep.out hB T1 T2 HB2.out map2 hown2 (hloc2.imp id (fun e => by simpa using e))
  exact ⟨rfl, _, r1, r2, r3⟩
end Go.Proofs.Ytifideminojgjaa
