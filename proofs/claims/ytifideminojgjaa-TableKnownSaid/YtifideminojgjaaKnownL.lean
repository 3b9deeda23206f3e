/- TableKnown: the walk of the law. -/
import Derived.Test.YtifideminojgjaaPairs
namespace Go.Proofs.Ytifideminojgjaa
open Go.RowKit Go.Maps
set_option linter.unusedVariables false
set_option linter.unusedSimpArgs false

def sX : ByteArray := { data := #[120] }
def sY : ByteArray := { data := #[121] }
def sZ : ByteArray := { data := #[122] }
def p12 : I2 := ⟨(1, 2), by decide, by decide⟩
def p21 : I2 := ⟨(2, 1), by decide, by decide⟩

set_option maxRecDepth 100000 in
set_option maxHeartbeats 2000000 in
theorem tableKnown (w : World) : Calls Try.prog 6 #[] w fun e w' => e = .returned (.bool true) ∧ Turned (fun _ => False) w w' := by
  go_enter Try.func6, Try.ntmps6
  go_wp2_with fail
  refine (awake3 w).mono ?_
  rintro e w0 ⟨rfl, T0⟩
  go_wp2_with fail
  refine (newP 0 w0 w0.heap.size (Nat.le_refl _)).mono ?_
  rintro e w1 ⟨rfl, ht1, T1⟩
  rw [show (roomOf 0).toNat = 1 from by decide] at ht1
  go_wp2_with fail
  refine (newS 3 w1 w0.heap.size T1.size).mono ?_
  rintro e w2 ⟨rfl, hu2, T2⟩
  rw [show (roomOf 3).toNat = 3 from by decide] at hu2
  have hlt := ht1.old (w0.heap.size + 1) (.inl rfl)
  have ht2 := ht1.turned0 T2
  have T02 := (T0.trans T1).trans T2
  go_wp2_with fail
  refine (putP_new ht2 p12 (by simp) (by decide) (by have := T1.size; have := T2.size; omega)).mono ?_
  rintro e w3 ⟨rfl, lt3, ht3, T3, _⟩
  have hu3 := hu2.turned T3 (by
    rintro k (rfl | rfl | e) (e' | e' | e')
    · omega
    · omega
    · simp [Value.ownBlock] at e'
    · omega
    · omega
    · simp [Value.ownBlock] at e'
    all_goals simp [Value.ownBlock] at e)
  have T03 := ((T1.trans T2).of_mine T3 ht2.fresh)
  go_wp2_with fail
  refine (putP_full ht3 p21 (by simp [p12, p21]) (by simp)).mono ?_
  rintro e w4 ⟨rfl, T4⟩
  have ht4 := ht3.turned0 T4
  have hu4 := hu3.turned0 T4
  go_wp2_with fail
  refine (putP_hit ht4 p12 0 rfl).mono ?_
  rintro e w5 ⟨rfl, T5⟩
  have hu5 := hu4.turned0 T5
  have T05 := (T03.trans T4).trans T5
  clear ht1 ht2 ht3 ht4 hu2 hu3 hu4 T1 T2 T3 T4 T5 T03
  go_wp2_with fail
  refine (putS_new hu5 sX (by decide) (by simp) (by decide) T05.size).mono ?_
  rintro e w6 ⟨rfl, lv6, hu6, T6, _⟩
  have T06 := T05.of_mine T6 hu5.fresh
  go_wp2_with fail
  refine (putS_new hu6 sY (by decide) (by simp [sX, sY]) (by decide) T06.size).mono ?_
  rintro e w7 ⟨rfl, lv7, hu7, T7, _⟩
  have T07 := T06.of_mine T7 hu6.fresh
  go_wp2_with fail
  refine (putS_new hu7 sZ (by decide) (by simp [sX, sY, sZ]) (by decide) T07.size).mono ?_
  rintro e w8 ⟨rfl, lv8, hu8, T8, _⟩
  have T08 := T07.of_mine T8 hu7.fresh
  clear hu5 hu6 hu7 T6 T7 T8 T05 T06 T07
  go_wp2_with fail
  refine (cutS_no hu8 4 (by simp)).mono ?_
  rintro e w9 ⟨rfl, rfl⟩
  go_wp2_with fail
  refine (cutS_no hu8 (-1) (by simp)).mono ?_
  rintro e w9 ⟨rfl, rfl⟩
  go_wp2_with fail
  refine (cutS hu8 1 (by simp) (by intro s hs; simp at hs; rcases hs with rfl | rfl | rfl <;> decide)).mono ?_
  rintro e w9 ⟨rfl, lv9, hu9, T9, _⟩
  have T09 := T08.of_mine T9 hu8.fresh
  rw [show List.take 1 ([] ++ [sX] ++ [sY] ++ [sZ]) = [sX] from rfl] at hu9
  clear hu8 T9 T08
  go_wp2_with fail
  refine (findS_miss hu9 sY (by decide) (by simp [sX, sY])).mono ?_
  rintro e w10 ⟨rfl, rfl⟩
  go_wp2_with fail
  refine (putS_new hu9 sZ (by decide) (by simp [sX, sZ]) (by decide) T09.size).mono ?_
  rintro e w10 ⟨rfl, lv10, hu10, T10, _⟩
  have T010 := T09.of_mine T10 hu9.fresh
  clear hu9 T10 T09
  go_wp2_with fail
  refine (atS_hit hu10 sZ 1 rfl).mono ?_
  rintro e w11 ⟨rfl, rfl⟩
  go_wp2_with fail
  refine (atS_miss hu10 2 (by simp)).mono ?_
  rintro e w11 ⟨rfl, rfl⟩
  go_wp2_with fail
  refine (atS_miss hu10 (-1) (by simp)).mono ?_
  rintro e w11 ⟨rfl, rfl⟩
  go_wp2_with fail
  refine (allS hu10).mono ?_
  rintro e w11 ⟨v, rfl, hv, hrow, T11⟩
  obtain ⟨g, cap, rfl⟩ := hrow.shape_pos (by simp)
  have c0 := hrow.cells rfl 0 (.string sX) rfl
  have c1 := hrow.cells rfl 1 (.string sZ) rfl
  have hx : sX.toList = [120] := by rw [ByteArray.toList_eq]; rfl
  have hz : sZ.toList = [122] := by rw [ByteArray.toList_eq]; rfl
  go_wp2_with fail
  go_ret
  exact ⟨rfl, (T0.trans T010).trans T11⟩
end Go.Proofs.Ytifideminojgjaa
