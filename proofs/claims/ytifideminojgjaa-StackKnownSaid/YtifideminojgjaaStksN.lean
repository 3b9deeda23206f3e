/- What the calls of a stack do. -/
import Derived.Test.YtifideminojgjaaStksL
import Derived.Test.YtifideminojgjaaProg
import Derived.LoopTactic
import Derived.BigRegion
namespace Go.Proofs.Ytifideminojgjaa
open Go.RowKit
set_option linter.unusedVariables false
set_option linter.unusedSimpArgs false

def kX : ByteArray := { data := #[120] }
def kY : ByteArray := { data := #[121] }
def kZ : ByteArray := { data := #[122] }

set_option maxRecDepth 100000 in
set_option maxHeartbeats 4000000 in
theorem stackKnown (w : World) : Calls Try.prog 8 #[] w fun e w' => e = .returned (.bool true) ∧ Turned (fun _ => False) w w' := by
  go_enter Try.func8, Try.ntmps8
  go_wp2_with fail
  refine (awake4 w).mono ?_
  rintro e w0 ⟨rfl, T0⟩
  go_wp2_with fail
  refine (stkNewS 2 w0).mono ?_
  rintro e w1 ⟨rfl, hs1, T1⟩
  rw [show (min (max (2 : Int) 1) 65536).toNat = 2 from by decide] at hs1
  go_wp2_with fail
  refine (stkNewI (-5) w1).mono ?_
  rintro e w2 ⟨rfl, ht2, T2⟩
  rw [show (min (max (-5 : Int) 1) 65536).toNat = 1 from by decide] at ht2
  have hs2 := hs1.turned0 T2
  have T02 := T1.trans T2
  have hold := hs1.old w0.heap.size (.inl rfl)
  clear hs1 T2
  go_wp2_with fail
  have TA := (Turned.refl (fun _ => False) w2).alloc (.cells (([kX, kY, kZ] : List ByteArray).map Value.string).toArray 9)
  refine (stkPushS_no (hs2.turned0 TA) _ 3 3 (by omega) (by simp)).mono ?_
  rintro e w3 ⟨rfl, hs3, T3⟩
  have T03 := (T02.trans TA).trans T3
  have ht3 := ht2.turned0 (TA.trans T3)
  clear hs2 ht2 T02 T3 TA
  go_wp2_with fail
  have TB := (Turned.refl (fun _ => False) w3).alloc (.cells (([kX, kY] : List ByteArray).map Value.string).toArray 9)
  have SB := src_new (enc := Value.string) w3 9 [kX, kY] (by decide)
  have hs3' := hs3.turned0 TB
  have ht3' := ht3.turned0 TB
  refine (stkPushS (ys := [kX, kY]) hs3' _ 2 2 rfl (by simp) (by have := T03.size; simp; omega) (by simp) SB.hsrc).mono ?_
  rintro e w4 ⟨rfl, lv4, hs4, T4, hm4⟩
  simp only [List.nil_append] at hs4
  have ap4 : ∀ k, Mine2 w0.heap.size (.slice none 0 0) k → ¬ Mine2 w1.heap.size (.slice none 0 0) k := by
    rintro k (rfl | e) (e' | e')
    · omega
    · simp [Value.ownBlock] at e'
    all_goals simp [Value.ownBlock] at e
  have ht4 := ht3'.turned T4 ap4
  have T04 := (T03.trans TB).of_mine2 T4 hs3'.fresh
  have hsz3 := T03.size
  have ap5 : ∀ k, Mine2 w0.heap.size lv4 k → ¬ Mine2 w1.heap.size (.slice none 0 0) k := by
    rintro k (rfl | e) (e' | e')
    · omega
    · simp [Value.ownBlock] at e'
    · rcases hm4 with q | ⟨g, q, hg⟩
      · rw [q] at e; simp [Value.ownBlock] at e
      · rw [q] at e; injection e with e
        have := ht3.old w1.heap.size (.inl rfl)
        simp at hg; omega
    · simp [Value.ownBlock] at e'
  clear hs3 hs3' ht3 ht3' T4 T03 TB SB ap4
  go_wp2_with fail
  refine (stkPushS (ys := []) hs4 none 0 0 rfl (by simp) T04.size (by simp) (by simp)).mono ?_
  rintro e w5 ⟨rfl, lv5, hs5, T5, hm5⟩
  simp only [List.append_nil] at hs5
  have ht5 := ht4.turned T5 ap5
  have T05 := T04.of_mine2 T5 hs4.fresh
  have ap6 : ∀ k, Mine2 w0.heap.size lv5 k → ¬ Mine2 w1.heap.size (.slice none 0 0) k := by
    rintro k (rfl | e) (e' | e')
    · omega
    · simp [Value.ownBlock] at e'
    · rcases hm5 with q | ⟨g, q, hg⟩
      · exact ap5 k (.inr (by rw [← q]; exact e)) (.inl e')
      · rw [q] at e; injection e with e
        have := ht4.old w1.heap.size (.inl rfl)
        omega
    · simp [Value.ownBlock] at e'
  clear hs4 ht4 T5 T04 ap5
  go_wp2_with fail
  refine (stkPopS (l := [kX]) (x := kY) hs5).mono ?_
  rintro e w6 ⟨rfl, lv6, hs6, hl6, T6⟩
  have ht6 := ht5.turned T6 ap6
  have T06 := T05.of_mine2 T6 hs5.fresh
  have ap7 : ∀ k, Mine2 w0.heap.size lv6 k → ¬ Mine2 w1.heap.size (.slice none 0 0) k := by
    rintro k (rfl | e) h'
    · exact ap6 _ (.inl rfl) h'
    · exact ap6 _ (.inr (by rw [← hl6]; exact e)) h'
  clear hs5 ht5 T6 T05 ap6
  go_wp2_with fail
  refine (stkTopS_hit (l := []) (x := kX) hs6).mono ?_
  rintro e w7 ⟨rfl, rfl⟩
  go_wp2_with fail
  refine (stkUndoS_no hs6 2 (by simp)).mono ?_
  rintro e w7 ⟨rfl, rfl⟩
  go_wp2_with fail
  refine (stkUndoS_no hs6 (-1) (by simp)).mono ?_
  rintro e w7 ⟨rfl, rfl⟩
  go_wp2_with fail
  refine (stkUndoS hs6 1 (by simp)).mono ?_
  rintro e w7 ⟨v7, lv7, rfl, hv7, hf7, hs7, hl7, T7⟩
  have ht7 := ht6.turned T7 ap7
  have T07 := T06.of_mine2 T7 hs6.fresh
  have ap8 : ∀ k, Mine2 w0.heap.size lv7 k → ¬ Mine2 w1.heap.size (.slice none 0 0) k := by
    rintro k (rfl | e) h'
    · exact ap7 _ (.inl rfl) h'
    · exact ap7 _ (.inr (by rw [← hl7]; exact e)) h'
  obtain ⟨a7, c7, rfl⟩ := hv7.shape
  have hs7' : StkS w7 w0.heap.size w0.heap.size 2 lv7 [kX] := hs7
  clear hs6 ht6 T7 T06 ap7 hs7 hv7
  go_wp2_with fail
  refine (stkAtS_hit hs7' kX 0 rfl).mono ?_
  rintro e w8 ⟨rfl, rfl⟩
  go_wp2_with fail
  refine (stkAtS_miss hs7' 1 (by simp)).mono ?_
  rintro e w8 ⟨rfl, rfl⟩
  go_wp2_with fail
  refine (stkPopS (l := []) (x := kX) hs7').mono ?_
  rintro e w8 ⟨rfl, lv8, hs8, hl8, T8⟩
  have ht8 := ht7.turned T8 ap8
  have T08 := T07.of_mine2 T8 hs7'.fresh
  have ap9 : ∀ k, Mine2 w0.heap.size lv8 k → ¬ Mine2 w1.heap.size (.slice none 0 0) k := by
    rintro k (rfl | e) h'
    · exact ap8 _ (.inl rfl) h'
    · exact ap8 _ (.inr (by rw [← hl8]; exact e)) h'
  clear hs7' ht7 T8 T07 ap8
  go_wp2_with fail
  refine (stkPopS_none hs8).mono ?_
  rintro e w9 ⟨rfl, rfl⟩
  go_wp2_with fail
  refine (stkTopS_miss hs8).mono ?_
  rintro e w9 ⟨rfl, rfl⟩
  go_wp2_with fail
  have TC := (Turned.refl (fun _ => False) w8).alloc (.cells (([1] : List Int).map (Value.int .i64)).toArray 3)
  have SC := src_new (enc := Value.int .i64) w8 3 [1] (by decide)
  have ht8' := ht8.turned0 TC
  refine (stkPushI (ys := [1]) ht8' _ 1 1 rfl (by simp) (by have := T08.size; have := T1.size; have := ht8.old w1.heap.size (.inl rfl); simp; omega) (by simp) SC.hsrc).mono ?_
  rintro e w9 ⟨rfl, lv9, ht9, T9, hm9⟩
  simp only [List.nil_append] at ht9
  have hs9 := (hs8.turned0 TC).turned T9 (fun k hk hs => ap9 k hs hk)
  have T09 := (T08.trans TC).of_mine2 T9 (fun k hk => Nat.le_trans T1.size (ht8'.fresh k hk))
  clear hs8 ht8 ht8' TC SC T9 T08 ap9
  go_wp2_with fail
  have TD := (Turned.refl (fun _ => False) w9).alloc (.cells (([2] : List Int).map (Value.int .i64)).toArray 3)
  refine (stkPushI_no (ht9.turned0 TD) _ 1 1 (by omega) (by simp)).mono ?_
  rintro e w10 ⟨rfl, ht10, T10⟩
  have hs10 := hs9.turned0 (TD.trans T10)
  have T010 := (T09.trans TD).trans T10
  have kx : kX.toList = [120] := by rw [ByteArray.toList_eq]; rfl
  have ky : kY.toList = [121] := by rw [ByteArray.toList_eq]; rfl
  clear hs9 ht9 TD T09 T10
  go_wp2_with fail
  refine (stkMarkS hs10).mono ?_
  rintro e w11 ⟨rfl, rfl⟩
  go_wp2
  go_ret
  exact ⟨rfl, T0.trans T010⟩
end Go.Proofs.Ytifideminojgjaa
