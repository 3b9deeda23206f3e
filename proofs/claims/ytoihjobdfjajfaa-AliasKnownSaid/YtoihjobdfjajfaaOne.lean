/- goodName, goodOne: whether one term may be, but for its args. -/
import Derived.Test.YtoihjobdfjajfaaMade
import Derived.Lib.ConvBytes
namespace Go.Proofs.Ytoihjobdfjajfaa
set_option linter.unusedVariables false
set_option linter.unusedSimpArgs false
open Go.RowKit

def okByte (b : UInt8) : Bool := decide (b.toNat = 9 ∨ b.toNat = 10 ∨ (32 ≤ b.toNat ∧ b.toNat ≤ 126))
def goodNameB (s : ByteArray) : Bool := s.data.toList.all okByte && decide (s.size ≤ 64)
theorem all_snoc {α : Type} (f : α → Bool) (l : List α) (j : Nat) (x : α) (h : l[j]? = some x) : (l.take (j + 1)).all f = ((l.take j).all f && f x) := by
  have hj := (List.getElem?_eq_some_iff.1 h)
  rw [List.take_succ_eq_append_getElem hj.1, hj.2, List.all_append]
  simp
theorem all_no {α : Type} (f : α → Bool) (l : List α) (j : Nat) (x : α) (h : l[j]? = some x) (hx : f x = false) : l.all f = false := by
  rw [List.all_eq_false]
  exact ⟨x, List.mem_of_getElem? h, by simp [hx]⟩
theorem bytesTurned (w : World) (e : TypeId) (s : ByteArray) : Turned (fun _ => False) w (Lib.bytesWorld w e s) :=
  ⟨rfl, rfl, rfl, by rw [Lib.bytesWorld_size]; omega, fun k hk _ => Lib.bytesWorld_at_old w e s k hk⟩

set_option maxRecDepth 100000 in
set_option maxHeartbeats 400000 in
theorem goodName161 (s : ByteArray) (w : World) (hs : s.size ≤ maxLen) :
    Calls Try.prog 161 #[.string s] w fun e w' => e = .returned (.bool (goodNameB s)) ∧ Turned (fun _ => False) w w' := by
  have hconv := Lib.run_convert_string_bytes (P := Try.prog) w 9 219 5 s Try.underlying9 Try.underlying219 Try.underlying5
  have hcell := Lib.bytesWorld_cell w 5 s
  have hT := bytesTurned w 5 s
  revert hconv hcell hT
  generalize Lib.bytesWorld w 5 s = w1
  generalize grownCap w s.size 0 5 = c1
  intro hconv hcell hT
  have HCell := Lib.hid hcell
  clear hcell
  have hm : s.size ≤ 9223372036854775807 := by unfold maxLen at hs; omega
  clear hs
  go_enter Try.func161, Try.ntmps161
  go_wp2_with fail
  go_loop [8] (fun i => ∃ j : Nat, j ≤ s.size ∧ i = .int .i64 j ∧ Hid ((s.data.toList.take j).all okByte = true)) (fun i => s.size - (intOf i).toNat)
  case atStart => exact ⟨0, Nat.zero_le _, rfl, rfl⟩
  case round =>
    obtain ⟨j, hj, rfl, HA⟩ := hrel
    by_cases hjl : j < s.size
    · have hx : s.data.toList[j]? = some (s.data.toList[j]'(by simpa using hjl)) := List.getElem?_eq_getElem _
      obtain ⟨x, hxe⟩ : ∃ x, x = s.data.toList[j]'(by simpa using hjl) := ⟨_, rfl⟩
      rw [← hxe] at hx
      have hc := HCell.out j hjl
      have hgd : s.data.toList.getD j 0 = x := by rw [List.getD, hx]; rfl
      rw [hgd] at hc
      clear hgd hxe
      have HX := Lib.hid hx
      clear hx
      obtain ⟨n, hn⟩ : ∃ n, n = x.toNat := ⟨_, rfl⟩
      rw [← hn] at hc
      by_cases hok : okByte x = true
      · have h9 : n = 9 ∨ n = 10 ∨ (32 ≤ n ∧ n ≤ 126) := by unfold okByte at hok; rw [← hn] at hok; simpa using hok
        have HO := Lib.hid hok
        clear hok
        have HN := Lib.hid hn
        clear hn
        rcases h9 with h9 | h9 | ⟨h8, h9⟩
        · have u1 : n ≤ 9 := by omega
          have u2 : 9 ≤ n := by omega
          have t1 : ((n : Int) != 9) = false := by simp; omega
          clear h9
          go_wp2_with fail
          go_round
          case rel => exact ⟨j + 1, by omega, by go_num, show _ = true by rw [all_snoc _ _ _ _ HX.out, HA.out, HO.out]; rfl⟩
          case measure => simp [intOf]; omega
        · have u1 : n ≤ 10 := by omega
          have u2 : 10 ≤ n := by omega
          have t1 : ((n : Int) != 9) = true := by simp; omega
          have t2 : ((n : Int) != 10) = false := by simp; omega
          clear h9
          go_wp2_with fail
          go_round
          case rel => exact ⟨j + 1, by omega, by go_num, show _ = true by rw [all_snoc _ _ _ _ HX.out, HA.out, HO.out]; rfl⟩
          case measure => simp [intOf]; omega
        · go_wp2_with fail
          go_round
          case rel => exact ⟨j + 1, by omega, by go_num, show _ = true by rw [all_snoc _ _ _ _ HX.out, HA.out, HO.out]; rfl⟩
          case measure => simp [intOf]; omega
      · have ho : okByte x = false := by simpa using hok
        have h9 : ¬ (n = 9 ∨ n = 10 ∨ (32 ≤ n ∧ n ≤ 126)) := by unfold okByte at ho; rw [← hn] at ho; simpa using ho
        have h10 : n ≤ 31 ∨ 127 ≤ n := by omega
        have t1 : ((n : Int) != 9) = true := by simp; omega
        have t2 : ((n : Int) != 10) = true := by simp; omega
        have HO := Lib.hid ho
        clear ho hok h9
        have HN := Lib.hid hn
        clear hn
        rcases h10 with h10 | h10
        all_goals
          go_wp2_with fail
          go_ret
          refine ⟨ret_bool ?_, hT⟩
          unfold goodNameB
          rw [all_no _ _ _ _ HX.out HO.out]; rfl
    · have hje : j = s.size := by omega
      go_wp2_with fail
      go_ret
      refine ⟨ret_bool ?_, hT⟩
      unfold goodNameB
      have h := HA.out
      rw [hje, List.take_of_length_le (by simp)] at h
      rw [h, Bool.true_and, decide_eq_decide]
      omega

theorem bytes_nil (s : ByteArray) : s.toList = [] ↔ s = ByteArray.empty := by
  rw [ByteArray.toList_eq]
  cases s with | mk d => cases d with | mk l =>
  constructor
  · intro h; simp at h; subst h; rfl
  · intro h; injection h with h; injection h
/-- Whether one term may be, but for its args. -/
def goodOneB {α : Type} (t : Tm α) : Bool :=
  if t.kind = 0 then decide (0 ≤ t.n) && (decide (t.n ≤ 2147483647) && (decide (t.name.toList = []) && decide (t.args.length = 0)))
  else if t.kind = 1 then decide (t.name.toList = []) && decide (t.args.length = 0)
  else if t.kind = 2 then decide (t.n = 0) && (goodNameB t.name && decide (t.args.length ≤ 8))
  else false

theorem goodOneB_0 {α : Type} (t : Tm α) (h : t.kind = 0) : goodOneB t = (decide (0 ≤ t.n) && (decide (t.n ≤ 2147483647) && (decide (t.name.toList = []) && decide (t.args.length = 0)))) := by unfold goodOneB; rw [if_pos h]
theorem goodOneB_1 {α : Type} (t : Tm α) (h : t.kind = 1) : goodOneB t = (decide (t.name.toList = []) && decide (t.args.length = 0)) := by unfold goodOneB; rw [if_neg (by omega), if_pos h]
theorem goodOneB_2 {α : Type} (t : Tm α) (h : t.kind = 2) : goodOneB t = (decide (t.n = 0) && (goodNameB t.name && decide (t.args.length ≤ 8))) := by unfold goodOneB; rw [if_neg (by omega), if_neg (by omega), if_pos h]
theorem goodOneB_3 {α : Type} (t : Tm α) (h0 : ¬ t.kind = 0) (h1 : ¬ t.kind = 1) (h2 : ¬ t.kind = 2) : goodOneB t = false := by unfold goodOneB; rw [if_neg h0, if_neg h1, if_neg h2]

set_option maxHeartbeats 400000 in
theorem goodOne129 {p : Nat → Prop} (t : LT) (w : World) (ht : t.In p w) :
    Calls Try.prog 129 #[t.val] w fun e w' => e = .returned (.bool (goodOneB t)) ∧ Turned (fun _ => False) w w' := by
  rw [LT.val_eq]
  have hname := ht.name
  have hl := ht.len
  have hm := hl.2.1
  have hm1 := hl.1
  have hm2 : t.args.length ≤ 9223372036854775807 := by unfold maxLen at hm; omega
  obtain ⟨a, ha⟩ : ∃ a, a = t.at_.1 := ⟨_, rfl⟩
  obtain ⟨c, hc⟩ : ∃ c, c = t.at_.2 := ⟨_, rfl⟩
  rw [← ha, ← hc]
  clear ha hc hl hm hm1
  have T := fun o => (Turned.refl (fun _ => False) w).alloc o
  have hg := fun W => goodName161 t.name W hname
  have HG := Lib.hid hg
  clear hg
  have HLN : Hid (((t.args.length : Int) == 0) = decide (t.args = [])) := by
    show _ = _
    rw [Bool.eq_iff_iff]; simp
  by_cases h0 : t.kind = 0
  · have k0 : (t.kind == 0) = true := by simp [h0]
    have HR := Lib.hid (goodOneB_0 t h0)
    clear h0
    go_enter Try.func129, Try.ntmps129
    go_wp2_with fail
    all_goals
      go_ret
      refine ⟨ret_bool ?_, ?_⟩
      · have hln := HLN.out
        rw [HR.out]
        simp [*] <;> first | omega | (intros; omega)
      · exact T _
  by_cases h1 : t.kind = 1
  · have k0 : (t.kind == 0) = false := by simp [h0]
    have k1 : (t.kind == 1) = true := by simp [h1]
    have HR := Lib.hid (goodOneB_1 t h1)
    clear h0 h1
    go_enter Try.func129, Try.ntmps129
    go_wp2_with fail
    all_goals
      go_ret
      refine ⟨ret_bool ?_, ?_⟩
      · have hln := HLN.out
        rw [HR.out]
        simp [*] <;> first | omega | (intros; omega)
      · exact T _
  by_cases h2 : t.kind = 2
  · have k0 : (t.kind == 0) = false := by simp [h0]
    have k1 : (t.kind == 1) = false := by simp [h1]
    have k2 : (t.kind == 2) = true := by simp [h2]
    have HR := Lib.hid (goodOneB_2 t h2)
    clear h0 h1 h2
    by_cases hn : t.n = 0
    · have kn : (t.n == 0) = true := by simp [hn]
      have HN := Lib.hid hn
      clear hn
      go_enter Try.func129, Try.ntmps129
      go_wp2_with (go_at_call 161; refine (HG.out _).mono ?_; rintro e w2 ⟨rfl, T2⟩; have hb3 := (boxed w #[.int .i64 t.kind, .int .i64 t.n, .string t.name, .slice a t.args.length c] 27 3); have hb4 := T2.cell0 hb3; clear hb3; have T3 := (T _).trans T2)
      all_goals
        go_ret
        refine ⟨ret_bool ?_, T3⟩
        have hn := HN.out
        rw [HR.out]
        simp [*] <;> first | omega | (intros; omega)
    · have kn : (t.n == 0) = false := by simp [hn]
      have HN := Lib.hid hn
      clear hn
      go_enter Try.func129, Try.ntmps129
      go_wp2_with fail
      go_ret
      refine ⟨ret_bool ?_, T _⟩
      have hn := HN.out
      rw [HR.out]
      simp [hn]
  · have k0 : (t.kind == 0) = false := by simp [h0]
    have k1 : (t.kind == 1) = false := by simp [h1]
    have k2 : (t.kind == 2) = false := by simp [h2]
    have HR := Lib.hid (goodOneB_3 t h0 h1 h2)
    clear h0 h1 h2
    go_enter Try.func129, Try.ntmps129
    go_wp2_with fail
    go_ret
    exact ⟨ret_bool HR.out.symm, T _⟩
end Go.Proofs.Ytoihjobdfjajfaa
