/- Pick: the places of the keys that may fit. -/
import Derived.Test.YtoihjobdfjajfaaKey
import Derived.Deep.RegionHeld3
import Derived.Deep.DrawnRows
namespace Go.Proofs.Ytoihjobdfjajfaa
set_option linter.unusedVariables false
set_option linter.unusedSimpArgs false
open Go.RowKit

theorem flat4_length {α : Type} (f : α → List Value) (hf : ∀ x, (f x).length = 4) (l : List α) : (l.flatMap f).length = l.length * 4 := by
  induction l with
  | nil => rfl
  | cons x l ih => rw [List.flatMap_cons, List.length_append, hf, ih, List.length_cons]; omega
theorem flat4_at {α : Type} (f : α → List Value) (hf : ∀ x, (f x).length = 4) {l : List α} {i : Nat} {x : α} (h : l[i]? = some x) (j : Nat) (hj : j < 4) : (l.flatMap f)[i * 4 + j]? = (f x)[j]? := by
  induction l generalizing i with
  | nil => simp at h
  | cons y l ih =>
    rw [List.flatMap_cons]
    cases i with
    | zero =>
      simp at h; subst h
      rw [List.getElem?_append_left (by rw [hf]; omega), Nat.zero_mul, Nat.zero_add]
    | succ i =>
      simp at h
      rw [List.getElem?_append_right (by rw [hf]; omega), hf]
      have : (i + 1) * 4 + j - 4 = i * 4 + j := by omega
      rw [this]
      exact ih h
def Key.cells (k : Key) : List Value := [.int .i64 k.kind, .int .i64 k.n, .string k.name, .int .i64 k.arity]
/-- A slice of keys that came in from anywhere. -/
structure KSl (w : World) (a : Option Addr) (c : Nat) (ks : List Key) : Prop where
  none_ : a = none → ks.length = 0 ∧ c = 0
  lies : 0 < ks.length → ∃ b o, a = some ⟨b, o, none⟩ ∧ ∀ j u, (ks.flatMap Key.cells)[j]? = some u → w.cell? ⟨b, o + j, none⟩ = some u
  cap : ks.length ≤ c
  max : c ≤ 9223372036854775807
theorem KSl.turned {S : Nat → Prop} {w w' : World} {a : Option Addr} {c : Nat} {ks : List Key} (h : KSl w a c ks) (ht : Turned S w w') (hS : ∀ b o, a = some ⟨b, o, none⟩ → ¬ S b) : KSl w' a c ks := by
  refine ⟨h.none_, fun hp => ?_, h.cap, h.max⟩
  obtain ⟨b, o, he, hc⟩ := h.lies hp
  exact ⟨b, o, he, fun j u hu => ht.cell (hc j u hu) (hS b o he)⟩
theorem KSl.turned0 {w w' : World} {a : Option Addr} {c : Nat} {ks : List Key} (h : KSl w a c ks) (ht : Turned (fun _ => False) w w') : KSl w' a c ks := h.turned ht (fun _ _ _ f => f)
theorem KSl.at {w : World} {b o c : Nat} {ks : List Key} (h : KSl w (some ⟨b, o, none⟩) c ks) {i : Nat} {x : Key} (hi : ks[i]? = some x) :
    w.cell? ⟨b, o + i * 4, none⟩ = some (.int .i64 x.kind) ∧ w.cell? ⟨b, o + i * 4 + 1, none⟩ = some (.int .i64 x.n) ∧ w.cell? ⟨b, o + i * 4 + 2, none⟩ = some (.string x.name) ∧ w.cell? ⟨b, o + i * 4 + 3, none⟩ = some (.int .i64 x.arity) := by
  obtain ⟨b', o', e, hc⟩ := h.lies (by have := (List.getElem?_eq_some_iff.1 hi).1; omega)
  injection e with e
  injection e with e1 e2
  subst e1 e2
  have hf : ∀ x : Key, x.cells.length = 4 := fun _ => rfl
  refine ⟨hc _ _ ?_, ?_, ?_, ?_⟩
  rotate_left
  all_goals try (rw [Nat.add_assoc]; refine hc _ _ ?_)
  rotate_right
  · have := flat4_at Key.cells hf hi 0 (by omega); rw [Nat.add_zero] at this; rw [this]; rfl
  · rw [flat4_at Key.cells hf hi 1 (by omega)]; rfl
  · rw [flat4_at Key.cells hf hi 2 (by omega)]; rfl
  · rw [flat4_at Key.cells hf hi 3 (by omega)]; rfl

/-- The places of the keys that may fit. -/
def pickB (k : Key) : List Key → Nat → List Int
  | [], _ => []
  | x :: l, i => if mayB x k then (i : Int) :: pickB k l (i + 1) else pickB k l (i + 1)
theorem pickB_snoc (k : Key) (l : List Key) (x : Key) (i : Nat) : pickB k (l ++ [x]) i = pickB k l i ++ (if mayB x k then [((i + l.length : Nat) : Int)] else []) := by
  induction l generalizing i with
  | nil => simp only [List.nil_append, pickB, List.length_nil, Nat.add_zero]
  | cons y l ih =>
    simp only [List.cons_append, pickB, List.length_cons]
    have : i + (l.length + 1) = i + 1 + l.length := by omega
    rw [ih, this]
    split <;> simp
theorem pickB_le (k : Key) (l : List Key) (i : Nat) : (pickB k l i).length ≤ l.length := by
  induction l generalizing i with
  | nil => simp [pickB]
  | cons y l ih => simp only [pickB, List.length_cons]; have := ih (i + 1); split <;> simp <;> omega
theorem infoN : (Try.prog.info? 3).map (fun i => (i.zero, i.size, i.bytes)) = some (some (.int .i64 0), 1, 8) := by kernel_rfl

/-- At the head of Pick's loop. -/
def PickR (w0 : World) (k : Key) (ks : List Key) (g : Nat) (v i : Value) (wr : World) : Prop :=
  ∃ j : Nat, Hid (j + g = ks.length) ∧ j ≤ ks.length ∧ i = .int .i64 j ∧ Row wr 3 1 v (pickB k (ks.take j) 0).length ((pickB k (ks.take j) 0).map (Value.int .i64)) ∧ (∀ b, v.ownBlock = some b → w0.heap.size ≤ b) ∧ Turned (fun _ => False) w0 wr

set_option maxRecDepth 100000 in
set_option maxHeartbeats 1600000 in
theorem pick60 {w : World} {a : Option Addr} {c : Nat} {ks : List Key} (k : Key) (h : KSl w a c ks) (hn : ks.length ≤ 65536) :
    Calls Try.prog 60 #[.slice a ks.length c, k.val] w fun e w' => ∃ v, e = .returned v ∧ Row w' 3 1 v (pickB k ks 0).length ((pickB k ks 0).map (Value.int .i64)) ∧ (∀ b, v.ownBlock = some b → w.heap.size ≤ b) ∧ Turned (fun _ => False) w w' := by
  have T1 := (Turned.refl (fun _ => False) w).alloc (.cells #[.int .i64 k.kind, .int .i64 k.n, .string k.name, .int .i64 k.arity] 35)
  have hbx := fun W (h : Turned (fun _ => False) (w.alloc (.cells #[.int .i64 k.kind, .int .i64 k.n, .string k.name, .int .i64 k.arity] 35)) W) => box4 h
  have HT := Lib.hid T1
  have H := Lib.hid h
  have HB := Lib.hid hbx
  have hcap := h.cap
  have hmax := h.max
  clear T1 h hbx
  unfold Key.val
  go_enter Try.func60, Try.ntmps60
  go_wp2_with fail
  revert HT HB
  generalize w.alloc (.cells #[.int .i64 k.kind, .int .i64 k.n, .string k.name, .int .i64 k.arity] 35) = w1
  intro HT HB
  have hs1 : w.heap.size < w1.heap.size := (HB.out w1 (Turned.refl _ _)).2
  go_loopg [5, 10] ks.length (fun g v i wr => PickR w1 k ks g v i wr)
  case atStart => exact ⟨0, Nat.zero_add _, Nat.zero_le _, rfl, Row.nil _ _ _, fun b hb => by simp [Value.ownBlock] at hb, Turned.refl _ _⟩
  case round =>
    obtain ⟨j, HG, hj, rfl, hrow, hown, Tr⟩ := hrel
    obtain ⟨wo, rfl⟩ : ∃ wo : World, wo = wr := ⟨_, rfl⟩
    obtain ⟨v3, cv, rfl⟩ := hrow.shape
    have hpl := pickB_le k (ks.take j) 0
    have hpl2 : (pickB k (ks.take j) 0).length ≤ 65536 := by rw [List.length_take] at hpl; omega
    have HROW := Lib.hid hrow
    clear hrow hpl
    by_cases hjl : j < ks.length
    · have hx : ks[j]? = some ks[j] := List.getElem?_eq_getElem hjl
      obtain ⟨x, hxe⟩ : ∃ x, x = ks[j] := ⟨_, rfl⟩
      rw [← hxe] at hx
      clear hxe
      obtain ⟨b, o, rfl, _⟩ := H.out.lies (by omega)
      obtain ⟨c0, c1, c2, c3⟩ := (H.out.turned0 (HT.out.trans Tr)).at hx
      have HX := Lib.hid hx
      have hmay := may43 x k
      unfold Key.val at hmay
      have HM := Lib.hid hmay
      obtain ⟨hb0, hlt⟩ := HB.out _ Tr
      obtain ⟨d0, d1, d2, d3, _⟩ := cells4 hb0
      have HB0 := Lib.hid hb0
      clear hx hmay hb0
      have hts : (ks.take (j + 1)) = ks.take j ++ [x] := take_snoc' _ _ _ HX.out
      have hps := pickB_snoc k (ks.take j) x 0
      rw [← hts, List.length_take, Nat.zero_add, Nat.min_eq_left (by omega)] at hps
      have HPS := Lib.hid hps
      clear hts hps
      cases hm : mayB x k with
      | true =>
        rw [hm] at HM
        obtain ⟨i0, hi0, hz0, hz1, hz2⟩ := info_parts infoN
        have HMB := Lib.hid hm
        clear hm
        go_wp2_with (first
          | (go_at_call 43; refine (HM.out _).mono ?_; rintro e w5 ⟨rfl, T5⟩; have hrow5 := HROW.out.turned0 (((Turned.refl _ wo).alloc _).trans T5))
          | (at_builtin; refine append_some _ rfl _ _ 61 rfl 3 i0 (.int .i64 0) 1 8 Try.underlying61 hi0 hz0 hz1 hz2 rfl (by decide) _ _ _ rfl (hrow5.alloc _) ⟨w5.heap.size, 0, none⟩ 1 1 [.int .i64 j] rfl rfl (cell_one_new _ _ _) (by simp [Value.oneCell']) (by omega) (by unfold maxLen; omega) (by omega) ?_; intro g6 cap6 w6 hown6 T6 hloc6))
        go_roundg (gk - 1)
        case measure => have := HG.out; omega
        case rel =>
          have hs5 := T5.size
          have hs0 := Tr.size
          simp at hs5
          refine ⟨j + 1, show _ = _ by have := HG.out; omega, by omega, by go_num, ?_, fun b' hb' => ?_, ?_⟩
          · rw [HPS.out, HMB.out, if_pos rfl, List.length_append, List.length_singleton, List.map_append]
            exact hown6
          · rcases hloc6 with e | e
            · exact hown b' (e.symm.trans hb')
            · simp [Value.ownBlock] at hb'; simp at e; omega
          · refine (Tr.trans (((Turned.refl _ wo).alloc _).trans (T5.trans ((Turned.refl _ w5).alloc _)))).step T6 (fun i hi h3 => ?_)
            have := hown i h3
            omega
      | false =>
        rw [hm] at HM
        have HMB := Lib.hid hm
        clear hm
        go_wp2_with (first
          | (go_at_call 43; refine (HM.out _).mono ?_; rintro e w5 ⟨rfl, T5⟩))
        go_roundg (gk - 1)
        case measure => have := HG.out; omega
        case rel =>
          refine ⟨j + 1, show _ = _ by have := HG.out; omega, by omega, by go_num, ?_, hown, Tr.trans (((Turned.refl _ wo).alloc _).trans T5)⟩
          rw [HPS.out, HMB.out]
          simp
          exact HROW.out.turned0 (((Turned.refl _ wo).alloc _).trans T5)
    · have hje : j = ks.length := by omega
      go_wp2_with fail
      go_ret
      have hr := HROW.out
      rw [hje, List.take_length] at hr
      refine ⟨_, rfl, ?_, fun b hb => ?_, HT.out.trans Tr⟩
      · rw [hje]; simpa using hr
      · have := hown b hb; omega
end Go.Proofs.Ytoihjobdfjajfaa
