/- IndexAll's walk. -/
import Derived.Test.YtoihjobdfjajfaaIdx2
import Derived.Test.YtoihjobdfjajfaaAw16
import Derived.Deep.OwnRows
import Derived.Laws.OwnMore
namespace Go.Proofs.Ytoihjobdfjajfaa
set_option linter.unusedVariables false
set_option linter.unusedSimpArgs false
open Go.RowKit Go.Maps
attribute [local go_sem ↓] Go.wp_at_zero Go.wp_at_succ

/-- A slice of ints that came in from anywhere. -/
structure ISl (w : World) (a : Option Addr) (c : Nat) (xs : List Int) : Prop where
  none_ : a = none → xs.length = 0 ∧ c = 0
  lies : 0 < xs.length → ∃ b o, a = some ⟨b, o, none⟩ ∧ ∀ (j : Nat) x, xs[j]? = some x → w.cell? ⟨b, o + j, none⟩ = some (.int .i64 x)
  cap : xs.length ≤ c
  max : c ≤ 9223372036854775807
  wf : ∀ x ∈ xs, I64 x
theorem ISl.turned0 {w w' : World} {a : Option Addr} {c : Nat} {xs : List Int} (h : ISl w a c xs) (ht : Turned (fun _ => False) w w') : ISl w' a c xs := by
  refine ⟨h.none_, fun hp => ?_, h.cap, h.max, h.wf⟩
  obtain ⟨b, o, he, hc⟩ := h.lies hp
  exact ⟨b, o, he, fun j u hu => ht.cell (hc j u hu) (fun f => f)⟩
theorem ISl.at {w : World} {b o c : Nat} {xs : List Int} (h : ISl w (some ⟨b, o, none⟩) c xs) {i : Nat} {x : Int} (hi : xs[i]? = some x) : w.cell? ⟨b, o + i, none⟩ = some (.int .i64 x) := by
  obtain ⟨b', o', e, hc⟩ := h.lies (by have := (List.getElem?_eq_some_iff.1 hi).1; omega)
  injection e with e
  injection e with e1 e2
  subst e1 e2
  exact hc _ _ hi

/-- A row of bools of the call's own. -/
def BIn (lb n : Nat) (f : Nat → Bool) (w : World) : Prop := w.heap[lb]? = some (.cells ((List.range n).map fun i => Value.bool (f i)).toArray 4 (0, 0))
section
variable {lb n : Nat} {f : Nat → Bool} {w w' : World}
theorem BIn.cell (h : BIn lb n f w) {j : Nat} (hj : j < n) : w.cell? ⟨lb, j, none⟩ = some (.bool (f j)) := by
  have c := cell_of_row w lb j _ 4 (0, 0) h
  rw [c]
  simp [hj]
theorem BIn.free (h : BIn lb n f w) (j : Nat) : w.frozen? ⟨lb, j, none⟩ = false := frozen_of_row w lb j _ 4 h
theorem BIn.congr (h : BIn lb n f w) {g : Nat → Bool} (e : ∀ i, i < n → f i = g i) : BIn lb n g w := by
  unfold BIn at h ⊢
  rw [h]
  congr 2
  congr 1
  exact List.map_congr_left fun i hi => by rw [e i (List.mem_range.1 hi)]
theorem BIn.turned {S : Nat → Prop} (h : BIn lb n f w) (ht : Turned S w w') (hS : ¬ S lb) : BIn lb n f w' := (ht.block lb (Array.getElem?_eq_some_iff.1 h).1 hS).trans h
theorem BIn.lt (h : BIn lb n f w) : lb < w.heap.size := (Array.getElem?_eq_some_iff.1 h).1
theorem BIn.set (h : BIn lb n f w) {j : Nat} (hj : j < n) (b : Bool) : BIn lb n (fun i => if i = j then b else f i) (w.setCell ⟨lb, j, none⟩ (.bool b)) := by
  have c := heap_setCell_same w lb j _ 4 (.bool b) h
  unfold BIn
  rw [c]
  congr 2
  apply Array.ext
  · simp
  · intro i h1 h2
    by_cases e : i = j
    · subst e; simp
    · simp [List.getElem_set, e, fun e' : j = i => e e'.symm]
      intro e'; exact absurd e'.symm e
theorem BIn.made (w : World) (n : Nat) : BIn w.heap.size n (fun _ => false) (w.alloc (.cells (madeCells #[.bool false] n) 4)) := by
  have := heap_alloc_new w (.cells (madeCells #[.bool false] n) 4)
  unfold BIn
  rw [this]
  congr 2
  apply Array.toList_inj.1
  rw [toList_madeCells_one, List.map_const', List.length_range]
end
/-- What lies in memory while IndexAll runs. -/
structure AllIn (w0 : World) (xb mb lb n : Nat) (v : Value) (ks : List Key) (gone : List Int) (f : Nat → Bool) (w : World) : Prop where
  idx : IdxIn xb mb v ks gone w
  bools : BIn lb n f w
  apart : ∀ k, MineX xb mb v k → k ≠ lb ∧ w0.heap.size ≤ k
  lbge : w0.heap.size ≤ lb
  turned : Turned (fun _ => False) w0 w
section
variable {w0 : World} {xb mb lb n : Nat} {v v' : Value} {ks ks' : List Key} {gone gone' : List Int} {f : Nat → Bool} {w w' : World}
theorem AllIn.turned0 (h : AllIn w0 xb mb lb n v ks gone f w) (ht : Turned (fun _ => False) w w') : AllIn w0 xb mb lb n v ks gone f w' :=
  ⟨h.idx.turned0 ht, h.bools.turned ht (fun f => f), h.apart, h.lbge, h.turned.trans ht⟩
theorem AllIn.moved (h : AllIn w0 xb mb lb n v ks gone f w) (hi : IdxIn xb mb v' ks' gone' w') (ht : Turned (MineX xb mb v) w w') (hv : v'.ownBlock = v.ownBlock ∨ ∃ g, v'.ownBlock = some g ∧ w.heap.size ≤ g) : AllIn w0 xb mb lb n v' ks' gone' f w' := by
  refine ⟨hi, h.bools.turned ht (fun m => (h.apart _ m).1 rfl), fun k hk => ?_, h.lbge, h.turned.step ht (fun i hi hm => by have := (h.apart _ hm).2; omega)⟩
  rcases hk with e | e | e
  · exact h.apart k (.inl e)
  · exact h.apart k (.inr (.inl e))
  · rcases hv with h1 | ⟨g, h1, h2⟩
    · exact h.apart k (.inr (.inr (by rw [← h1]; exact e)))
    · rw [h1] at e
      injection e with e
      subst e
      have := h.bools.lt
      have := h.turned.size
      omega
theorem AllIn.store (h : AllIn w0 xb mb lb n v ks gone f w) {j : Nat} (hj : j < n) (b : Bool) : AllIn w0 xb mb lb n v ks gone (fun i => if i = j then b else f i) (w.setCell ⟨lb, j, none⟩ (.bool b)) :=
  ⟨h.idx.turned ((Turned.refl (· = lb) w).setCell (.inr rfl) _) (fun k _ e hm => (h.apart k hm).1 e), h.bools.set hj b, h.apart, h.lbge, h.turned.setCell (.inl h.lbge) _⟩
theorem AllIn.congr (h : AllIn w0 xb mb lb n v ks gone f w) {g : Nat → Bool} (e : ∀ i, i < n → f i = g i) : AllIn w0 xb mb lb n v ks gone g w := ⟨h.idx, h.bools.congr e, h.apart, h.lbge, h.turned⟩
end

/-- What is let go by a list of drops. -/
def goneB (n : Nat) : List Int → List Int → List Int
  | g, [] => g
  | g, d :: l => goneB n (if dropB n g d then g ++ [d] else g) l
theorem goneB_snoc (n : Nat) (g l : List Int) (d : Int) : goneB n g (l ++ [d]) = (if dropB n (goneB n g l) d then goneB n g l ++ [d] else goneB n g l) := by
  induction l generalizing g with
  | nil => rfl
  | cons x l ih => simp only [List.cons_append, goneB]; exact ih _
theorem goneB_len (n : Nat) (g l : List Int) : (goneB n g l).length ≤ g.length + l.length := by
  induction l generalizing g with
  | nil => simp [goneB]
  | cons x l ih =>
    simp only [goneB, List.length_cons]
    have := ih (if dropB n g x then g ++ [x] else g)
    cases hd : dropB n g x with
    | true =>
      rw [hd] at this
      simp only [if_true, List.length_append, List.length_singleton] at this ⊢
      omega
    | false =>
      rw [hd] at this
      simp only [Bool.false_eq_true, if_false] at this ⊢
      omega

def idxs (j : Nat) : List Int := (List.range j).map fun i : Nat => (i : Int)
theorem idxs_snoc (j : Nat) : idxs (j + 1) = idxs j ++ [(j : Int)] := by unfold idxs; rw [List.range_succ, List.map_append]; rfl
theorem mayB_zero (x : Key) : mayB x Key.zero = true := by unfold mayB; simp [Key.zero]
theorem mayB_self (x : Key) : mayB x x = true := by unfold mayB; simp
theorem pickB_zero (ks : List Key) : pickB Key.zero ks 0 = idxs ks.length := by
  have : ∀ (l : List Key) i, pickB Key.zero l i = (List.range l.length).map fun j => ((i + j : Nat) : Int) := by
    intro l
    induction l with
    | nil => intro i; rfl
    | cons x l ih =>
      intro i
      simp only [pickB, mayB_zero, if_true, ih, List.length_cons, List.range_succ_eq_map, List.map_cons, List.map_map]
      congr 1
      apply List.map_congr_left
      intro a _
      simp
      omega
  rw [this]
  simp [idxs]
theorem pickB_at {k x : Key} {l : List Key} {i j : Nat} (h : l[j]? = some x) : ((i + j : Nat) : Int) ∈ pickB k l i ↔ mayB x k = true := by
  induction l generalizing i j with
  | nil => simp at h
  | cons y l ih =>
    simp only [pickB]
    cases j with
    | zero =>
      simp at h
      subst h
      have hno : ((i : Nat) : Int) ∉ pickB k l (i + 1) := fun hm => by have := (pickB_mem hm).1; omega
      cases hm : mayB y k with
      | true => simp
      | false => simpa using hno
    | succ j =>
      simp at h
      have := ih (i := i + 1) h
      rw [show i + 1 + j = i + (j + 1) by omega] at this
      cases hm : mayB y k with
      | true =>
        simp only [if_true, List.mem_cons]
        rw [← this]
        constructor
        · rintro (e | e)
          · omega
          · exact e
        · exact .inr
      | false => simpa using this
theorem found_eq {ks : List Key} {x : Key} {gone : List Int} {j : Nat} (h : ks[j]? = some x) : decide ((j : Int) ∈ thereB gone (pickB x ks 0)) = !decide ((j : Int) ∈ gone) := by
  have := pickB_at (k := x) (i := 0) h
  rw [Nat.zero_add, mayB_self] at this
  simp at this
  unfold thereB
  rw [Bool.eq_iff_iff]
  simp [this]
theorem all_close {gone : List Int} {j : Nat} {a5 : Option Addr} {c5 g6 cap6 : Nat} {wq wp w6 : World} {o : Obj} (hdm : decide ((j : Int) ∈ gone) = false) (hr : Row wp 3 1 (.slice a5 (thereB gone (idxs j)).length c5) (thereB gone (idxs j)).length ((thereB gone (idxs j)).map (Value.int .i64)) ∧ (∀ b, (Value.slice a5 (thereB gone (idxs j)).length c5).ownBlock = some b → wq.heap.size ≤ b) ∧ Turned (fun _ => False) wq wp)
    (h6 : Row w6 3 1 (.slice (some ⟨g6, 0, none⟩) ((thereB gone (idxs j)).length + 1) cap6) ((thereB gone (idxs j)).length + 1) ((thereB gone (idxs j)).map (Value.int .i64) ++ [.int .i64 j])) (T6 : Turned (fun k => (Value.slice a5 (thereB gone (idxs j)).length c5).ownBlock = some k) (wp.alloc o) w6)
    (hloc : some g6 = (Value.slice a5 (thereB gone (idxs j)).length c5).ownBlock ∨ g6 = (wp.alloc o).heap.size) :
    Row w6 3 1 (.slice (some ⟨g6, 0, none⟩) ((thereB gone (idxs j)).length + 1) cap6) (thereB gone (idxs (j + 1))).length ((thereB gone (idxs (j + 1))).map (Value.int .i64)) ∧ (∀ b, (Value.slice (some ⟨g6, 0, none⟩) ((thereB gone (idxs j)).length + 1) cap6).ownBlock = some b → wq.heap.size ≤ b) ∧ Turned (fun _ => False) wq w6 := by
  have e : thereB gone (idxs (j + 1)) = thereB gone (idxs j) ++ [(j : Int)] := by
    rw [idxs_snoc]
    unfold thereB
    rw [List.filter_append]
    simp [of_decide_eq_false hdm]
  have s1 := hr.2.2.size
  refine ⟨?_, fun b hb => ?_, (hr.2.2.alloc o).step T6 (fun i hi h => by have := hr.2.1 i h; omega)⟩
  · rw [e, List.length_append, List.length_singleton, List.map_append]
    exact h6
  · simp [Value.ownBlock] at hb
    subst hb
    rcases hloc with e | e
    · exact hr.2.1 _ e.symm
    · simp at e; omega
theorem infoB : (Try.prog.info? 4).map (fun i => (i.zero, i.size, i.bytes)) = some (some (.bool false), 1, 1) := by kernel_rfl
set_option maxRecDepth 100000 in
set_option maxHeartbeats 6400000 in
theorem indexAll {w : World} {a1 a2 : Option Addr} {c1 c2 : Nat} {ks : List Key} {ds : List Int} (hk : KSl w a1 c1 ks) (hd : ISl w a2 c2 ds) :
    Calls Try.prog 7 #[.slice a1 ks.length c1, .slice a2 ds.length c2] w fun e w' => e = .returned (.bool true) ∧ Turned (fun _ => False) w w' := by
  have kc := hk.cap
  have km := hk.max
  have dc := hd.cap
  have dm := hd.max
  have HK := Lib.hid hk
  have HD := Lib.hid hd
  clear hk hd
  by_cases h1 : 60 < ks.length
  · have hb : decide ((60 : Int) < (ks.length : Int)) = true := by rw [decide_eq_true_eq]; omega
    clear h1
    go_enter Try.func7, Try.ntmps7
    go_wp2_with (first
      | (go_at_call 40; refine (awake40 _).mono ?_; rintro e w1 ⟨rfl, T1⟩))
    go_ret
    exact ⟨rfl, T1⟩
  have hb : decide ((60 : Int) < (ks.length : Int)) = false := by rw [decide_eq_false_iff_not]; omega
  by_cases h2 : 60 < ds.length
  · have hb2 : decide ((60 : Int) < (ds.length : Int)) = true := by rw [decide_eq_true_eq]; omega
    clear h1 h2
    go_enter Try.func7, Try.ntmps7
    go_wp2_with (first
      | (go_at_call 40; refine (awake40 _).mono ?_; rintro e w1 ⟨rfl, T1⟩))
    go_ret
    exact ⟨rfl, T1⟩
  have hb2 : decide ((60 : Int) < (ds.length : Int)) = false := by rw [decide_eq_false_iff_not]; omega
  have l1 : ks.length ≤ 60 := by omega
  have l2 : ds.length ≤ 60 := by omega
  clear h1 h2
  obtain ⟨i0, hi0, hz0, hz1, hz2⟩ := info_parts infoB
  go_enter Try.func7, Try.ntmps7
  go_wp2_with (first
    | (go_at_call 40; refine (awake40 _).mono ?_; rintro e w1 ⟨rfl, T1⟩)
    | (go_at_call 53; refine (new53 _).mono ?_; rintro e w2 ⟨rfl, X2, T2⟩)
    | (at_make; refine wpList_make_row _ rfl _ _ 56 rfl 4 i0 (.bool false) Try.underlying56 hi0 hz0 hz1 rfl _ _ ks.length rfl rfl (by rw [hz2]; omega) (by omega) ?_))
  have HA : Hid (AllIn w (w1.heap.size + 1) w1.heap.size w2.heap.size ks.length (.slice none 0 0) (ks.take 0) [] (fun i => decide (i < 0)) (w2.alloc (.cells (madeCells #[.bool false] ks.length) 4))) := by
    have s1 := T1.size
    have s2 := T2.size
    have lx := X2.lt
    refine ⟨X2.turned0 ((Turned.refl _ _).alloc _), (BIn.made w2 ks.length).congr (by simp), fun k hk => ?_, by omega, (T1.trans T2).alloc _⟩
    have := lx k hk
    rcases hk with rfl | rfl | e
    · omega
    · omega
    · simp [Value.ownBlock] at e
  clear X2 T1 T2 hi0 hz0 hz1 hz2
  revert HA
  generalize w2.alloc (.cells (madeCells #[.bool false] ks.length) 4) = w3
  generalize w1.heap.size + 1 = xb
  generalize w1.heap.size = mb
  generalize w2.heap.size = lb
  intro HA
  go_loopg [7] ks.length (fun g i wr => ∃ j : Nat, Hid (j + g = ks.length) ∧ j ≤ ks.length ∧ i = .int .i64 j ∧ Hid (∃ v, AllIn w xb mb lb ks.length v (ks.take j) [] (fun i => decide (i < j)) wr))
  case atStart => exact ⟨0, Nat.zero_add _, Nat.zero_le _, rfl, _, HA.out⟩
  case round =>
    obtain ⟨j, HG, hj, rfl, HV⟩ := hrel
    obtain ⟨wo, rfl⟩ : ∃ wo : World, wo = wr := ⟨_, rfl⟩
    by_cases hjl : j < ks.length
    · obtain ⟨v, HV⟩ : ∃ v, Hid (AllIn w xb mb lb ks.length v (ks.take j) [] (fun i => decide (i < j)) wo) := by
        obtain ⟨v, h⟩ := HV.out
        exact ⟨v, h⟩
      obtain ⟨b, o, rfl, _⟩ := HK.out.lies (by omega)
      have hx : ks[j]? = some ks[j] := List.getElem?_eq_getElem hjl
      obtain ⟨x, hxe⟩ : ∃ x, x = ks[j] := ⟨_, rfl⟩
      rw [← hxe] at hx
      clear hxe
      obtain ⟨q0, q1, q2, q3⟩ := (HK.out.turned0 HV.out.turned).at hx
      have hadd := add54 HV.out.idx x (by rw [List.length_take]; omega)
      unfold Key.val at hadd
      rw [List.length_take, Nat.min_eq_left hj, ← take_snoc' _ _ _ hx] at hadd
      have HADD := Lib.hid hadd
      clear hadd hx
      go_wp2_with (first
        | (go_at_call 54; (with_reducible refine (HADD.out).mono ?_); rintro e w4 ⟨rfl, v4, X4, T4, hv4⟩; have HA4 := Lib.hid (HV.out.moved X4 T4 hv4); have hcell := HA4.out.bools.cell hjl; have hfree := HA4.out.bools.free j; clear X4 T4 hv4))
      go_roundg (gk - 1)
      case measure => have := HG.out; omega
      case rel =>
        refine ⟨j + 1, show _ = _ by have := HG.out; omega, by omega, by go_num, v4, (HA4.out.store hjl true).congr fun i hi => ?_⟩
        by_cases e : i = j
        · rw [if_pos e]; symm; rw [decide_eq_true_eq]; omega
        · rw [if_neg e]; rw [decide_eq_decide]; omega
    · obtain rfl : j = ks.length := by omega
      obtain ⟨v, HV⟩ : ∃ v, Hid (AllIn w xb mb lb ks.length v ks [] (fun i => !decide ((i : Int) ∈ goneB ks.length [] (ds.take 0))) wo) := by
        obtain ⟨v, h⟩ := HV.out
        rw [List.take_length] at h
        exact ⟨v, h.congr fun i hi => by simp [goneB, hi]⟩
      clear HG hj hjl HA
      go_wp2_with fail
      go_loopg [8] ds.length (fun g i wr => ∃ j : Nat, Hid (j + g = ds.length) ∧ j ≤ ds.length ∧ i = .int .i64 j ∧ Hid (∃ v, AllIn w xb mb lb ks.length v ks (goneB ks.length [] (ds.take j)) (fun i => !decide ((i : Int) ∈ goneB ks.length [] (ds.take j))) wr))
      case atStart => exact ⟨0, Nat.zero_add _, Nat.zero_le _, rfl, _, HV.out⟩
      case round =>
        obtain ⟨j, HG, hj, rfl, HV⟩ := hrel
        obtain ⟨wq, rfl⟩ : ∃ wq : World, wq = wr := ⟨_, rfl⟩
        by_cases hjl : j < ds.length
        · obtain ⟨v, HV⟩ : ∃ v, Hid (AllIn w xb mb lb ks.length v ks (goneB ks.length [] (ds.take j)) (fun i => !decide ((i : Int) ∈ goneB ks.length [] (ds.take j))) wq) := by
            obtain ⟨v, h⟩ := HV.out
            exact ⟨v, h⟩
          obtain ⟨b, o, rfl, _⟩ := HD.out.lies (by omega)
          have hx : ds[j]? = some ds[j] := List.getElem?_eq_getElem hjl
          obtain ⟨d, hxe⟩ : ∃ d, d = ds[j] := ⟨_, rfl⟩
          rw [← hxe] at hx
          clear hxe
          have q0 := (HD.out.turned0 HV.out.turned).at hx
          have hgl := goneB_len ks.length [] (ds.take j)
          rw [List.length_take] at hgl
          have hdrop := drop55 HV.out.idx d (HD.out.wf d (List.mem_of_getElem? hx)) (by simp at hgl; omega)
          have hgs := goneB_snoc ks.length [] (ds.take j) d
          rw [← take_snoc' _ _ _ hx] at hgs
          obtain ⟨gone, hgo⟩ : ∃ gone, gone = goneB ks.length [] (ds.take j) := ⟨_, rfl⟩
          rw [← hgo] at hgs hdrop HV
          have HGS := Lib.hid hgs
          have HX := Lib.hid hx
          have HDROP := Lib.hid hdrop
          clear hgo hgl hgs hdrop hx
          by_cases hd0 : d < 0
          · have HB : Hid (dropB ks.length gone d = false) := by show _ = _; unfold dropB; simp; omega
            have e0 : decide (0 ≤ d) = false := by rw [decide_eq_false_iff_not]; omega
            have hdrop := HDROP.out
            rw [HB.out, if_neg (by decide)] at hdrop
            have HDROP := Lib.hid hdrop
            clear hdrop hd0
            go_wp2_with (first
              | (go_at_call 55; (with_reducible refine (HDROP.out).mono ?_); rintro e w5 ⟨rfl, X5, T5⟩; have HA5 := Lib.hid (HV.out.moved X5 T5 (.inl rfl)); have q5 := (HD.out.turned0 HA5.out.turned).at HX.out; clear X5 T5))
            go_roundg (gk - 1)
            case measure => have := HG.out; omega
            case rel =>
              refine ⟨j + 1, show _ = _ by have := HG.out; omega, by omega, by go_num, v, ?_⟩
              rw [HGS.out, HB.out, if_neg (by decide)]
              exact HA5.out
          · have e0 : decide (0 ≤ d) = true := by rw [decide_eq_true_eq]; omega
            by_cases hd1 : (ks.length : Int) ≤ d
            · have HB : Hid (dropB ks.length gone d = false) := by show _ = _; unfold dropB; simp; omega
              have e1 : decide (d < (ks.length : Int)) = false := by rw [decide_eq_false_iff_not]; omega
              have hdrop := HDROP.out
              rw [HB.out, if_neg (by decide)] at hdrop
              have HDROP := Lib.hid hdrop
              clear hdrop hd0 hd1
              go_wp2_with (first
                | (go_at_call 55; (with_reducible refine (HDROP.out).mono ?_); rintro e w5 ⟨rfl, X5, T5⟩; have HA5 := Lib.hid (HV.out.moved X5 T5 (.inl rfl)); have q5 := (HD.out.turned0 HA5.out.turned).at HX.out; clear X5 T5))
              go_roundg (gk - 1)
              case measure => have := HG.out; omega
              case rel =>
                refine ⟨j + 1, show _ = _ by have := HG.out; omega, by omega, by go_num, v, ?_⟩
                rw [HGS.out, HB.out, if_neg (by decide)]
                exact HA5.out
            · obtain ⟨m, rfl⟩ : ∃ m : Nat, d = (m : Int) := ⟨d.toNat, by omega⟩
              have hml : m < ks.length := by omega
              have e1 : decide ((m : Int) < (ks.length : Int)) = true := by rw [decide_eq_true_eq]; omega
              have hcell := HV.out.bools.cell hml
              clear hd0 hd1
              by_cases hm : (m : Int) ∈ gone
              · have HB : Hid (dropB ks.length gone m = false) := by show _ = _; unfold dropB; simp [hm]
                have hdm : decide ((m : Int) ∈ gone) = true := by simpa using hm
                rw [hdm] at hcell
                have hdrop := HDROP.out
                rw [HB.out, if_neg (by decide)] at hdrop
                have HDROP := Lib.hid hdrop
                clear hdrop hm hdm
                go_wp2_with (first
                  | (go_at_call 55; (with_reducible refine (HDROP.out).mono ?_); rintro e w5 ⟨rfl, X5, T5⟩; have HA5 := Lib.hid (HV.out.moved X5 T5 (.inl rfl)); have q5 := (HD.out.turned0 HA5.out.turned).at HX.out; clear X5 T5))
                go_roundg (gk - 1)
                case measure => have := HG.out; omega
                case rel =>
                  refine ⟨j + 1, show _ = _ by have := HG.out; omega, by omega, by go_num, v, ?_⟩
                  rw [HGS.out, HB.out, if_neg (by decide)]
                  exact HA5.out
              · have HB : Hid (dropB ks.length gone m = true) := by show _ = _; unfold dropB; simp [hm, hml]
                have hdm : decide ((m : Int) ∈ gone) = false := by simpa using hm
                rw [hdm] at hcell
                have hdrop := HDROP.out
                rw [HB.out, if_pos rfl] at hdrop
                have HDROP := Lib.hid hdrop
                clear hdrop hm hdm
                go_wp2_with (first
                  | (go_at_call 55; (with_reducible refine (HDROP.out).mono ?_); rintro e w5 ⟨rfl, X5, T5⟩; have HA5 := Lib.hid (HV.out.moved X5 T5 (.inl rfl)); have q5 := (HD.out.turned0 HA5.out.turned).at HX.out; have hcell5 := HA5.out.bools.cell hml; have hfree5 := HA5.out.bools.free m; clear X5 T5))
                go_roundg (gk - 1)
                case measure => have := HG.out; omega
                case rel =>
                  refine ⟨j + 1, show _ = _ by have := HG.out; omega, by omega, by go_num, v, ?_⟩
                  rw [HGS.out, HB.out, if_pos rfl]
                  refine (HA5.out.store hml false).congr fun i hi => ?_
                  by_cases e : i = m
                  · subst e; simp
                  · rw [if_neg e]; simp; omega
        · obtain rfl : j = ds.length := by omega
          rw [List.take_length] at HV
          obtain ⟨gone, hgo⟩ : ∃ gone, gone = goneB ks.length [] ds := ⟨_, rfl⟩
          rw [← hgo] at HV
          clear hgo HG hj hjl
          obtain ⟨v, HV⟩ : ∃ v, Hid (AllIn w xb mb lb ks.length v ks gone (fun i => !decide ((i : Int) ∈ gone)) wq) := by
            obtain ⟨v, h⟩ := HV.out
            exact ⟨v, h⟩
          go_wp2_with fail
          go_loopg [10, 11] ks.length (fun g all i wr => ∃ j : Nat, Hid (j + g = ks.length) ∧ j ≤ ks.length ∧ i = .int .i64 j ∧ Hid (Row wr 3 1 all (thereB gone (idxs j)).length ((thereB gone (idxs j)).map (Value.int .i64)) ∧ (∀ b, all.ownBlock = some b → wq.heap.size ≤ b) ∧ Turned (fun _ => False) wq wr))
          case atStart => exact ⟨0, Nat.zero_add _, Nat.zero_le _, rfl, Row.nil _ _ _, fun b hb => by simp [Value.ownBlock] at hb, Turned.refl _ _⟩
          case round =>
            obtain ⟨j, HG, hj, rfl, HR⟩ := hrel
            obtain ⟨wp, rfl⟩ : ∃ wp : World, wp = wr := ⟨_, rfl⟩
            obtain ⟨a5, c5, rfl⟩ := HR.out.1.shape
            obtain ⟨gp, rfl⟩ : ∃ gp : Nat, gp = gk := ⟨_, rfl⟩
            have hln : (thereB gone (idxs j)).length ≤ 60 := by
              have := List.length_filter_le (fun i => !decide (i ∈ gone)) (idxs j)
              unfold thereB
              have : (idxs j).length = j := by simp [idxs]
              omega
            by_cases hjl : j < ks.length
            · obtain ⟨b, o, rfl, _⟩ := HK.out.lies (by omega)
              have hx : ks[j]? = some ks[j] := List.getElem?_eq_getElem hjl
              obtain ⟨x, hxe⟩ : ∃ x, x = ks[j] := ⟨_, rfl⟩
              rw [← hxe] at hx
              clear hxe
              have hcell := (HV.out.turned0 HR.out.2.2).bools.cell hjl
              obtain ⟨ps, HPS⟩ : ∃ ps, Hid (ps = thereB gone (pickB x ks 0) ∧ decide ((j : Int) ∈ ps) = !decide ((j : Int) ∈ gone)) := ⟨_, rfl, found_eq hx⟩
              have HX := Lib.hid hx
              clear hx
              cases hdm : decide ((j : Int) ∈ gone) with
              | true =>
                rw [hdm] at hcell
                have HN : Hid (Row wp 3 1 (.slice a5 (thereB gone (idxs j)).length c5) (thereB gone (idxs (j + 1))).length ((thereB gone (idxs (j + 1))).map (Value.int .i64)) ∧ (∀ b, (Value.slice a5 (thereB gone (idxs j)).length c5).ownBlock = some b → wq.heap.size ≤ b) ∧ Turned (fun _ => False) wq wp) := by
                  have : thereB gone (idxs (j + 1)) = thereB gone (idxs j) := by
                    rw [idxs_snoc]
                    unfold thereB
                    rw [List.filter_append]
                    simp [of_decide_eq_true hdm]
                  rw [this]
                  exact HR.out
                have HA := Lib.hid (HV.out.turned0 HN.out.2.2)
                obtain ⟨q0, q1, q2, q3⟩ := (HK.out.turned0 HA.out.turned).at HX.out
                have hpick := pickX59 HA.out.idx x (by omega)
                unfold Key.val at hpick
                rw [← HPS.out.1] at hpick
                have HPICK := Lib.hid hpick
                clear hpick
                go_wp2_with (first
                  | (go_at_call 59; (with_reducible refine (HPICK.out).mono ?_); rintro e w7 ⟨r7, rfl, hr7, hn7, T7⟩; obtain ⟨a7, c7, rfl⟩ := hr7.shape; have hm7 := hr7.max; have HR7 := Lib.hid hr7; clear hr7))
                try clear hcell
                try clear q0 q1 q2 q3
                go_loopg [13, 14] ps.length (fun g fd i wr => ∃ k : Nat, Hid (k + g = ps.length) ∧ k ≤ ps.length ∧ fd = .bool (decide ((j : Int) ∈ ps.take k)) ∧ i = .int .i64 k ∧ Turned (fun _ => False) w7 wr)
                case atStart => exact ⟨0, Nat.zero_add _, Nat.zero_le _, by simp, rfl, Turned.refl _ _⟩
                case round =>
                  obtain ⟨k, HG2, hk, hfd, rfl, Tr⟩ := hrel
                  obtain ⟨wz, rfl⟩ : ∃ wz : World, wz = wr := ⟨_, rfl⟩
                  by_cases hkl : k < ps.length
                  · have hx : ps[k]? = some ps[k] := List.getElem?_eq_getElem hkl
                    obtain ⟨q, hxe⟩ : ∃ q, q = ps[k] := ⟨_, rfl⟩
                    rw [← hxe] at hx
                    clear hxe
                    obtain ⟨g7, cc7, he⟩ := HR7.out.shape_pos (by omega)
                    injection he with he1 _ he2
                    subst he1 he2
                    have hcq := (HR7.out.turned0 Tr).cells rfl k _ (by rw [List.getElem?_map, hx]; rfl)
                    have hts : ps.take (k + 1) = ps.take k ++ [q] := take_snoc' _ _ _ hx
                    have HTS := Lib.hid hts
                    clear hts hx
                    cases hb : decide ((j : Int) ∈ ps.take k) with
                    | true =>
                      rw [hb] at hfd
                      subst hfd
                      have HB := Lib.hid hb
                      clear hb
                      go_wp2_with fail
                      go_roundg (gk - 1)
                      case measure => have := HG2.out; omega
                      case rel =>
                        refine ⟨k + 1, show _ = _ by have := HG2.out; omega, by omega, ?_, by go_num, Tr⟩
                        rw [HTS.out]
                        have := of_decide_eq_true HB.out
                        simp [this]
                    | false =>
                      rw [hb] at hfd
                      subst hfd
                      have HB := Lib.hid hb
                      clear hb
                      by_cases hqj : q = (j : Int)
                      · subst hqj
                        go_wp2_with fail
                        go_roundg (gk - 1)
                        case measure => have := HG2.out; omega
                        case rel =>
                          refine ⟨k + 1, show _ = _ by have := HG2.out; omega, by omega, ?_, by go_num, Tr⟩
                          rw [HTS.out]
                          simp
                      · have hne : (q == (j : Int)) = false := by simpa using hqj
                        have hnd : decide (q = (j : Int)) = false := by simpa using hqj
                        have HQ := Lib.hid hqj
                        clear hqj
                        go_wp2_with fail
                        go_roundg (gk - 1)
                        case measure => have := HG2.out; omega
                        case rel =>
                          refine ⟨k + 1, show _ = _ by have := HG2.out; omega, by omega, ?_, by go_num, Tr⟩
                          rw [HTS.out]
                          have h1 := of_decide_eq_false HB.out
                          have h2 := HQ.out
                          have h3 : ¬ (j : Int) = q := fun e => h2 e.symm
                          simp [h1, h3]
                  · obtain rfl : k = ps.length := by omega
                    rw [List.take_length, HPS.out.2, hdm] at hfd
                    simp only [Bool.not_true, Bool.not_false] at hfd
                    subst hfd
                    have hcz := (HA.out.turned0 (T7.trans Tr)).bools.cell hjl
                    rw [hdm] at hcz
                    simp only [Bool.not_true, Bool.not_false] at hcz
                    go_wp2_with fail
                    go_roundg (gp - 1)
                    case measure => have := HG.out; omega
                    case rel =>
                      exact ⟨j + 1, show _ = _ by have := HG.out; omega, by omega, by go_num, HN.out.1.turned0 (T7.trans Tr), HN.out.2.1, HN.out.2.2.trans (T7.trans Tr)⟩
              | false =>
                rw [hdm] at hcell
                obtain ⟨i0, hi0, hz0, hz1, hz2⟩ := info_parts infoN
                go_wp2_with (first
                  | (at_builtin; go_loud (refine append_some _ rfl _ _ 61 rfl 3 i0 (.int .i64 0) 1 8 Try.underlying61 hi0 hz0 hz1 hz2 rfl (by decide) _ _ _ rfl (HR.out.1.alloc _) ⟨wp.heap.size, 0, none⟩ 1 1 [.int .i64 j] rfl rfl (cell_one_new _ _ _) (by simp [Value.oneCell']) (by omega) (by unfold maxLen; omega) (by omega) ?_; intro g6 cap6 w6 hown6 T6 hloc6; have HN := Lib.hid (all_close hdm HR.out hown6 T6 hloc6); clear hown6 T6 hloc6; have HA := Lib.hid (HV.out.turned0 HN.out.2.2); obtain ⟨q0, q1, q2, q3⟩ := (HK.out.turned0 HA.out.turned).at HX.out; have hpick := pickX59 HA.out.idx x (by omega); unfold Key.val at hpick; rw [← HPS.out.1] at hpick; have HPICK := Lib.hid hpick; clear hpick))
                  | (go_at_call 59; (with_reducible refine (HPICK.out).mono ?_); rintro e w7 ⟨r7, rfl, hr7, hn7, T7⟩; obtain ⟨a7, c7, rfl⟩ := hr7.shape; have hm7 := hr7.max; have HR7 := Lib.hid hr7; clear hr7))
                try clear hcell
                try clear q0 q1 q2 q3
                go_loopg [13, 14] ps.length (fun g fd i wr => ∃ k : Nat, Hid (k + g = ps.length) ∧ k ≤ ps.length ∧ fd = .bool (decide ((j : Int) ∈ ps.take k)) ∧ i = .int .i64 k ∧ Turned (fun _ => False) w7 wr)
                case atStart => exact ⟨0, Nat.zero_add _, Nat.zero_le _, by simp, rfl, Turned.refl _ _⟩
                case round =>
                  obtain ⟨k, HG2, hk, hfd, rfl, Tr⟩ := hrel
                  obtain ⟨wz, rfl⟩ : ∃ wz : World, wz = wr := ⟨_, rfl⟩
                  by_cases hkl : k < ps.length
                  · have hx : ps[k]? = some ps[k] := List.getElem?_eq_getElem hkl
                    obtain ⟨q, hxe⟩ : ∃ q, q = ps[k] := ⟨_, rfl⟩
                    rw [← hxe] at hx
                    clear hxe
                    obtain ⟨g7, cc7, he⟩ := HR7.out.shape_pos (by omega)
                    injection he with he1 _ he2
                    subst he1 he2
                    have hcq := (HR7.out.turned0 Tr).cells rfl k _ (by rw [List.getElem?_map, hx]; rfl)
                    have hts : ps.take (k + 1) = ps.take k ++ [q] := take_snoc' _ _ _ hx
                    have HTS := Lib.hid hts
                    clear hts hx
                    cases hb : decide ((j : Int) ∈ ps.take k) with
                    | true =>
                      rw [hb] at hfd
                      subst hfd
                      have HB := Lib.hid hb
                      clear hb
                      go_wp2_with fail
                      go_roundg (gk - 1)
                      case measure => have := HG2.out; omega
                      case rel =>
                        refine ⟨k + 1, show _ = _ by have := HG2.out; omega, by omega, ?_, by go_num, Tr⟩
                        rw [HTS.out]
                        have := of_decide_eq_true HB.out
                        simp [this]
                    | false =>
                      rw [hb] at hfd
                      subst hfd
                      have HB := Lib.hid hb
                      clear hb
                      by_cases hqj : q = (j : Int)
                      · subst hqj
                        go_wp2_with fail
                        go_roundg (gk - 1)
                        case measure => have := HG2.out; omega
                        case rel =>
                          refine ⟨k + 1, show _ = _ by have := HG2.out; omega, by omega, ?_, by go_num, Tr⟩
                          rw [HTS.out]
                          simp
                      · have hne : (q == (j : Int)) = false := by simpa using hqj
                        have hnd : decide (q = (j : Int)) = false := by simpa using hqj
                        have HQ := Lib.hid hqj
                        clear hqj
                        go_wp2_with fail
                        go_roundg (gk - 1)
                        case measure => have := HG2.out; omega
                        case rel =>
                          refine ⟨k + 1, show _ = _ by have := HG2.out; omega, by omega, ?_, by go_num, Tr⟩
                          rw [HTS.out]
                          have h1 := of_decide_eq_false HB.out
                          have h2 := HQ.out
                          have h3 : ¬ (j : Int) = q := fun e => h2 e.symm
                          simp [h1, h3]
                  · obtain rfl : k = ps.length := by omega
                    rw [List.take_length, HPS.out.2, hdm] at hfd
                    simp only [Bool.not_true, Bool.not_false] at hfd
                    subst hfd
                    have hcz := (HA.out.turned0 (T7.trans Tr)).bools.cell hjl
                    rw [hdm] at hcz
                    simp only [Bool.not_true, Bool.not_false] at hcz
                    go_wp2_with fail
                    go_roundg (gp - 1)
                    case measure => have := HG.out; omega
                    case rel =>
                      exact ⟨j + 1, show _ = _ by have := HG.out; omega, by omega, by go_num, HN.out.1.turned0 (T7.trans Tr), HN.out.2.1, HN.out.2.2.trans (T7.trans Tr)⟩
            · obtain rfl : j = ks.length := by omega
              have HA := Lib.hid (HV.out.turned0 HR.out.2.2)
              have hpz : Calls Try.prog 59 #[.pointer (some ⟨xb, 0, none⟩), .agg #[.int .i64 0, .int .i64 0, .string ByteArray.empty, .int .i64 0]] wp _ := pickX59 HA.out.idx Key.zero (by omega)
              rw [pickB_zero] at hpz
              have HPZ := Lib.hid hpz
              clear hpz
              go_wp2_with (first
                | (go_at_call 59; go_loud (refine (HPZ.out).mono ?_; rintro e w7 ⟨r7, rfl, hr7, hn7, T7⟩; obtain ⟨a7, c7, rfl⟩ := hr7.shape; have HR7 := Lib.hid hr7; clear hr7))
                | (go_at_call 58; refine (ints58 HR7.out (HR.out.1.turned0 T7)).mono ?_; rintro e w8 ⟨rfl, T8⟩))
              go_ret
              exact ⟨by simp, ((HA.out.turned).trans T7).trans T8⟩
end Go.Proofs.Ytoihjobdfjajfaa
