/- Lemmas for the statements of tables: what a table in memory is, what its calls do to it. -/
import Derived.Test.YtifideminojgjaaTabsA
import Derived.LoopTactic
namespace Go.Proofs.Ytifideminojgjaa
set_option linter.unusedVariables false
set_option linter.unusedSimpArgs false
open Go.RowKit Go.Maps

/-- The map's datum while the places n .. n + k - 1 have been taken out. -/
structure RepCut {K : Type} (kl : K → Lit) (D : DataW Unit) (l : List K) (n k : Nat) : Prop where
  tidy : Maps.Tidy D
  size : Maps.size D + k = l.length
  nodup : l.Nodup
  yes : ∀ (i : Nat) (s : K), l[i]? = some s → (i < n ∨ n + k ≤ i) → Maps.has D (kl s) = true ∧ D.atKey (kl s) (.lit (.int .i64 0)) = .lit (.int .i64 i)
  no : ∀ (s : K), (∀ i, l[i]? = some s → n ≤ i ∧ i < n + k) → Maps.has D (kl s) = false

theorem RepCut.start {K : Type} {kl : K → Lit} {D : DataW Unit} {l : List K} (h : Rep kl D l) (n : Nat) : RepCut kl D l n 0 :=
  ⟨h.tidy, h.size, h.nodup, fun i s hi _ => h.yes i s hi, fun s hs => h.no s (fun hm => by
    obtain ⟨i, hi⟩ := List.getElem?_of_mem hm
    have := hs i hi; omega)⟩

theorem nodup_at {K : Type} {l : List K} (h : l.Nodup) {i j : Nat} {s : K} (hi : l[i]? = some s) (hj : l[j]? = some s) : i = j := by
  obtain ⟨h1, e1⟩ := List.getElem?_eq_some_iff.1 hi
  obtain ⟨h2, e2⟩ := List.getElem?_eq_some_iff.1 hj
  have hp := List.pairwise_iff_getElem.1 h
  rcases Nat.lt_trichotomy i j with hlt | rfl | hlt
  · exact absurd (e1.trans e2.symm) (hp i j h1 h2 hlt)
  · rfl
  · exact absurd (e2.trans e1.symm) (hp j i h2 h1 hlt)

theorem RepCut.step {K : Type} {kl : K → Lit} {D : DataW Unit} {l : List K} {n k : Nat} (h : RepCut kl D l n k) (hinj : ∀ a b, kl a = kl b → a = b) {s : K} (hs : l[n + k]? = some s) : RepCut kl (D.del (kl s)) l n (k + 1) := by
  have hy := (h.yes _ s hs (.inr (Nat.le_refl _))).1
  have hsz := Maps.size_del (k := kl s) h.tidy
  rw [hy] at hsz
  simp at hsz
  have := h.size
  refine ⟨h.tidy.del _, by omega, h.nodup, ?_, ?_⟩
  · intro i t hi hc
    have hne : kl t ≠ kl s := fun e => by
      have := nodup_at h.nodup hi (by rw [hinj _ _ e]; exact hs)
      omega
    rw [Maps.has_del_other hne, Maps.atKey_del_other hne]
    exact h.yes i t hi (by omega)
  · intro t ht
    by_cases e : kl t = kl s
    · rw [e]; exact Maps.has_del_same
    · rw [Maps.has_del_other e]
      refine h.no t (fun i hi => ?_)
      have := ht i hi
      refine ⟨this.1, ?_⟩
      rcases Nat.lt_or_ge i (n + k) with h' | h'
      · exact h'
      · have : i = n + k := by omega
        subst this
        rw [hs] at hi
        exact absurd (congrArg kl (Option.some.inj hi)).symm e

theorem RepCut.done {K : Type} {kl : K → Lit} {D : DataW Unit} {l : List K} {n : Nat} (h : RepCut kl D l n (l.length - n)) (hn : n ≤ l.length) : Rep kl D (l.take n) := by
  have := h.size
  refine ⟨h.tidy, by rw [List.length_take]; omega, h.nodup.sublist (List.take_sublist _ _), ?_, ?_⟩
  · intro i s hi
    rw [List.getElem?_take] at hi
    split at hi
    · rename_i hlt
      exact h.yes i s hi (.inl hlt)
    · cases hi
  · intro s hs
    refine h.no s (fun i hi => ?_)
    have hlt := (List.getElem?_eq_some_iff.1 hi).1
    rcases Nat.lt_or_ge i n with h' | h'
    · exact absurd (List.mem_of_getElem? (i := i) (by rw [List.getElem?_take, if_pos h']; exact hi)) hs
    · exact ⟨h', by omega⟩

set_option maxHeartbeats 400000 in
theorem cutS_no {w : World} {B tb mb room : Nat} {lv : Value} {l : List ByteArray} (h : TabS w B tb mb room lv l) (n : Int) (hn : n < 0 ∨ (l.length : Int) < n) :
    Calls Try.prog 19 #[.pointer (some ⟨tb, 0, none⟩), .int .i64 n] w fun e w' => e = .returned (.bool false) ∧ w = w' := by
  obtain ⟨a, cap, rfl⟩ := h.row.shape
  have hr := h.room2
  have hl := h.len
  have c1 := h.cell1
  clear h
  by_cases h0 : n < 0
  · go_enter Try.func19, Try.ntmps19
    go_wp2
    go_ret
    exact ⟨rfl, rfl⟩
  · have h1 : (l.length : Int) < n := by omega
    have h2 : 0 ≤ n := by omega
    clear hn h0
    go_enter Try.func19, Try.ntmps19
    go_wp2
    go_ret
    exact ⟨rfl, rfl⟩

theorem own_ne {g mb n cap : Nat} (h : g ≠ mb) : ∀ k, (Value.slice (some ⟨g, 0, none⟩) n cap).ownBlock = some k → ¬ k = mb := by
  intro k e s
  have : g = k := by simpa [Value.ownBlock] using e
  exact h (by rw [this, s])

theorem cut_close {w wr : World} {B tb mb room g cap n : Nat} {l : List ByteArray} {D : DataW Unit} (h : TabS w B tb mb room (.slice (some ⟨g, 0, none⟩) l.length cap) l) (hn : n ≤ l.length) (hcl : l.length ≤ cap)
    (hT : Turned (· = mb) w wr) (hown : wr.ownsMap Try.prog 9 (plainElem Try.prog 3) mb l.length D) (hrep : Rep kS D (l.take n))
    (blk1 : wr.heap[tb]? = some (.cells #[.int .i64 room, .slice (some ⟨g, 0, none⟩) l.length cap, .map (some mb)] 70 (0, 0)))
    (hrow : Row wr 9 1 (.slice (some ⟨g, 0, none⟩) l.length cap) l.length (l.flatMap (fun s => [Value.string s]))) :
    ∃ lv', lv' = .slice (some ⟨g, 0, none⟩) n n ∧ TabS (wr.setCell ⟨tb, 1, none⟩ lv') B tb mb room lv' (l.take n) ∧ Turned (Mine tb mb (.slice (some ⟨g, 0, none⟩) l.length cap)) w (wr.setCell ⟨tb, 1, none⟩ lv') ∧ lv'.ownBlock = some g := by
  have hgt : g ≠ tb := fun e => h.apart (by rw [e]; rfl)
  have hlen : (l.take n).length = n := by rw [List.length_take]; omega
  have hl := h.len
  refine ⟨_, rfl, ⟨h.base, h.baseM, fun k hk => h.baseR k hk, rec_set blk1 _, ?_, ⟨D, ?_, hrep⟩, ?_, h.room1, h.room2, by omega⟩, ?_, rfl⟩
  · have r := (hrow.take hn (c := n) (Nat.le_refl _) (by omega)).setCell (p := ⟨tb, 1, none⟩) (by simp [Value.ownBlock]; exact hgt) (.slice (some ⟨g, 0, none⟩) n n)
    rw [hlen]
    rw [flat_str] at r ⊢
    rw [Nat.mul_one, ← List.map_take] at r
    exact r
  · have r := (ownsMap_tight hown).setCell (a := ⟨tb, 1, none⟩) (Ne.symm h.neM) (.slice (some ⟨g, 0, none⟩) n n)
    rw [hrep.size] at r
    exact r
  · simp [Value.ownBlock]; exact hgt
  · exact Turned.setCell (hT.mono (fun i _ e => .inr (.inl e))) (.inr (.inl rfl)) _

set_option maxHeartbeats 400000 in
theorem cutS_part {w : World} {B tb mb room g cap : Nat} {l : List ByteArray} (h : TabS w B tb mb room (.slice (some ⟨g, 0, none⟩) l.length cap) l) (n : Nat) (hn : n ≤ l.length) (hsz : ∀ s ∈ l, s.size ≤ maxLen) (hcn : ¬ cap = n) :
    Calls Try.prog 19 #[.pointer (some ⟨tb, 0, none⟩), .int .i64 n] w fun e w' => e = .returned (.bool true) ∧ ∃ lv', TabS w' B tb mb room lv' (l.take n) ∧ Turned (Mine tb mb (.slice (some ⟨g, 0, none⟩) l.length cap)) w w' ∧ lv'.ownBlock = some g := by
  have hk := Lib.hid h
  have hr := h.room2
  have hl := h.len
  have c1 := h.cell1
  have c2 := h.cell2
  clear h
  obtain ⟨D, hown, hrep⟩ := hk.out.maps
  have hr0 := RepCut.start hrep n
  have hrow := hk.out.row
  have hd : decide ((n : Int) < 0) = false := by simp
  have hd2 : decide (l.length < n) = false := by simp; omega
  have hgm : g ≠ mb := fun e => hk.out.rowM (by rw [e]; rfl)
  have htm := hk.out.neM
  have hcl : l.length ≤ cap := by
    rcases hk.out.row.2 with ⟨e, _⟩ | ⟨_, _, _, e, _, hh, _⟩
    · cases e
    · injection e with _ _ e; omega
  go_enter Try.func19, Try.ntmps19
  go_wp2
  go_loopw [25] (fun i wr => ∃ k : Nat, k ≤ l.length - n ∧ i = .int .i64 k ∧ (∃ D, wr.ownsMap Try.prog 9 (plainElem Try.prog 3) mb l.length D ∧ RepCut kS D l n k) ∧ Turned (· = mb) w wr) (fun i wr => (l.length - n) - (intOf i).toNat)
  case atStart => exact ⟨0, Nat.zero_le _, rfl, ⟨D, hown, hr0⟩, Turned.refl _ _⟩
  case round =>
    obtain ⟨k, hkl, rfl, ⟨D', hown', hr'⟩, hT⟩ := hrel
    have d2 := hT.cell c2 htm
    have d1 := hT.cell c1 htm
    by_cases hlt : k < l.length - n
    · obtain ⟨s, hs⟩ : ∃ s, l[n + k]? = some s := ⟨_, List.getElem?_eq_getElem (by omega)⟩
      have hc : wr.cell? ⟨g, n + k, none⟩ = some (.string s) := hT.cell (hrow.cells rfl _ _ (enc_at hs)) hgm
      have hkey := keyS (hsz s (List.mem_of_getElem? hs))
      have hr2 := Lib.hid (hr'.step kS_inj hs)
      clear hs hr' hrow hrep hown hr0 c1 c2
      go_wp2_with (at_delete; refine wpList_delete_own _ rfl _ _ 68 9 rfl 3 law9 Try.underlying68 _ mb _ D' rfl hown' _ _ rfl hkey ?_; intro w1 hown1 hturn1)
      go_roundw
      case rel => exact ⟨k + 1, by omega, by go_num, ⟨_, hown1, hr2.out⟩, hT.grown hturn1.grown (fun k e => by cases e; exact .inr rfl)⟩
      case measure => simp [intOf]; omega
    · obtain rfl : k = l.length - n := by omega
      have hrow' := hrow.turned hT (own_ne hgm)
      have blk1 := (hT.block tb (Array.getElem?_eq_some_iff.1 hk.out.blk).1 htm).trans hk.out.blk
      obtain ⟨e0, e1, e2, f1⟩ := rec_cells blk1
      have HB := Lib.hid blk1
      clear blk1 d1 d2 c1 c2 hown hr0 hrep
      go_wp2
      go_ret
      obtain ⟨_, rfl, r1, r2, r3⟩ := cut_close hk.out hn hcl hT hown' (hr'.done hn) HB.out hrow'
      exact ⟨rfl, _, r1, r2, r3⟩

set_option maxHeartbeats 400000 in
theorem cutS_end {w : World} {B tb mb room g cap : Nat} {l : List ByteArray} (h : TabS w B tb mb room (.slice (some ⟨g, 0, none⟩) l.length cap) l) (n : Nat) (hn : n ≤ l.length) (_hsz : ∀ s ∈ l, s.size ≤ maxLen) (hcn : cap = n) :
    Calls Try.prog 19 #[.pointer (some ⟨tb, 0, none⟩), .int .i64 n] w fun e w' => e = .returned (.bool true) ∧ ∃ lv', TabS w' B tb mb room lv' (l.take n) ∧ Turned (Mine tb mb (.slice (some ⟨g, 0, none⟩) l.length cap)) w w' ∧ lv'.ownBlock = some g := by
  have hk := Lib.hid h
  have hr := h.room2
  have hl := h.len
  have c1 := h.cell1
  have c2 := h.cell2
  clear h
  obtain ⟨D, hown, hrep⟩ := hk.out.maps
  have hr0 := RepCut.start hrep n
  have hrow := hk.out.row
  have hd : decide ((n : Int) < 0) = false := by simp
  have hd2 : decide (l.length < n) = false := by simp; omega
  have hgm : g ≠ mb := fun e => hk.out.rowM (by rw [e]; rfl)
  have htm := hk.out.neM
  have hcl : l.length ≤ cap := by
    rcases hk.out.row.2 with ⟨e, _⟩ | ⟨_, _, _, e, _, hh, _⟩
    · cases e
    · injection e with _ _ e; omega
  go_enter Try.func19, Try.ntmps19
  go_wp2
  go_loopw [25] (fun i wr => ∃ k : Nat, k ≤ l.length - n ∧ i = .int .i64 k ∧ (∃ D, wr.ownsMap Try.prog 9 (plainElem Try.prog 3) mb l.length D ∧ RepCut kS D l n k) ∧ Turned (· = mb) w wr) (fun i wr => (l.length - n) - (intOf i).toNat)
  case atStart => exact ⟨0, Nat.zero_le _, rfl, ⟨D, hown, hr0⟩, Turned.refl _ _⟩
  case round =>
    obtain ⟨k, hkl, rfl, ⟨D', hown', hr'⟩, hT⟩ := hrel
    have d2 := hT.cell c2 htm
    have d1 := hT.cell c1 htm
    by_cases hlt : k < l.length - n
    · omega
    · obtain rfl : k = l.length - n := by omega
      have hrow' := hrow.turned hT (own_ne hgm)
      have blk1 := (hT.block tb (Array.getElem?_eq_some_iff.1 hk.out.blk).1 htm).trans hk.out.blk
      obtain ⟨e0, e1, e2, f1⟩ := rec_cells blk1
      have HB := Lib.hid blk1
      clear blk1 d1 d2 c1 c2 hown hr0 hrep
      go_wp2
      go_ret
      obtain ⟨_, rfl, r1, r2, r3⟩ := cut_close hk.out hn hcl hT hown' (hr'.done hn) HB.out hrow'
      exact ⟨rfl, _, r1, r2, r3⟩


set_option maxHeartbeats 400000 in
theorem cutS_nil {w : World} {B tb mb room : Nat} (h : TabS w B tb mb room (.slice none 0 0) []) :
    Calls Try.prog 19 #[.pointer (some ⟨tb, 0, none⟩), .int .i64 0] w fun e w' => e = .returned (.bool true) ∧ TabS w' B tb mb room (.slice none 0 0) [] ∧ Turned (Mine tb mb (.slice none 0 0)) w w' := by
  have hk := Lib.hid h
  have c1 := h.cell1
  have c2 := h.cell2
  have f1 := (rec_cells h.blk).2.2.2
  clear h
  go_enter Try.func19, Try.ntmps19
  go_wp2
  refine wp_loop_rounds 1 ?_
  rw [rounds_succ]
  go_wp2
  go_ret
  obtain ⟨D, hown, hrep⟩ := hk.out.maps
  refine ⟨rfl, ⟨hk.out.base, hk.out.baseM, hk.out.baseR, rec_set hk.out.blk _, Row.nil _ _ _, ⟨D, hown.setCell (a := ⟨tb, 1, none⟩) (Ne.symm hk.out.neM) _, hrep⟩, hk.out.apart, hk.out.room1, hk.out.room2, hk.out.len⟩, ?_⟩
  exact (Turned.refl _ _).setCell (.inr (.inl rfl)) _

/-- Cut at a number that may be: whatever the row. -/
theorem cutS {w : World} {B tb mb room : Nat} {lv : Value} {l : List ByteArray} (h : TabS w B tb mb room lv l) (n : Nat) (hn : n ≤ l.length) (hsz : ∀ s ∈ l, s.size ≤ maxLen) :
    Calls Try.prog 19 #[.pointer (some ⟨tb, 0, none⟩), .int .i64 n] w fun e w' => e = .returned (.bool true) ∧ ∃ lv', TabS w' B tb mb room lv' (l.take n) ∧ Turned (Mine tb mb lv) w w' ∧ lv'.ownBlock = lv.ownBlock := by
  rcases h.row.2 with ⟨rfl, hl⟩ | ⟨g, cap, cur, rfl, _⟩
  · obtain rfl : l = [] := List.eq_nil_of_length_eq_zero hl
    obtain rfl : n = 0 := by simpa using hn
    exact (cutS_nil h).mono fun e w' ⟨he, h1, h2⟩ => ⟨he, _, by simpa using h1, h2, rfl⟩
  · by_cases hcn : cap = n
    · exact (cutS_end h n hn hsz hcn).mono fun e w' ⟨he, lv', h1, h2, h3⟩ => ⟨he, lv', h1, h2, h3⟩
    · exact (cutS_part h n hn hsz hcn).mono fun e w' ⟨he, lv', h1, h2, h3⟩ => ⟨he, lv', h1, h2, h3⟩
end Go.Proofs.Ytifideminojgjaa
