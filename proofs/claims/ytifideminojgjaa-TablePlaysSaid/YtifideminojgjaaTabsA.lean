/- Lemmas for the statements of tables: what a table in memory is, what its calls do to it. -/
import Derived.Test.YtifideminojgjaaTabsP
namespace Go.Proofs.Ytifideminojgjaa
set_option linter.unusedVariables false
set_option linter.unusedSimpArgs false
open Go.RowKit Go.Maps

theorem flat_str (l : List ByteArray) : l.flatMap (fun s => [Value.string s]) = l.map Value.string := by
  induction l with
  | nil => rfl
  | cons x r ih => rw [List.flatMap_cons, ih]; rfl
theorem enc_at {l : List ByteArray} {i : Nat} {s : ByteArray} (hi : l[i]? = some s) : (l.flatMap (fun s => [Value.string s]))[i]? = some (.string s) := by
  rw [flat_str]; simp [hi]

set_option maxHeartbeats 400000 in
theorem atS_hit {w : World} {B tb mb room : Nat} {lv : Value} {l : List ByteArray} (h : TabS w B tb mb room lv l) (s : ByteArray) (i : Nat) (hi : l[i]? = some s) :
    Calls Try.prog 21 #[.pointer (some ⟨tb, 0, none⟩), .int .i64 i] w fun e w' => e = .returned (.tuple #[.string s, .bool true]) ∧ w = w' := by
  have hlt := (List.getElem?_eq_some_iff.1 hi).1
  have hr := h.room2
  have hl := h.len
  have c1 := h.cell1
  obtain ⟨g, cap, rfl⟩ : ∃ g cap, lv = .slice (some ⟨g, 0, none⟩) l.length cap := by
    exact h.row.shape_pos (by omega)
  have hc : w.cell? ⟨g, i, none⟩ = some (.string s) := by
    have := h.row.cells rfl i _ (enc_at hi)
    exact this
  clear hi h
  go_enter Try.func21, Try.ntmps21
  go_wp2
  go_ret2
  exact ⟨rfl, rfl⟩

set_option maxHeartbeats 400000 in
theorem atS_miss {w : World} {B tb mb room : Nat} {lv : Value} {l : List ByteArray} (h : TabS w B tb mb room lv l) (i : Int) (hi : i < 0 ∨ (l.length : Int) ≤ i) :
    Calls Try.prog 21 #[.pointer (some ⟨tb, 0, none⟩), .int .i64 i] w fun e w' => e = .returned (.tuple #[.string ByteArray.empty, .bool false]) ∧ w = w' := by
  obtain ⟨a, cap, rfl⟩ := h.row.shape
  have hr := h.room2
  have hl := h.len
  have c1 := h.cell1
  clear h
  by_cases h0 : i < 0
  · go_enter Try.func21, Try.ntmps21
    go_wp2
    go_ret2
    exact ⟨rfl, rfl⟩
  · have h1 : (l.length : Int) ≤ i := by omega
    have h2 : 0 ≤ i := by omega
    clear hi h0
    go_enter Try.func21, Try.ntmps21
    go_wp2
    go_ret2
    exact ⟨rfl, rfl⟩

set_option maxHeartbeats 400000 in
theorem cloneS_some {w : World} {ad : Addr} {n cap : Nat} {xs : List Value} (hl : xs.length = n * 1) (hcells : ∀ j u, xs[j]? = some u → w.cell? (ad.add j) = some u) (hx : ∀ x ∈ xs, x.oneCell' = true) (hn : n ≤ 65536) :
    Calls Try.prog 39 #[.slice (some ad) n cap] w fun e w' => ∃ v, e = .returned v ∧ Row w' 9 1 v n xs ∧ (∀ k, v.ownBlock = some k → w.heap.size ≤ k) ∧ Turned (fun _ => False) w w' := by
  obtain ⟨i0, hi0, hz0, hz1, hz2⟩ := info_parts infoS
  have hnil := fun (w : World) (a : Option Addr) (n c : Nat) => Lib.run_eql_slice_nil (P := Try.prog) w 31 9 a n c 0 0 Try.underlying31
  have hc' : ∀ o : Obj, ∀ j u, xs[j]? = some u → (w.alloc o).cell? (ad.add j) = some u := fun o j u h => cell_old (hcells j u h)
  have HC := Lib.hid hc'
  clear hcells hc'
  go_enter Try.func39, Try.ntmps39
  go_wp2_with (first
    | (at_builtin; refine append_row _ rfl _ _ 31 rfl 9 i0 (.string ByteArray.empty) 1 16 Try.underlying31 hi0 hz0 hz1 hz2 rfl (by decide) _ _ _ rfl (Row.made _ 9 1 #[] 0 rfl (by simp)) ad n cap xs rfl hl (HC.out _) hx (by unfold maxLen; omega) (by omega) ?_; intro v2 w2 hown2 hg2 hl2 _))
  go_ret
  refine ⟨_, rfl, by simpa using hown2, ?_, ((Turned.refl (fun _ => False) w).alloc (.cells #[] 9)).step hg2 ?_⟩
  · intro k hk
    change v2.ownBlock = some k at hk
    rcases hl2 with e | e
    · rw [hk] at e; simp [Value.ownBlock, Act.eval] at e; omega
    · rw [hk] at e; simp at e; omega
  · intro k hk1 hk
    simp [Value.ownBlock, Act.eval] at hk
    omega

set_option maxHeartbeats 400000 in
theorem cloneS_nil (w : World) :
    Calls Try.prog 39 #[.slice none 0 0] w fun e w' => e = .returned (.slice none 0 0) ∧ w = w' := by
  have hnil := fun (w : World) (a : Option Addr) (n c : Nat) => Lib.run_eql_slice_nil (P := Try.prog) w 31 9 a n c 0 0 Try.underlying31
  go_enter Try.func39, Try.ntmps39
  go_wp2
  go_ret
  exact ⟨rfl, rfl⟩

theorem cloneS {w : World} {lv : Value} {n : Nat} {xs : List Value} (h : Row w 9 1 lv n xs) (hx : ∀ x ∈ xs, x.oneCell' = true) (hn : n ≤ 65536) :
    Calls Try.prog 39 #[lv] w fun e w' => ∃ v, e = .returned v ∧ Row w' 9 1 v n xs ∧ (∀ k, v.ownBlock = some k → w.heap.size ≤ k) ∧ Turned (fun _ => False) w w' := by
  rcases h.2 with ⟨rfl, rfl⟩ | ⟨g, cap, cur, rfl, _⟩
  · have : xs = [] := List.eq_nil_of_length_eq_zero (by simpa using h.1)
    subst this
    exact (cloneS_nil w).mono fun e w' ⟨he, hw⟩ => hw ▸ ⟨_, he, Row.nil _ _ _, by simp [Value.ownBlock], Turned.refl _ _⟩
  · refine cloneS_some h.1 (fun j u hu => ?_) hx hn
    rw [Addr.add_lit, Nat.zero_add]; exact h.cells rfl j u hu

theorem strs_one (l : List ByteArray) : ∀ x ∈ l.flatMap (fun s => [Value.string s]), x.oneCell' = true := by
  rw [flat_str]; intro x hx; obtain ⟨_, _, rfl⟩ := List.mem_map.1 hx; rfl

set_option maxHeartbeats 400000 in
theorem allS {w : World} {B tb mb room : Nat} {lv : Value} {l : List ByteArray} (h : TabS w B tb mb room lv l) :
    Calls Try.prog 18 #[.pointer (some ⟨tb, 0, none⟩)] w fun e w' => ∃ v, e = .returned v ∧ (∀ k, v.ownBlock = some k → w.heap.size ≤ k) ∧ Row w' 9 1 v l.length (l.map Value.string) ∧ Turned (fun _ => False) w w' := by
  have c1 := h.cell1
  have hr := h.room2
  have hl := h.len
  have hcl := cloneS h.row (strs_one l) (by omega)
  rw [flat_str] at hcl
  clear h
  have HC := Lib.hid hcl
  clear hcl
  go_enter Try.func18, Try.ntmps18
  go_wp2_with (go_at_call 39; refine HC.out.mono ?_; rintro e w' ⟨v, rfl, hv, hl, ht⟩)
  go_ret
  exact ⟨_, rfl, hl, hv, ht⟩
end Go.Proofs.Ytifideminojgjaa
