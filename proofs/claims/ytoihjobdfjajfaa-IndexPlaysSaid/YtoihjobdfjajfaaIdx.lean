/- Index: New, Add, Drop, Pick on what lies in memory. -/
import Derived.Test.YtoihjobdfjajfaaPick
import Derived.Test.YtoihjobdfjajfaaVars
import Derived.Deep.RegionLaw
namespace Go.Proofs.Ytoihjobdfjajfaa
set_option linter.unusedVariables false
set_option linter.unusedSimpArgs false
open Go.RowKit Go.Maps
attribute [local go_sem ↓] Go.wp_at_zero Go.wp_at_succ

theorem law3 : Keyed Try.prog 3 := int_keyed Try.underlying3
theorem key3 {n : Int} (h : I64 n) : Go.keyOf Try.prog 3 (.int .i64 n) = some (kI n) := keyOf_int_mk Try.underlying3 h.wf
theorem infoK : (Try.prog.info? 35).map (fun i => (i.zero, i.size, i.bytes)) = some (some (.agg #[.int .i64 0, .int .i64 0, .string ByteArray.empty, .int .i64 0]), 4, 40) := by kernel_rfl
def zeroK : Value := .agg #[.int .i64 0, .int .i64 0, .string ByteArray.empty, .int .i64 0]

/-- An index in memory: its struct in block xb, its map in block mb, its keys in the row of v; 'gone': which places were let go. -/
structure IdxIn (xb mb : Nat) (v : Value) (ks : List Key) (gone : List Int) (w : World) : Prop where
  blk : w.heap[xb]? = some (.cells #[v, .map (some mb)] 147 (0, 0))
  row : Row w 35 4 v ks.length (ks.flatMap Key.cells)
  map : IMap Try.prog 3 w mb gone.length (inSet gone)
  apart : v.ownBlock ≠ some xb
def MineX (xb mb : Nat) (v : Value) (k : Nat) : Prop := k = xb ∨ k = mb ∨ v.ownBlock = some k
section
variable {xb mb : Nat} {v : Value} {ks : List Key} {gone : List Int} {w w' : World}
theorem IdxIn.ne (h : IdxIn xb mb v ks gone w) : mb ≠ xb ∧ v.ownBlock ≠ some mb := by
  obtain ⟨D, ⟨es, clock, hb, _⟩, _⟩ := h.map
  refine ⟨fun e => ?_, fun e => ?_⟩
  · subst e; rw [h.blk] at hb; cases hb
  · rcases h.row.2 with ⟨rfl, _⟩ | ⟨g, cap, cur, rfl, hg, _⟩
    · simp [Value.ownBlock] at e
    · simp [Value.ownBlock] at e; subst e; rw [hg] at hb; cases hb
theorem IdxIn.lt (h : IdxIn xb mb v ks gone w) : ∀ k, MineX xb mb v k → k < w.heap.size := by
  rintro k (rfl | rfl | hk)
  · exact (Array.getElem?_eq_some_iff.1 h.blk).1
  · exact h.map.lt
  · exact h.row.lt k hk
theorem IdxIn.turned {S : Nat → Prop} (h : IdxIn xb mb v ks gone w) (ht : Turned S w w') (hS : ∀ k, k < w.heap.size → S k → ¬ MineX xb mb v k) : IdxIn xb mb v ks gone w' :=
  ⟨(ht.block xb (h.lt xb (.inl rfl)) (fun s => hS _ (h.lt xb (.inl rfl)) s (.inl rfl))).trans h.blk, h.row.turned ht (fun k e s => hS k (h.lt k (.inr (.inr e))) s (.inr (.inr e))),
    h.map.turned ht (fun s => hS _ (h.lt mb (.inr (.inl rfl))) s (.inr (.inl rfl))), h.apart⟩
theorem IdxIn.turned0 (h : IdxIn xb mb v ks gone w) (ht : Turned (fun _ => False) w w') : IdxIn xb mb v ks gone w' := h.turned ht (fun _ _ f => False.elim f)
theorem cells2 {g : Nat} {a b : Value} {T : TypeId} (h : w.heap[g]? = some (.cells #[a, b] T (0, 0))) : w.cell? ⟨g, 0, none⟩ = some a ∧ w.cell? ⟨g, 1, none⟩ = some b ∧ w.frozen? ⟨g, 0, none⟩ = false :=
  ⟨cell_of_row w g 0 _ T (0, 0) h, cell_of_row w g 1 _ T (0, 0) h, frozen_of_row w g 0 _ T h⟩
end

set_option maxHeartbeats 400000 in
theorem new53 (w : World) : Calls Try.prog 53 #[] w fun e w' => e = .returned (.pointer (some ⟨w.heap.size + 1, 0, none⟩)) ∧ IdxIn (w.heap.size + 1) w.heap.size (.slice none 0 0) [] [] w' ∧ Turned (fun _ => False) w w' := by
  have hmm := @run_makeMap Try.prog
  go_enter Try.func53, Try.ntmps53
  go_wp2
  go_ret
  refine ⟨rfl, ⟨?_, Row.nil _ _ _, ?_, by simp [Value.ownBlock]⟩, ((Turned.refl _ _).alloc _).alloc _⟩
  · have := heap_alloc_new (w.alloc (.map #[] 0)) (.cells #[.slice none 0 0, .map (some w.heap.size)] 147)
    simpa using this
  · have := (IMap.made w Try.prog 3).alloc (.cells #[.slice none 0 0, .map (some w.heap.size)] 147)
    have e : inSet [] = fun _ => none := by funext i; simp [inSet]
    rw [e]
    exact this

theorem Key.cells_one (k : Key) : ∀ u ∈ k.cells, u.oneCell' = true := by
  intro u hu
  simp only [Key.cells, List.mem_cons, List.not_mem_nil, or_false] at hu
  rcases hu with rfl | rfl | rfl | rfl <;> rfl

theorem cell2_set {w : World} {g : Nat} {a b u : Value} {T : TypeId} (h : w.heap[g]? = some (.cells #[a, b] T (0, 0))) : (w.setCell ⟨g, 0, none⟩ u).heap[g]? = some (.cells #[u, b] T (0, 0)) := by
  have := heap_setCell_same w g 0 _ T u h
  simpa using this
theorem idx_close {xb mb : Nat} {v : Value} {ks : List Key} {gone : List Int} {k : Key} {w w1 w2 : World} {o1 : Obj} {g2 cap2 : Nat} (h : IdxIn xb mb v ks gone w) (T1 : Turned (fun _ => False) w w1) (h1 : IdxIn xb mb v ks gone w1)
    (hrow : Row w2 35 4 (.slice (some ⟨g2, 0, none⟩) (ks.length + 1) cap2) (ks.length + 1) (ks.flatMap Key.cells ++ k.cells)) (T2 : Turned (fun j => v.ownBlock = some j) (w1.drew.alloc o1) w2) (hloc : some g2 = v.ownBlock ∨ g2 = (w1.drew.alloc o1).heap.size)
    (hb2 : w2.heap[xb]? = some (.cells #[v, .map (some mb)] 147 (0, 0))) :
    IdxIn xb mb (.slice (some ⟨g2, 0, none⟩) (ks.length + 1) cap2) (ks ++ [k]) gone (w2.setCell ⟨xb, 0, none⟩ (.slice (some ⟨g2, 0, none⟩) (ks.length + 1) cap2)) ∧
      Turned (MineX xb mb v) w (w2.setCell ⟨xb, 0, none⟩ (.slice (some ⟨g2, 0, none⟩) (ks.length + 1) cap2)) ∧
      ((Value.slice (some ⟨g2, 0, none⟩) (ks.length + 1) cap2).ownBlock = v.ownBlock ∨ ∃ g, (Value.slice (some ⟨g2, 0, none⟩) (ks.length + 1) cap2).ownBlock = some g ∧ w.heap.size ≤ g) := by
  have hs0 := T1.size
  have hs2 : (w1.drew.alloc o1).heap.size = w1.heap.size + 1 := by simp
  have hs3 := T2.size
  have lxb := h.lt xb (.inl rfl)
  have lmb := h.lt mb (.inr (.inl rfl))
  have hg : g2 ≠ xb := by
    rcases hloc with e | e
    · exact fun e' => h.apart (by rw [← e, e'])
    · omega
  have T1a : Turned (fun _ => False) w1 (w1.drew.alloc o1) := (Turned.refl _ w1).drew.alloc o1
  refine ⟨⟨cell2_set hb2, ?_, ?_, ?_⟩, ?_, ?_⟩
  · rw [List.length_append, List.length_singleton, List.flatMap_append, List.flatMap_cons, List.flatMap_nil, List.append_nil]
    exact hrow.setCell (by simp [Value.ownBlock]; exact hg) _
  · have h2 := (h1.map.turned T1a (fun f => f)).turned T2 (fun e => h1.ne.2 e)
    exact h2.turned ((Turned.refl (· = xb) w2).setCell (.inr rfl) _) (fun e => h1.ne.1 e)
  · simp [Value.ownBlock]; exact hg
  · refine Turned.setCell ?_ (.inr (.inl rfl)) _
    exact ((T1.trans T1a).mono (fun _ _ f => False.elim f)).step T2 (fun i hi e => .inr (.inr e))
  · rcases hloc with e | e
    · exact .inl e
    · exact .inr ⟨g2, rfl, by omega⟩

set_option maxRecDepth 100000 in
set_option maxHeartbeats 1600000 in
theorem add54 {xb mb : Nat} {v : Value} {ks : List Key} {gone : List Int} {w : World} (h : IdxIn xb mb v ks gone w) (k : Key) (hn : ks.length ≤ 60000) :
    Calls Try.prog 54 #[.pointer (some ⟨xb, 0, none⟩), k.val] w fun e w' => e = .returned (.int .i64 ks.length) ∧ ∃ v', IdxIn xb mb v' (ks ++ [k]) gone w' ∧ Turned (MineX xb mb v) w w' ∧ (v'.ownBlock = v.ownBlock ∨ ∃ g, v'.ownBlock = some g ∧ w.heap.size ≤ g) := by
  obtain ⟨a, cap, rfl⟩ := h.row.shape
  obtain ⟨i0, hi0, hz0, hz1, hz2⟩ := info_parts infoK
  have T1 := (Turned.refl (fun _ => False) w).alloc (.cells #[.int .i64 k.kind, .int .i64 k.n, .string k.name, .int .i64 k.arity] 35)
  have h1 := h.turned0 T1
  obtain ⟨c0, c1, f0⟩ := cells2 h1.blk
  have hbx := boxed w #[.int .i64 k.kind, .int .i64 k.n, .string k.name, .int .i64 k.arity] 35
  have b0 := hbx 0
  have b1 := hbx 1
  have b2 := hbx 2
  have b3 := hbx 3
  replace b0 : (w.alloc (.cells #[.int .i64 k.kind, .int .i64 k.n, .string k.name, .int .i64 k.arity] 35)).cell? ⟨w.heap.size, 0, none⟩ = some (.int .i64 k.kind) := b0
  replace b1 : (w.alloc (.cells #[.int .i64 k.kind, .int .i64 k.n, .string k.name, .int .i64 k.arity] 35)).cell? ⟨w.heap.size, 1, none⟩ = some (.int .i64 k.n) := b1
  replace b2 : (w.alloc (.cells #[.int .i64 k.kind, .int .i64 k.n, .string k.name, .int .i64 k.arity] 35)).cell? ⟨w.heap.size, 2, none⟩ = some (.string k.name) := b2
  replace b3 : (w.alloc (.cells #[.int .i64 k.kind, .int .i64 k.n, .string k.name, .int .i64 k.arity] 35)).cell? ⟨w.heap.size, 3, none⟩ = some (.int .i64 k.arity) := b3
  have hlx := h.lt xb (.inl rfl)
  have H := Lib.hid h
  have H1 := Lib.hid h1
  unfold Key.val
  clear h h1 hbx
  have B := Lib.hid (And.intro T1 (And.intro H1 (And.intro c0 (And.intro c1 (And.intro f0 (And.intro b0 (And.intro b1 (And.intro b2 b3))))))))
  clear T1 H1 c0 c1 f0 b0 b1 b2 b3
  go_enter Try.func54, Try.ntmps54
  go_wp2_with fail
  obtain ⟨T1, H1, c0, c1, f0, b0, b1, b2, b3⟩ := B.out
  clear B
  revert T1 H1 c0 c1 f0 b0 b1 b2 b3
  have hsz : (w.alloc (.cells #[.int .i64 k.kind, .int .i64 k.n, .string k.name, .int .i64 k.arity] 35)).heap.size = w.heap.size + 1 := by simp
  revert hsz
  generalize w.alloc (.cells #[.int .i64 k.kind, .int .i64 k.n, .string k.name, .int .i64 k.arity] 35) = w1
  intro hsz T1 H1 c0 c1 f0 b0 b1 b2 b3
  have HSZ := Lib.hid hsz
  clear hsz
  have hst : ∀ o W, Turned (fun j => (Value.slice a ks.length cap).ownBlock = some j) (w1.drew.alloc o) W → W.heap[xb]? = some (.cells #[.slice a ks.length cap, .map (some mb)] 147 (0, 0)) := fun o W hW => by
    have hl := H1.out.lt xb (.inl rfl)
    exact (hW.block xb (by simp; omega) (fun e => H1.out.apart e)).trans ((Below.heap_alloc _ _ _ (by simpa using hl)).trans H1.out.blk)
  have HST := Lib.hid hst
  have hlx1 := H1.out.lt xb (.inl rfl)
  clear hst
  go_region_law ((refine step_append_some _ rfl _ _ 55 rfl 35 i0 zeroK 4 40 Try.underlying55 hi0 hz0 hz1 hz2 rfl (by decide) (.slice a ks.length cap) ks.length (ks.flatMap Key.cells) rfl ((H1.out.row.turned0 (Turned.refl _ w1).drew).alloc _) ⟨w1.heap.size, 0, none⟩ 1 1 k.cells rfl rfl (World.news_of_block (heap_alloc_new w1.drew _)) (Key.cells_one k) (by omega) (by unfold maxLen; omega) (by omega) ?_; intro g2 cap2 w2 hrow2 T2 hloc2; have hb2 := HST.out _ w2 T2; obtain ⟨e0, e1, e2⟩ := cells2 hb2; have HB2 := Lib.hid hb2; clear hb2))
  all_goals
    go_wp2_with fail
    go_ret
    obtain ⟨r1, r2, r3⟩ := idx_close (k := k) H.out T1 H1.out hrow2 T2 hloc2 HB2.out
    exact ⟨rfl, _, r1, r2, r3⟩
end Go.Proofs.Ytoihjobdfjajfaa
