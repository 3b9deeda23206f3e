/- Lemmas for the statements of tables: what a table in memory is, what its calls do to it. -/
import Derived.Test.YtifideminojgjaaBase
import Derived.Test.YtifideminojgjaaProg
namespace Go.Proofs.Ytifideminojgjaa
set_option linter.unusedVariables false
set_option linter.unusedSimpArgs false
open Go.RowKit

/-- A map's datum stands for a list of keys without repeats: each key is there just if it is on the list, with its place. -/
structure Rep {K : Type} (kl : K → Lit) (D : DataW Unit) (l : List K) : Prop where
  tidy : Maps.Tidy D
  size : Maps.size D = l.length
  nodup : l.Nodup
  yes : ∀ (i : Nat) (s : K), l[i]? = some s → Maps.has D (kl s) = true ∧ D.atKey (kl s) (.lit (.int .i64 0)) = .lit (.int .i64 i)
  no : ∀ (s : K), s ∉ l → Maps.has D (kl s) = false

theorem Rep.nil {K : Type} (kl : K → Lit) : Rep kl (.map []) ([] : List K) :=
  ⟨⟨[], rfl, List.Pairwise.nil⟩, rfl, List.nodup_nil, fun i s h => by simp at h, fun s _ => rfl⟩

theorem Rep.snoc {K : Type} {kl : K → Lit} (hk : ∀ s, WideAt.IsKeyLit (kl s)) (hinj : ∀ a b, kl a = kl b → a = b) {D : DataW Unit} {l : List K} (h : Rep kl D l) {s : K} (hs : s ∉ l) :
    Rep kl (D.put (kl s) (.lit (.int .i64 l.length))) (l ++ [s]) := by
  refine ⟨h.tidy.put (hk _) _, by rw [Maps.size_put h.tidy, h.no s hs]; simp [h.size], ?_, ?_, ?_⟩
  · rw [List.nodup_append]
    exact ⟨h.nodup, by simp, fun a ha b hb => by simp at hb; subst hb; exact fun e => hs (e ▸ ha)⟩
  · intro i t hi
    by_cases e : i < l.length
    · rw [List.getElem?_append_left e] at hi
      have hne : kl t ≠ kl s := fun e' => hs (by rw [← hinj _ _ e']; exact List.mem_of_getElem? hi)
      rw [Maps.has_put_other hne, Maps.atKey_put_other hne]
      exact h.yes i t hi
    · have hlt := (List.getElem?_eq_some_iff.1 hi).1
      simp at hlt
      have : i = l.length := by omega
      subst this
      simp at hi
      subst hi
      exact ⟨Maps.has_put_same h.tidy.isMap (hk _) _, Maps.atKey_put_same h.tidy.isMap (hk _) _ _⟩
  · intro t ht
    simp at ht
    have hne : kl t ≠ kl s := fun e' => ht.2 (hinj _ _ e')
    rw [Maps.has_put_other hne]
    exact h.no t ht.1

theorem Rep.cut {K : Type} {kl : K → Lit} {D : DataW Unit} {l : List K} {s : K} (h : Rep kl D (l ++ [s])) (hinj : ∀ a b, kl a = kl b → a = b) : Rep kl (D.del (kl s)) l := by
  have hnd := h.nodup
  rw [List.nodup_append] at hnd
  have hs : s ∉ l := fun hm => hnd.2.2 s hm s (by simp) rfl
  have hy := (h.yes l.length s (by simp)).1
  have hsz := Maps.size_del (k := kl s) h.tidy
  rw [hy, h.size] at hsz
  simp at hsz
  refine ⟨h.tidy.del _, hsz, hnd.1, ?_, ?_⟩
  · intro i t hi
    have hlt := (List.getElem?_eq_some_iff.1 hi).1
    have hne : kl t ≠ kl s := fun e' => hs (by rw [← hinj _ _ e']; exact List.mem_of_getElem? hi)
    rw [Maps.has_del_other hne, Maps.atKey_del_other hne]
    exact h.yes i t (by rw [List.getElem?_append_left hlt]; exact hi)
  · intro t ht
    by_cases e : kl t = kl s
    · rw [e]; exact Maps.has_del_same
    · rw [Maps.has_del_other e]
      exact h.no t (by simp; exact ⟨ht, fun e' => e (by rw [e'])⟩)

def kS (s : ByteArray) : Lit := .string s.data.toList
theorem kS_key (s : ByteArray) : WideAt.IsKeyLit (kS s) := trivial
theorem kS_inj (a b : ByteArray) (h : kS a = kS b) : a = b := by
  unfold kS at h
  injection h with h
  cases a; cases b
  congr 1
  exact Array.toList_inj.1 h

/-- The bound of an owned map may be taken to be its size. -/
theorem ownsMap_tight {P : Program} {k : TypeId} {R : Value → Option (DataW Unit × List MemPlace)} {w : World} {b n : Nat} {D : DataW Unit} (h : w.ownsMap P k R b n D) : w.ownsMap P k R b (Maps.size D) D := by
  obtain ⟨es, clock, hb, F, hs, rfl⟩ := h
  exact ⟨es, clock, hb, F, by simp [Maps.size, length_sorted], rfl⟩

/-- A table in memory: its struct in block tb (type tt), its map in block mb, its keys (of type kt, size cells each) in the row of lv. -/
structure Tab {K : Type} (P : Program) (kt tt size : TypeId) (enc : K → List Value) (kl : K → Lit) (w : World) (B tb mb room : Nat) (lv : Value) (l : List K) : Prop where
  base : B ≤ tb
  baseM : B ≤ mb
  baseR : ∀ k, lv.ownBlock = some k → B ≤ k
  blk : w.heap[tb]? = some (.cells #[.int .i64 room, lv, .map (some mb)] tt (0, 0))
  row : Row w kt size lv l.length (l.flatMap enc)
  maps : ∃ D, w.ownsMap P kt (plainElem P 3) mb l.length D ∧ Rep kl D l
  apart : lv.ownBlock ≠ some tb
  room1 : 1 ≤ room
  room2 : room ≤ 65536
  len : l.length ≤ room

section
variable {K : Type} {P : Program} {kt tt size : TypeId} {enc : K → List Value} {kl : K → Lit} {w : World} {B tb mb room : Nat} {lv : Value} {l : List K}
theorem Tab.cell0 (h : Tab P kt tt size enc kl w B tb mb room lv l) : w.cell? ⟨tb, 0, none⟩ = some (.int .i64 room) := by rw [cell_of_row w tb 0 _ tt (0, 0) h.blk]; rfl
theorem Tab.cell1 (h : Tab P kt tt size enc kl w B tb mb room lv l) : w.cell? ⟨tb, 1, none⟩ = some lv := by rw [cell_of_row w tb 1 _ tt (0, 0) h.blk]; rfl
theorem Tab.cell2 (h : Tab P kt tt size enc kl w B tb mb room lv l) : w.cell? ⟨tb, 2, none⟩ = some (.map (some mb)) := by rw [cell_of_row w tb 2 _ tt (0, 0) h.blk]; rfl
theorem Tab.neM (h : Tab P kt tt size enc kl w B tb mb room lv l) : tb ≠ mb := by
  obtain ⟨D, ⟨es, clock, hb, _⟩, _⟩ := h.maps
  intro e; subst e; rw [h.blk] at hb; cases hb
theorem Tab.rowM (h : Tab P kt tt size enc kl w B tb mb room lv l) : lv.ownBlock ≠ some mb := by
  obtain ⟨D, ⟨es, clock, hb, _⟩, _⟩ := h.maps
  rcases h.row.2 with ⟨rfl, _⟩ | ⟨g, cap, cur, rfl, hg, _⟩
  · simp [Value.ownBlock]
  · simp [Value.ownBlock]; intro e; subst e; rw [hg] at hb; cases hb
/-- The table's own blocks. -/
def Mine (tb mb : Nat) (lv : Value) (k : Nat) : Prop := k = tb ∨ k = mb ∨ lv.ownBlock = some k
theorem Tab.turned {S : Nat → Prop} {w' : World} (h : Tab P kt tt size enc kl w B tb mb room lv l) (ht : Turned S w w') (hS : ∀ k, S k → ¬ Mine tb mb lv k) : Tab P kt tt size enc kl w' B tb mb room lv l := by
  have hb : ∀ k, k < w.heap.size → Mine tb mb lv k → w'.heap[k]? = w.heap[k]? := fun k hk hm => ht.block k hk (fun s => hS k s hm)
  have ltb := (Array.getElem?_eq_some_iff.1 h.blk).1
  refine ⟨h.base, h.baseM, h.baseR, (hb tb ltb (.inl rfl)).trans h.blk, h.row.turned ht (fun k e s => hS k s (.inr (.inr e))), ?_, h.apart, h.room1, h.room2, h.len⟩
  obtain ⟨D, ⟨es, clock, hm, r⟩, hr⟩ := h.maps
  exact ⟨D, ⟨es, clock, (hb mb (Array.getElem?_eq_some_iff.1 hm).1 (.inr (.inl rfl))).trans hm, r⟩, hr⟩
/-- What the table's struct and row are behind a turn of its map. -/
theorem Tab.behindMap {w1 : World} (h : Tab P kt tt size enc kl w B tb mb room lv l) (ht : Turned (· = mb) w w1) :
    w1.heap[tb]? = some (.cells #[.int .i64 room, lv, .map (some mb)] tt (0, 0)) ∧ Row w1 kt size lv l.length (l.flatMap enc) ∧ w.heap.size ≤ w1.heap.size ∧ tb < w.heap.size ∧ mb < w.heap.size := by
  have ltb := (Array.getElem?_eq_some_iff.1 h.blk).1
  obtain ⟨D, ho, _⟩ := h.maps
  exact ⟨(ht.block tb ltb h.neM).trans h.blk, h.row.turned ht (fun k e s => h.rowM (by rw [e, s])), ht.size, ltb, ho.lt⟩
theorem rec_cells {w : World} {tb : Nat} {r : Int} {lv m : Value} {tt : TypeId} (h : w.heap[tb]? = some (.cells #[.int .i64 r, lv, m] tt (0, 0))) :
    w.cell? ⟨tb, 0, none⟩ = some (.int .i64 r) ∧ w.cell? ⟨tb, 1, none⟩ = some lv ∧ w.cell? ⟨tb, 2, none⟩ = some m ∧ w.frozen? ⟨tb, 1, none⟩ = false :=
  ⟨by rw [cell_of_row w tb 0 _ tt (0, 0) h]; rfl, by rw [cell_of_row w tb 1 _ tt (0, 0) h]; rfl, by rw [cell_of_row w tb 2 _ tt (0, 0) h]; rfl, frozen_of_row w tb 1 _ tt h⟩
theorem rec_set {w : World} {tb : Nat} {r : Int} {lv m : Value} {tt : TypeId} (h : w.heap[tb]? = some (.cells #[.int .i64 r, lv, m] tt (0, 0))) (u : Value) :
    (w.setCell ⟨tb, 1, none⟩ u).heap[tb]? = some (.cells #[.int .i64 r, u, m] tt (0, 0)) := by
  have hlt := (Array.getElem?_eq_some_iff.1 h).1
  have h' : w.heap[tb] = .cells #[.int .i64 r, lv, m] tt (0, 0) := (Array.getElem?_eq_some_iff.1 h).2
  simp only [World.setCell, Array.getElem?_modify]
  simp [h]
theorem Tab.turned0 {w' : World} (h : Tab P kt tt size enc kl w B tb mb room lv l) (ht : Turned (fun _ => False) w w') : Tab P kt tt size enc kl w' B tb mb room lv l := h.turned ht (fun _ x => False.elim x)
end
/-- The table's struct and map behind the append onto its row. -/
theorem append_kept {K : Type} {P : Program} {kt tt size : TypeId} {enc : K → List Value} {kl : K → Lit} {w w1 w2 : World} {B tb mb room m : Nat} {lv : Value} {l : List K} {D : DataW Unit} (h : Tab P kt tt size enc kl w B tb mb room lv l)
    (blk1 : w1.heap[tb]? = some (.cells #[.int .i64 room, lv, .map (some mb)] tt (0, 0))) (hown1 : w1.ownsMap P kt (plainElem P 3) mb m D)
    (T2 : Turned (fun k => lv.ownBlock = some k) w1 w2) (ltb : tb < w.heap.size) (sz1 : w.heap.size ≤ w1.heap.size) :
    w2.heap[tb]? = some (.cells #[.int .i64 room, lv, .map (some mb)] tt (0, 0)) ∧ w2.ownsMap P kt (plainElem P 3) mb m D ∧ w1.heap.size ≤ w2.heap.size := by
  refine ⟨(T2.block tb (by omega) (fun e => h.apart e)).trans blk1, ?_, T2.size⟩
  have hlt := hown1.lt
  obtain ⟨es, clock, hm, r⟩ := hown1
  exact ⟨es, clock, (T2.block mb hlt (fun e => h.rowM e)).trans hm, r⟩

theorem put_close {K : Type} {P : Program} {kt tt size : TypeId} {enc : K → List Value} {kl : K → Lit} {w w1 w2 : World} {B tb mb room g2 cap2 : Nat} {lv : Value} {l : List K} {s : K} {D : DataW Unit} (h : Tab P kt tt size enc kl w B tb mb room lv l)
    (hroom : l.length < room) (hRep : Rep kl D (l ++ [s])) (hB : B ≤ w.heap.size)
    (T1 : Turned (· = mb) w w1) (T2 : Turned (fun k => lv.ownBlock = some k) w1 w2)
    (blk2 : w2.heap[tb]? = some (.cells #[.int .i64 room, lv, .map (some mb)] tt (0, 0))) (map2 : w2.ownsMap P kt (plainElem P 3) mb (l.length + 1) D)
    (hown2 : Row w2 kt size (.slice (some ⟨g2, 0, none⟩) (l.length + 1) cap2) (l.length + 1) (l.flatMap enc ++ enc s))
    (hloc : some g2 = lv.ownBlock ∨ g2 = w1.heap.size + 1) :
    ∃ lv', lv' = .slice (some ⟨g2, 0, none⟩) (l.length + 1) cap2 ∧ Tab P kt tt size enc kl (w2.setCell ⟨tb, 1, none⟩ lv') B tb mb room lv' (l ++ [s]) ∧ Turned (Mine tb mb lv) w (w2.setCell ⟨tb, 1, none⟩ lv') ∧
      (lv'.ownBlock = lv.ownBlock ∨ ∃ g, lv'.ownBlock = some g ∧ w.heap.size ≤ g) := by
  have ltb := (Array.getElem?_eq_some_iff.1 h.blk).1
  have s1 := T1.size
  have hgt : g2 ≠ tb := by
    rcases hloc with e | e
    · intro e'; exact h.apart (by rw [← e, e'])
    · omega
  refine ⟨_, rfl, ⟨h.base, h.baseM, ?_, rec_set blk2 _, ?_, ⟨D, ?_, hRep⟩, ?_, h.room1, h.room2, by simp; omega⟩, ?_, ?_⟩
  · intro k hk
    have : g2 = k := by simpa [Value.ownBlock] using hk
    rcases hloc with e | e
    · exact h.baseR k (by rw [← e, this])
    · omega
  · have hr := hown2.setCell (p := ⟨tb, 1, none⟩) (by simp [Value.ownBlock]; exact hgt) (.slice (some ⟨g2, 0, none⟩) (l.length + 1) cap2)
    simpa using hr
  · have := map2.setCell (a := ⟨tb, 1, none⟩) (Ne.symm h.neM) (.slice (some ⟨g2, 0, none⟩) (l.length + 1) cap2)
    simpa using this
  · simp [Value.ownBlock]; exact hgt
  · refine Turned.setCell ?_ (.inr (.inl rfl)) _
    exact (T1.mono (fun i _ e => .inr (.inl e))).step T2 (fun i hi e => .inr (.inr e))
  · rcases hloc with e | e
    · exact .inl (by rw [← e]; rfl)
    · exact .inr ⟨g2, rfl, by omega⟩


/-- A look-up with 'ok', the run. -/
theorem look_run {P : Program} {t k : TypeId} {w : World} {b n : Nat} {D : DataW Unit} (h : w.ownsMap P k (plainElem P 3) b n D) (K : Maps.Keyed P k) (ht : P.underlying t = some (.map k 3)) (h3 : P.underlying 3 = some (.int .i64))
    (hz : (zeroValue 3).run P w = .ok (.int .i64 0) w) {key : Value} {kl : Lit} (hkey : keyOf P k key = some kl) {i : Nat} {c : Bool} (hc : Maps.has D kl = c) (ha : D.atKey kl (.lit (.int .i64 0)) = .lit (.int .i64 i)) :
    (Instr.lookup t (.map (some b)) key true).run P w = .ok (.tuple #[.int .i64 i, .bool c]) w := by
  obtain ⟨v, ps, hrun, hv⟩ := h.look_ok K ht hz (plainElem_int h3 (by decide)) hkey
  rw [ha] at hv
  obtain ⟨c', rfl, hc', _⟩ := plainElem_int_inv h3 hv
  have := congrArg Prod.fst hc'
  injection this with this; injection this with _ this
  rw [hrun, hc, this]
end Go.Proofs.Ytifideminojgjaa
