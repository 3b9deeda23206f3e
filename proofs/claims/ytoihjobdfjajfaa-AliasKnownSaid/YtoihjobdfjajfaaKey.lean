/- Keys of heads: Of, May. -/
import Derived.Test.YtoihjobdfjajfaaTV2
import Derived.Laws.StructEq
namespace Go.Proofs.Ytoihjobdfjajfaa
set_option linter.unusedVariables false
set_option linter.unusedSimpArgs false
open Go.RowKit

structure Key where
  kind : Int
  n : Int
  name : ByteArray
  arity : Int
  deriving DecidableEq
def Key.val (k : Key) : Value := .agg #[.int .i64 k.kind, .int .i64 k.n, .string k.name, .int .i64 k.arity]
def Key.zero : Key := ⟨0, 0, ByteArray.empty, 0⟩
/-- The key of a term's first arg. -/
def keyOf1 {α : Type} (x : Tm α) : Key := if x.kind = 0 then Key.zero else if x.kind = 1 then ⟨1, x.n, ByteArray.empty, 0⟩ else ⟨x.kind, 0, x.name, x.args.length⟩
def keyOf {α : Type} (t : Tm α) : Key := match t.args with
  | [] => Key.zero
  | x :: _ => if goodB t then keyOf1 x else Key.zero

theorem keyOf_nil {α : Type} {t : Tm α} (h : t.args = []) : keyOf t = Key.zero := by unfold keyOf; rw [h]
theorem keyOf_cons {α : Type} {t x : Tm α} {r : List (Tm α)} (h : t.args = x :: r) (g : goodB t = true) : keyOf t = keyOf1 x := by unfold keyOf; rw [h]; exact if_pos g
theorem keyOf_bad {α : Type} {t : Tm α} (g : goodB t = false) : keyOf t = Key.zero := by
  unfold keyOf
  generalize t.args = l
  cases l with
  | nil => rfl
  | cons x r => exact if_neg (by rw [g]; decide)
theorem keyOf1_0 {α : Type} {x : Tm α} (h : x.kind = 0) : keyOf1 x = Key.zero := if_pos h
theorem keyOf1_1 {α : Type} {x : Tm α} (h : x.kind = 1) : keyOf1 x = ⟨1, x.n, ByteArray.empty, 0⟩ := by unfold keyOf1; rw [if_neg (by omega), if_pos h]
theorem keyOf1_2 {α : Type} {x : Tm α} (h0 : ¬ x.kind = 0) (h1 : ¬ x.kind = 1) : keyOf1 x = ⟨x.kind, 0, x.name, x.args.length⟩ := by unfold keyOf1; rw [if_neg h0, if_neg h1]
theorem set4v {w : World} {g : Nat} {a b c d a' b' c' d' : Value} {T : TypeId} (h : w.heap[g]? = some (.cells #[a, b, c, d] T (0, 0))) :
    ((((w.setCell ⟨g, 0, none⟩ a').setCell ⟨g, 1, none⟩ b').setCell ⟨g, 2, none⟩ c').setCell ⟨g, 3, none⟩ d').heap[g]? = some (.cells #[a', b', c', d'] T (0, 0)) := set4 h

theorem set4_alloc {w : World} {g : Nat} {a b c d a' b' c' d' : Value} {T : TypeId} {o : Obj} (h : w.heap[g]? = some (.cells #[a, b, c, d] T (0, 0))) :
    (((((w.setCell ⟨g, 0, none⟩ a').setCell ⟨g, 1, none⟩ b').setCell ⟨g, 2, none⟩ c').setCell ⟨g, 3, none⟩ d').alloc o).heap[g]? = some (.cells #[a', b', c', d'] T (0, 0)) := by
  have hl := (Array.getElem?_eq_some_iff.1 h).1
  exact (Below.heap_alloc _ _ _ (by simpa [World.setCell] using hl)).trans (set4 h)

set_option maxRecDepth 100000 in
set_option maxHeartbeats 1600000 in
theorem of42 {p : Nat → Prop} {t : LT} {w : World} (ht : t.In p w) (hs : slim t) :
    Calls Try.prog 42 #[t.val] w fun e w' => e = .returned (keyOf t).val ∧ Turned (fun _ => False) w w' := by
  have hlm := hs t (by rw [Tm.flat_eq]; exact List.mem_cons_self ..)
  obtain ⟨ad, had⟩ : ∃ a, a = t.at_.1 := ⟨_, rfl⟩
  have hlies := fun W (h : t.In p W) => h.lies
  rw [← had] at hlies
  obtain ⟨m, hm⟩ : ∃ m, m = t.args.length := ⟨_, rfl⟩
  obtain ⟨b1, hb1⟩ : ∃ bx : Obj, bx = .cells #[.int .i64 t.kind, .int .i64 t.n, .string t.name, .slice ad m t.at_.2] 27 := ⟨_, rfl⟩
  obtain ⟨b2, hb2⟩ : ∃ bx : Obj, bx = .cells #[.int .i64 0, .int .i64 0, .string ⟨#[]⟩, .int .i64 0] 35 := ⟨_, rfl⟩
  have T1 := ((Turned.refl (fun _ => False) w).alloc b1).alloc b2
  have hg := good38 (ht.turned0 T1) hs
  have hc : ∀ W, Turned (fun _ => False) ((w.alloc b1).alloc b2) W → W.heap[w.heap.size]? = some b1 ∧ W.heap[w.heap.size + 1]? = some b2 ∧ w.heap.size + 1 < W.heap.size := by
    intro W h
    have hs := h.size
    simp at hs
    exact ⟨(h.block _ (by simp; omega) (fun f => f)).trans (heap_alloc2_old w b1 b2), (h.block _ (by simp) (fun f => f)).trans (heap_alloc2_new w b1 b2), by omega⟩
  rw [LT.val_eq, ← had, ← hm] at hg ⊢
  subst hb1 hb2
  have HLI := Lib.hid hlies
  have hcap := ht.len
  have hca : m ≤ t.at_.2 := by rw [hm]; exact hcap.1
  have hcm : m ≤ 12 := by rw [hm]; exact hlm
  clear had hlies hcap hlm
  have HG := Lib.hid hg
  have HC := Lib.hid hc
  have HT := Lib.hid T1
  have HI := Lib.hid ht
  clear hg hc T1 ht hs
  by_cases g : goodB t = true
  · cases hargs : t.args with
    | nil =>
      have HK := Lib.hid (keyOf_nil hargs)
      have hm0 : m = 0 := by rw [hm, hargs]; rfl
      clear hargs hm
      subst hm0
      go_enter Try.func42, Try.ntmps42
      go_wp2_with (go_at_call 38; refine HG.out.mono ?_; rintro e w2 ⟨rfl, T2⟩; obtain ⟨h1, h2, hl⟩ := HC.out _ T2; obtain ⟨c0, c1, c2, c3, _⟩ := cells4 h1; obtain ⟨d0, d1, d2, d3, f0, f1, f2, f3⟩ := cells4 h2; have H1 := Lib.hid h1; have H2 := Lib.hid h2; clear h1 h2)
      refine bodyPost_ret (v := Key.zero.val) (results_cell_row Try.results42 _ _ (w.heap.size + 1) 35 _ (0, 0) _ rfl (set4 H2.out) Try.underlying35 rfl (by kernel_rfl)) rfl ⟨by rw [HK.out], turned4 (HT.out.trans T2) (by omega)⟩
    | cons x r =>
      have hal2 : 0 < m := by rw [hm, hargs]; simp
      have hal : ((m : Int) == 0) = false := by simp; omega
      have hx0 : t.args[0]? = some x := by rw [hargs]; rfl
      obtain ⟨b, o, rfl, _⟩ := HLI.out w HI.out (by rw [hargs]; simp)
      have hxc := fun W (h : Turned (fun _ => False) w W) => (HLI.out W (HI.out.turned0 h)).at hx0
      simp only [Nat.zero_mul, Nat.add_zero] at hxc
      have HX := Lib.hid hxc
      have HK := Lib.hid (keyOf_cons hargs g)
      clear hxc hargs hx0 hm
      by_cases h0 : x.kind = 0
      · have k0 : (x.kind == 0) = true := by simp [h0]
        have HK1 := Lib.hid (keyOf1_0 h0)
        clear h0
        go_enter Try.func42, Try.ntmps42
        go_wp2_with (go_at_call 38; refine HG.out.mono ?_; rintro e w2 ⟨rfl, T2⟩; obtain ⟨h1, h2, hl⟩ := HC.out _ T2; obtain ⟨c0, c1, c2, c3, _⟩ := cells4 h1; obtain ⟨d0, d1, d2, d3, f0, f1, f2, f3⟩ := cells4 h2; have H1 := Lib.hid h1; have H2 := Lib.hid h2; clear h1 h2; obtain ⟨x0, x1, x2, x3⟩ := HX.out _ (HT.out.trans T2))
        refine bodyPost_ret (v := Key.zero.val) (results_cell_row Try.results42 _ _ (w.heap.size + 1) 35 _ (0, 0) _ rfl (set4_alloc H2.out) Try.underlying35 rfl (by kernel_rfl)) rfl ⟨by rw [HK.out, HK1.out], (turned4 (HT.out.trans T2) (by omega)).alloc _⟩
      · have k0 : (x.kind == 0) = false := by simp [h0]
        by_cases h1 : x.kind = 1
        · have k1 : (x.kind == 1) = true := by simp [h1]
          have HK1 := Lib.hid (keyOf1_1 h1)
          have HE := Lib.hid h1
          clear h0 h1
          go_enter Try.func42, Try.ntmps42
          go_wp2_with (go_at_call 38; refine HG.out.mono ?_; rintro e w2 ⟨rfl, T2⟩; obtain ⟨h1, h2, hl⟩ := HC.out _ T2; obtain ⟨c0, c1, c2, c3, _⟩ := cells4 h1; obtain ⟨d0, d1, d2, d3, f0, f1, f2, f3⟩ := cells4 h2; have H1 := Lib.hid h1; have H2 := Lib.hid h2; clear h1 h2; obtain ⟨x0, x1, x2, x3⟩ := HX.out _ (HT.out.trans T2))
          refine bodyPost_ret (v := .agg #[.int .i64 x.kind, .int .i64 x.n, .string ⟨#[]⟩, .int .i64 0]) (results_cell_row Try.results42 _ _ (w.heap.size + 1) 35 _ (0, 0) _ rfl (set4_alloc H2.out) Try.underlying35 rfl (by kernel_rfl)) rfl ⟨by rw [HK.out, HK1.out]; unfold Key.val; rw [HE.out]; rfl, (turned4 (HT.out.trans T2) (by omega)).alloc _⟩
        · have k1 : (x.kind == 1) = false := by simp [h1]
          have HK1 := Lib.hid (keyOf1_2 h0 h1)
          clear h0 h1
          go_enter Try.func42, Try.ntmps42
          go_wp2_with (go_at_call 38; refine HG.out.mono ?_; rintro e w2 ⟨rfl, T2⟩; obtain ⟨h1, h2, hl⟩ := HC.out _ T2; obtain ⟨c0, c1, c2, c3, _⟩ := cells4 h1; obtain ⟨d0, d1, d2, d3, f0, f1, f2, f3⟩ := cells4 h2; have H1 := Lib.hid h1; have H2 := Lib.hid h2; clear h1 h2; obtain ⟨x0, x1, x2, x3⟩ := HX.out _ (HT.out.trans T2))
          refine bodyPost_ret (v := .agg #[.int .i64 x.kind, .int .i64 0, .string x.name, .int .i64 x.args.length]) (results_cell_row Try.results42 _ _ (w.heap.size + 1) 35 _ (0, 0) _ rfl (set4_alloc H2.out) Try.underlying35 rfl (by kernel_rfl)) rfl ⟨by rw [HK.out, HK1.out]; rfl, (turned4 (HT.out.trans T2) (by omega)).alloc _⟩
  · have g' : goodB t = false := by simpa using g
    have HK := Lib.hid (keyOf_bad g')
    clear g hm
    go_enter Try.func42, Try.ntmps42
    go_wp2_with (go_at_call 38; refine HG.out.mono ?_; rintro e w2 ⟨rfl, T2⟩; obtain ⟨h1, h2, hl⟩ := HC.out _ T2; obtain ⟨c0, c1, c2, c3, _⟩ := cells4 h1; obtain ⟨d0, d1, d2, d3, f0, f1, f2, f3⟩ := cells4 h2; have H1 := Lib.hid h1; have H2 := Lib.hid h2; clear h1 h2)
    refine bodyPost_ret (v := Key.zero.val) (results_cell_row Try.results42 _ _ (w.heap.size + 1) 35 _ (0, 0) _ rfl (set4 H2.out) Try.underlying35 rfl (by kernel_rfl)) rfl ⟨by rw [HK.out], turned4 (HT.out.trans T2) (by omega)⟩
theorem fields35 : Try.prog.underlying 35 = some (.struct (Try.prog.fieldsOf 35)) := by unfold Program.fieldsOf; rw [Try.underlying35]
theorem stood35 : Try.prog.stoodInHeld 35 = false := by kernel_rfl
theorem bytes_eq (s t : ByteArray) : s.toList = t.toList ↔ s = t := by
  rw [ByteArray.toList_eq, ByteArray.toList_eq]
  constructor
  · intro h
    cases s; cases t
    congr 1
    exact Array.toList_inj.1 h
  · rintro rfl; rfl
theorem key_ext {a b : Key} : a = b ↔ a.kind = b.kind ∧ a.n = b.n ∧ a.name = b.name ∧ a.arity = b.arity := by
  cases a; cases b; simp
theorem key_eql (a b : Key) (W : World) : (binOp .eql 35 (.agg #[.int .i64 a.kind, .int .i64 a.n, .string a.name, .int .i64 a.arity]) (.agg #[.int .i64 b.kind, .int .i64 b.n, .string b.name, .int .i64 b.arity])).run Try.prog W = .ok (.bool (decide (a = b))) W := by
  rw [run_eql_struct, show (10000 : Nat) = 9999 + 1 from rfl, run_equalIn_agg _ _ _ _ _ fields35 stood35]
  unfold Program.fieldsOf
  rw [Try.underlying35]
  have hb := bytes_eq a.name b.name
  simp [go_sem, Try.underlying3, Try.underlying2, Try.underlying9, key_ext, hb]
  by_cases h1 : a.kind = b.kind <;> by_cases h2 : a.n = b.n <;> by_cases h3 : a.name = b.name <;> by_cases h4 : a.arity = b.arity <;> simp [h1, h2, h3, h4]

/-- Whether two keys may fit. -/
def mayB (a b : Key) : Bool := decide (a.kind = 0) || (decide (b.kind = 0) || decide (a = b))
set_option maxRecDepth 100000 in
set_option maxHeartbeats 800000 in
theorem may43 (a b : Key) (w : World) : Calls Try.prog 43 #[a.val, b.val] w fun e w' => e = .returned (.bool (mayB a b)) ∧ Turned (fun _ => False) w w' := by
  have hq := key_eql a b
  have HQ := Lib.hid hq
  have T := ((Turned.refl (fun _ => False) w).alloc (.cells #[.int .i64 a.kind, .int .i64 a.n, .string a.name, .int .i64 a.arity] 35)).alloc (.cells #[.int .i64 b.kind, .int .i64 b.n, .string b.name, .int .i64 b.arity] 35)
  have HT := Lib.hid T
  clear hq T
  unfold Key.val
  by_cases h0 : a.kind = 0
  · have k0 : (a.kind == 0) = true := by simp [h0]
    have HR : Hid (mayB a b = true) := by show _ = _; unfold mayB; simp [h0]
    clear h0
    go_enter Try.func43, Try.ntmps43
    go_wp2_with fail
    go_ret
    exact ⟨ret_bool HR.out.symm, HT.out⟩
  · have k0 : (a.kind == 0) = false := by simp [h0]
    by_cases h1 : b.kind = 0
    · have k1 : (b.kind == 0) = true := by simp [h1]
      have HR : Hid (mayB a b = true) := by show _ = _; unfold mayB; simp [h1]
      clear h0 h1
      go_enter Try.func43, Try.ntmps43
      go_wp2_with fail
      go_ret
      exact ⟨ret_bool HR.out.symm, HT.out⟩
    · have k1 : (b.kind == 0) = false := by simp [h1]
      have HR : Hid (mayB a b = decide (a = b)) := by show _ = _; unfold mayB; simp [h0, h1]
      clear h0 h1
      have hq := HQ.out
      go_enter Try.func43, Try.ntmps43
      go_wp2_with fail
      go_ret
      exact ⟨ret_bool HR.out.symm, HT.out⟩
end Go.Proofs.Ytoihjobdfjajfaa
