/- Merged texts: AS1, AS2, AS3, AS4, Opens. -/
import Derived.Test.YtoihjobdfjajfaaIx6
import Derived.ProofKit
import Derived.Deep.Strs
import Derived.Lib.SmallJoins
/- AliasSelf, the plain law: a term with itself, with itself by other names. -/
namespace Go.Proofs.Ytoihjobdfjajfaa
open Go.RowKit Go.Maps
set_option linter.unusedVariables false
set_option linter.unusedSimpArgs false
namespace Tm
/-- What stands for what: the later name for the earlier one. -/
def TwinT (V d : Int) (l : Trail) : Prop := ∀ b ∈ l, ∃ v, 0 ≤ v ∧ v < V ∧ ¬ d = 0 ∧ b = (v + d, Tm.V v)
theorem twin_dom {V d : Int} {l : Trail} (h : TwinT V d l) {n : Int} (hn : n ∈ dom l) : ∃ v, 0 ≤ v ∧ v < V ∧ ¬ d = 0 ∧ n = v + d := by
  obtain ⟨b, hb, rfl⟩ := List.mem_map.1 hn
  obtain ⟨v, h0, h1, h2, rfl⟩ := h b hb
  exact ⟨v, h0, h1, h2, rfl⟩
theorem twin_low {V d : Int} {l : Trail} (h : TwinT V d l) (hd : d = 0 ∨ V ≤ d) {n : Int} (hn : n < V) : n ∉ dom l := fun c => by
  obtain ⟨v, h0, h1, h2, e⟩ := twin_dom h c
  rcases hd with hd | hd
  · exact h2 hd
  · omega
theorem leafyArg {t x : Tm Unit} (h : leafy t) (hx : x ∈ t.args) : leafy x := by
  cases t with | mk k n s e aa => exact leafy_args h x hx
theorem flats_len_cons (x : Tm Unit) (l : List (Tm Unit)) : (flats (x :: l)).length = 1 + (flats x.args).length + (flats l).length := by
  show (x.flat ++ flats l).length = _
  rw [List.length_append, flat_eq, List.length_cons]; omega
theorem oneU_VV (l : Trail) (left : Nat) (a b : Int) : oneU l left (Tm.V a) (Tm.V b) = if a = b then .done (.ok l left) else .done (.ok ((max a b, Tm.V (min a b)) :: l) left) := (if_pos rfl).trans (if_pos rfl)
theorem zip_map_self {f : Tm Unit → Tm Unit} : ∀ l : List (Tm Unit), l.zip (l.map f) = l.map fun z => (z, f z)
  | [] => rfl
  | x :: l => by simp only [List.map_cons, List.zip_cons_cons, zip_map_self l]
theorem twin {m : Nat} (hm : m ≤ 65536) {V d : Int} (hd0 : 0 ≤ d) (hd : d = 0 ∨ V ≤ d) (hV : V + d ≤ (m : Int)) : ∀ (k : Nat) (zs : List (Tm Unit)) (l : Trail) (left : Nat), (flats zs).length ≤ k → (flats zs).length ≤ left → (∀ z ∈ zs, leafy z ∧ ∀ v, numsIn z v → 0 ≤ v ∧ v < V) → okT m l → TwinT V d l →
    ∃ l' q, unify l left (zs.map fun z => (z, ren (fun v => v + d) z)) = .ok l' q ∧ okT m l' ∧ TwinT V d l' := by
  intro k
  induction k with
  | zero =>
    intro zs l left hk hl hz ho ht
    cases zs with
    | nil => exact ⟨l, left, unify_nil _ _, ho, ht⟩
    | cons x r => rw [flats_len_cons] at hk; omega
  | succ k ih =>
    intro zs l left hk hl hz ho ht
    cases zs with
    | nil => exact ⟨l, left, unify_nil _ _, ho, ht⟩
    | cons x r =>
      rw [flats_len_cons] at hk hl
      obtain ⟨left, rfl⟩ : ∃ q, left = q + 1 := ⟨left - 1, by omega⟩
      obtain ⟨hx, hv⟩ := hz x (List.mem_cons_self ..)
      have hr : ∀ z ∈ r, leafy z ∧ ∀ v, numsIn z v → 0 ≤ v ∧ v < V := fun z h => hz z (List.mem_cons_of_mem _ h)
      rw [List.map_cons]
      by_cases hxk : x.kind = 0
      · obtain ⟨h0, h1⟩ := hv x.n ⟨x, by rw [flat_eq]; exact List.mem_cons_self .., hxk, rfl⟩
        have hxe := leafy_self hx hxk
        generalize x.n = v at *
        subst hxe
        have hlow : ∀ l', TwinT V d l' → look l' v = none := fun l' h => look_none.2 (twin_low h hd h1)
        have hX : walkT l (Tm.V v) = Tm.V v := walkT_stop (fun _ => hlow l ht)
        have hre : ren (fun v => v + d) (Tm.V v) = Tm.V (v + d) := by unfold ren; rw [subT_V1]
        rw [hre]
        have same : ∀ Y, Y = Tm.V v → walkT l (Tm.V (v + d)) = Y → ∃ l' q, unify l (left + 1) ((Tm.V v, Tm.V (v + d)) :: r.map fun z => (z, ren (fun v => v + d) z)) = .ok l' q ∧ okT m l' ∧ TwinT V d l' := by
          rintro Y rfl hY
          rw [unify_ok (l' := l) (left' := left) (by rw [hX, hY, oneU_VV, if_pos rfl])]
          exact ih r l left (by omega) (by omega) hr ho ht
        by_cases hd1 : d = 0
        · exact same _ rfl (by rw [hd1, Int.add_zero, hX])
        · cases hlk : look l (v + d) with
          | some p =>
            have hmem : v + d ∈ dom l := by
              by_cases c : v + d ∈ dom l
              · exact c
              · rw [look_none.2 c] at hlk; cases hlk
            obtain ⟨b, hb, hbe⟩ := List.mem_map.1 hmem
            obtain ⟨u, g0, g1, g2, rfl⟩ := ht b hb
            have hu : u = v := by have : u + d = v + d := hbe; omega
            subst hu
            have := look_of_mem ho hb
            rw [hlk] at this
            injection this with this
            refine same _ rfl ?_
            rw [walkT_step ho (t := Tm.V (u + d)) (p := Tm.V u) rfl (hlk.trans (congrArg some this)), hX]
          | none =>
            have hY : walkT l (Tm.V (v + d)) = Tm.V (v + d) := walkT_stop (fun _ => hlk)
            have hnd : v + d ∉ dom l := look_none.1 hlk
            have hmax : max v (v + d) = v + d := by omega
            have hmin : min v (v + d) = v := by omega
            have hok : okT m ((v + d, Tm.V v) :: l) := by
              refine ⟨ho, by show 0 ≤ v + d; omega, by show v + d < (m : Int); omega, hnd, goodB_V h0 (by omega), fun w hw => by rw [numsIn_V.1 hw]; omega, ?_⟩
              show ¬ numsIn (img l (Tm.V v)) (v + d)
              rw [img_V, sig_free ho (twin_low ht hd h1), numsIn_V]
              omega
            have htw : TwinT V d ((v + d, Tm.V v) :: l) := fun b hb => by
              rcases List.mem_cons.1 hb with rfl | hb
              · exact ⟨v, h0, h1, hd1, rfl⟩
              · exact ht b hb
            rw [unify_ok (l' := (v + d, Tm.V v) :: l) (left' := left) (by
              rw [hX, hY, oneU_VV, if_neg (by omega), hmax, hmin])]
            exact ih r _ left (by omega) (by omega) hr hok htw
      · have hre : ren (fun v => v + d) x = .mk x.kind x.n x.name () (x.args.map (ren fun v => v + d)) := subT_node _ hxk
        have hX : walkT l x = x := walkT_stop (fun h => absurd h hxk)
        have hY : walkT l (ren (fun v => v + d) x) = ren (fun v => v + d) x := walkT_stop (fun h => absurd (by rwa [ren_kind] at h) hxk)
        have hone : oneU l left (walkT l x) (walkT l (ren (fun v => v + d) x)) = .more (x.args.map fun z => (z, ren (fun v => v + d) z)) := by
          rw [hX, hY]
          unfold oneU
          rw [if_neg hxk, if_neg (by rw [ren_kind]; exact hxk), if_pos (headsB_iff.2 (by rw [hre]; exact ⟨rfl, rfl, rfl, by simp [args]⟩)), hre]
          show UStep.more (x.args.zip (x.args.map (ren fun v => v + d))) = _
          rw [zip_map_self]
        rw [unify_more hone, ← List.map_append]
        refine ih (x.args ++ r) l left ?_ ?_ ?_ ho ht
        · rw [flats_append, List.length_append]; omega
        · rw [flats_append, List.length_append]; omega
        · intro z hz'
          rcases List.mem_append.1 hz' with h | h
          · exact ⟨leafyArg hx h, fun v hn => hv v ((numsIn_args hxk).2 ⟨z, h, hn⟩)⟩
          · exact hr z h
end Tm
end Go.Proofs.Ytoihjobdfjajfaa

/- AliasSelf, the plain law: what Both answers at a term and its twin. -/
namespace Go.Proofs.Ytoihjobdfjajfaa
open Go.RowKit Go.Maps
set_option linter.unusedVariables false
set_option linter.unusedSimpArgs false
namespace Tm
theorem fromT_shift (t : Tm Unit) (V : Int) : ren (fun v => v + V) (fromT t 0) = fromT t V := by
  unfold fromT
  rw [ren_ren]
  congr 1
  funext n
  unfold fromS
  omega
theorem ren_id {t : Tm Unit} (h : leafy t) : ren (fun v => v + 0) t = t := by
  have e : (fun n : Int => Tm.V (n + 0)) = Tm.V := by funext n; rw [Int.add_zero]
  unfold ren
  rw [e, subT_V t h]
theorem fromT_nums {t : Tm Unit} (h : leafy t) {first v : Int} (hv : numsIn (fromT t first) v) : first ≤ v ∧ v < first + t.vars.length := by
  have := (vars_mem v).2 hv
  rw [vars_fromT h] at this
  obtain ⟨i, hi, rfl⟩ := List.mem_map.1 this
  have := List.mem_range.1 hi
  omega
theorem fromT_own {t : Tm Unit} {m V : Nat} (g : goodB t = true) (hV : V + t.vars.length ≤ m) (hm : m ≤ 65536) : ownB m (fromT t (V : Int)) = true :=
  ownB_iff.2 ⟨goodB_fromT g (by omega) (by omega), fun v hv => by have := fromT_nums (good_leafy g) hv; omega⟩
end Tm
theorem size_fromT {t : Tm Unit} (g : goodB t = true) (first : Int) : (Tm.fromT t first).size = t.size := Tm.size_ren _ (good_leafy g)
theorem bothR_of {m : Nat} {l l' : Tm.Trail} {x y : Tm Unit} {q : Nat} (hx : Tm.ownB m x = true) (hy : Tm.ownB m y = true) (h : Tm.unify l 2000 [(x, y)] = .ok l' q) : bothR m l x y = (true, 2000 - (q : Int), 0, l') := by
  unfold bothR
  rw [if_pos ⟨hx, hy⟩, h]
section
variable {t : Tm Unit} (g : goodB t = true) (hs : t.size ≤ 2000)
include g hs
theorem twin_run {m V d : Nat} (hm : m ≤ 65536) (hV : V = t.vars.length) (hd : d = 0 ∨ V ≤ d) (hVd : V + d ≤ m) : ∃ l' q, Tm.unify [] 2000 [(Tm.fromT t 0, Tm.ren (fun v => v + (d : Int)) (Tm.fromT t 0))] = .ok l' q ∧ Tm.okT m l' ∧ Tm.TwinT (V : Int) (d : Int) l' := by
  have hl : Tm.leafy (Tm.fromT t 0) := Tm.leafy_ren _ (good_leafy g)
  refine Tm.twin hm (by omega) (by omega) (by omega) _ [Tm.fromT t 0] [] 2000 (Nat.le_refl _) ?_ ?_ trivial (fun b hb => by cases hb)
  · have e : (Tm.flats [Tm.fromT t 0]).length = (Tm.fromT t 0).size := by
      rw [← Tm.flat_length]; simp [Tm.flats]
    rw [e, size_fromT g]; exact hs
  · intro z hz
    obtain rfl := List.mem_singleton.1 hz
    refine ⟨hl, fun v hv => ?_⟩
    have := Tm.fromT_nums (good_leafy g) hv
    omega
/-- With itself. -/
theorem self_both {m : Nat} (hm : m ≤ 65536) (hV : t.vars.length ≤ m) : ∃ c, bothR m [] (Tm.fromT t 0) (Tm.fromT t 0) = (true, c, 0, []) := by
  obtain ⟨l', q, h1, h2, h3⟩ := twin_run g hs hm rfl (.inl rfl) hV
  have e := Tm.ren_id (t := Tm.fromT t 0) (Tm.leafy_ren _ (good_leafy g))
  have hl' : l' = [] := by
    cases l' with
    | nil => rfl
    | cons b r => obtain ⟨v, _, _, c, _⟩ := h3 b (List.mem_cons_self ..); exact absurd rfl c
  subst hl'
  have ho : Tm.ownB m (Tm.fromT t 0) = true := Tm.fromT_own (V := 0) g (by omega) hm
  exact ⟨_, bothR_of ho ho (by rw [← h1]; congr 2; rw [Prod.mk.injEq]; exact ⟨rfl, e.symm⟩)⟩
/-- With itself by other names. -/
theorem twin_both {m : Nat} (hm : m ≤ 65536) (hV : t.vars.length + t.vars.length ≤ m) : ∃ c l', bothR m [] (Tm.fromT t 0) (Tm.fromT t (t.vars.length : Nat)) = (true, c, 0, l') ∧ wholeE m l' (Tm.fromT t (t.vars.length : Nat)) = 0 ∧ wholeT m l' (Tm.fromT t (t.vars.length : Nat)) = Tm.fromT t 0 := by
  obtain ⟨l', q, h1, h2, h3⟩ := twin_run g hs hm rfl (.inr (Nat.le_refl _)) hV
  rw [Tm.fromT_shift] at h1
  have ho : Tm.ownB m (Tm.fromT t 0) = true := Tm.fromT_own (V := 0) g (by omega) hm
  have ho2 : Tm.ownB m (Tm.fromT t (t.vars.length : Nat)) = true := Tm.fromT_own g hV hm
  obtain ⟨_, himg⟩ := unify_img hm (l := []) trivial ho ho2 h1
  have hp : Tm.img l' (Tm.fromT t 0) = Tm.fromT t 0 := Tm.img_same h2 (Tm.leafy_ren _ (good_leafy g)) (fun v hv => Tm.twin_low h3 (.inr (Int.le_refl _)) (by have := Tm.fromT_nums (good_leafy g) hv; omega))
  have hq : Tm.img l' (Tm.fromT t (t.vars.length : Nat)) = Tm.fromT t 0 := himg.symm.trans hp
  have hgp := (Tm.ownB_iff.1 ho).1
  have hw : wholeE m l' (Tm.fromT t (t.vars.length : Nat)) = 0 := by
    unfold wholeE
    rw [if_pos ho2]
    refine if_pos ?_
    unfold Tm.wholeB
    rw [hq]
    unfold goodB at hgp
    simp only [Bool.and_eq_true, decide_eq_true_eq] at hgp ⊢
    exact ⟨hgp.1, hgp.2.1⟩
  refine ⟨_, l', bothR_of ho ho2 h1, hw, ?_⟩
  unfold wholeT
  rw [if_pos hw, hq]
theorem self_could : couldB t t = true := by
  have hv : t.vars.length ≤ 2000 := by have := varsB_le t; unfold varsB at this; rw [if_pos g] at this; exact this
  obtain ⟨c, l', h1, _, _⟩ := twin_both g hs (m := 0 + t.vars.length + t.vars.length) (by omega) (by omega)
  have : couldR t t = (true, c, 0, l') := by
    unfold couldR
    rw [Nat.zero_add] at h1 ⊢
    exact h1
  unfold couldB
  rw [g, this]
  rfl
end
end Go.Proofs.Ytoihjobdfjajfaa

/- AliasSelf: the region that renames by From and lays the copy (whichever first). -/
namespace Go.Proofs.Ytoihjobdfjajfaa
set_option linter.unusedVariables false
set_option linter.unusedSimpArgs false
open Go.RowKit Go.Maps
/-- From, as the frame spells it. -/
theorem fromVal {p : Nat → Prop} {t : LT} {w : World} {a : Nat} (ht : t.In p w) (g : goodB t.bare = true) (ha : a + t.bare.vars.length ≤ 65536) :
    Calls Try.prog 71 #[.agg #[.int .i64 t.kind, .int .i64 t.n, .string t.name, .slice t.at_.1 t.args.length t.at_.2], .int .i64 (a : Int)] w fun e w' => ∃ u : LT, e = .returned (.tuple #[.agg #[.int .i64 u.kind, .int .i64 u.n, .string u.name, .slice u.at_.1 u.args.length u.at_.2], .int .i64 ((a : Int) + (t.bare.vars.length : Int)), .int .i64 0]) ∧ u.bare = Tm.fromT t.bare (a : Int) ∧ u.In (fun k => p k ∨ w.heap.size ≤ k) w' ∧ Turned (fun _ => False) w w' := by
  have h := from71 ht (good_slimB g) (first := (a : Int)) ⟨by omega, by omega⟩
  rw [LT.val_eq] at h
  refine h.mono ?_
  rintro e w' ⟨u, m, er, rfl, hR, hi, hT⟩
  unfold FromR at hR
  rw [if_pos ⟨g, by omega, by omega⟩, if_pos (by omega)] at hR
  obtain ⟨rfl, rfl, h3⟩ := hR
  exact ⟨u, by rw [LT.val_eq], h3, hi, hT⟩
def tupV (n : Int) (u : LT) : Value := .tuple #[.agg #[.int .i64 u.kind, .int .i64 u.n, .string u.name, .slice u.at_.1 u.args.length u.at_.2], .int .i64 n, .int .i64 0]
def aggV (u : LT) : Value := .agg #[.int .i64 u.kind, .int .i64 u.n, .string u.name, .slice u.at_.1 u.args.length u.at_.2]
structure FrR (w0 : World) (n : Int) (Q : Tm Unit) (hs : Hist) (W : World) : Prop where
  t : Turned (fun _ => False) w0 W
  tup : ∀ v, (4, v) ∈ hs → ∃ u : LT, v = tupV n u ∧ u.bare = Q ∧ u.In (fun k => (9, ptr k) ∉ hs) W
  mv : ∀ v, (5, v) ∈ hs → (4, v) ∈ hs
  agg : ∀ v, (6, v) ∈ hs → ∃ u : LT, v = aggV u ∧ (4, tupV n u) ∈ hs
  box : ∀ v, (9, v) ∈ hs → ∃ B c0 c1 c2 c3, v = ptr B ∧ w0.heap.size ≤ B ∧ W.heap[B]? = some (.cells #[c0, c1, c2, c3] 27 (0, 0)) ∧ ∀ q, (10, q) ∈ hs → (6, .agg #[c0, c1, c2, c3]) ∈ hs
  uq : ∀ v v', (9, v) ∈ hs → (9, v') ∈ hs → v = v'
section
variable {w0 W W' : World} {n : Int} {Q : Tm Unit} {hs : Hist}
theorem FrR.start (h : Turned (fun _ => False) w0 W) : FrR w0 n Q [] W := ⟨h, fun v h => (List.not_mem_nil h).elim, fun v h => (List.not_mem_nil h).elim, fun v h => (List.not_mem_nil h).elim, fun v h => (List.not_mem_nil h).elim, fun v v' h => (List.not_mem_nil h).elim⟩
theorem FrR.turned0 (h : FrR w0 n Q hs W) (T : Turned (fun _ => False) W W') : FrR w0 n Q hs W' := by
  refine ⟨h.t.trans T, fun v hv => ?_, h.mv, h.agg, fun v hv => ?_, h.uq⟩
  · obtain ⟨u, h1, h2, h3⟩ := h.tup v hv
    exact ⟨u, h1, h2, h3.turned0 T⟩
  · obtain ⟨B, c0, c1, c2, c3, h1, h2, h3, h4⟩ := h.box v hv
    exact ⟨B, c0, c1, c2, c3, h1, h2, (T.block B (Array.getElem?_eq_some_iff.1 h3).1 (fun f => f)).trans h3, h4⟩
/-- What is no laying and no store. -/
theorem FrR.keep {i : Nat} {x : Value} (h : FrR w0 n Q hs W) (h4 : i = 4 → ∃ u : LT, x = tupV n u ∧ u.bare = Q ∧ u.In (fun k => (9, ptr k) ∉ hs) W) (h5 : i = 5 → (4, x) ∈ hs) (h6 : i = 6 → ∃ u : LT, x = aggV u ∧ (4, tupV n u) ∈ hs) (h9 : i ≠ 9) (h10 : i ≠ 10) : FrR w0 n Q (hs ++ [(i, x)]) W := by
  have ne : ∀ {j : Nat} {v : Value}, j ≠ i → (j, v) ∈ hs ++ [(i, x)] → (j, v) ∈ hs := fun hj hm => by
    rcases mem_snoc hm with hm | ⟨e, _⟩
    · exact hm
    · exact absurd e hj
  have hin : ∀ {u : LT}, u.In (fun k => (9, ptr k) ∉ hs) W → u.In (fun k => (9, ptr k) ∉ hs ++ [(i, x)]) W := fun hu => hu.mono (fun k _ hk c => hk (ne (fun e => h9 e.symm) c))
  refine ⟨h.t, fun v hv => ?_, fun v hv => ?_, fun v hv => ?_, fun v hv => ?_, fun v v' hv hv' => h.uq v v' (ne (fun e => h9 e.symm) hv) (ne (fun e => h9 e.symm) hv')⟩
  · rcases mem_snoc hv with hm | ⟨e, e2⟩
    · obtain ⟨u, g1, g2, g3⟩ := h.tup v hm
      exact ⟨u, g1, g2, hin g3⟩
    · obtain ⟨u, g1, g2, g3⟩ := h4 e.symm
      exact ⟨u, e2.trans g1, g2, hin g3⟩
  · rcases mem_snoc hv with hm | ⟨e, e2⟩
    · exact List.mem_append_left _ (h.mv v hm)
    · rw [e2]; exact List.mem_append_left _ (h5 e.symm)
  · rcases mem_snoc hv with hm | ⟨e, e2⟩
    · obtain ⟨u, g1, g2⟩ := h.agg v hm
      exact ⟨u, g1, List.mem_append_left _ g2⟩
    · obtain ⟨u, g1, g2⟩ := h6 e.symm
      exact ⟨u, e2.trans g1, List.mem_append_left _ g2⟩
  · obtain ⟨B, c0, c1, c2, c3, g1, g2, g3, g4⟩ := h.box v (ne (fun e => h9 e.symm) hv)
    exact ⟨B, c0, c1, c2, c3, g1, g2, g3, fun q hq => List.mem_append_left _ (g4 q (ne (fun e => h10 e.symm) hq))⟩
theorem FrR.laid {c0 c1 c2 c3 : Value} (h : FrR w0 n Q hs W) (hno : ∀ v, (9, v) ∉ hs) (hst : ∀ q, (10, q) ∉ hs) : FrR w0 n Q (hs ++ [(9, ptr W.heap.size)]) (W.alloc (.cells #[c0, c1, c2, c3] 27)) := by
  have T : Turned (fun _ => False) W (W.alloc (.cells #[c0, c1, c2, c3] 27)) := (Turned.refl _ W).alloc _
  have ne : ∀ {j : Nat} {v : Value}, j ≠ 9 → (j, v) ∈ hs ++ [(9, ptr W.heap.size)] → (j, v) ∈ hs := fun hj hm => by
    rcases mem_snoc hm with hm | ⟨e, _⟩
    · exact hm
    · exact absurd e hj
  have last : ∀ {v : Value}, (9, v) ∈ hs ++ [(9, ptr W.heap.size)] → v = ptr W.heap.size := fun hm => by
    rcases mem_snoc hm with hm | ⟨_, e⟩
    · exact absurd hm (hno _)
    · exact e
  refine ⟨h.t.trans T, fun v hv => ?_, fun v hv => List.mem_append_left _ (h.mv v (ne (by decide) hv)), fun v hv => ?_, fun v hv => ?_, fun v v' hv hv' => by rw [last hv, last hv']⟩
  · obtain ⟨u, h1, h2, h3⟩ := h.tup v (ne (by decide) hv)
    refine ⟨u, h1, h2, ((h3.mono (q := fun k => (9, ptr k) ∉ hs ++ [(9, ptr W.heap.size)]) (fun k hk _ c => ?_))).turned0 T⟩
    have := ptr_inj (last c)
    omega
  · obtain ⟨u, h1, h2⟩ := h.agg v (ne (by decide) hv)
    exact ⟨u, h1, List.mem_append_left _ h2⟩
  · exact ⟨W.heap.size, c0, c1, c2, c3, last hv, h.t.size, heap_alloc_new W _, fun q hq => absurd (ne (by decide) hq) (hst q)⟩
theorem FrR.cell {v : Value} (h : FrR w0 n Q hs W) (h9 : (9, v) ∈ hs) : ∃ B c0 c1 c2 c3, v = .pointer (some ⟨B, 0, none⟩) ∧ W.heap[B]? = some (.cells #[c0, c1, c2, c3] 27 (0, 0)) := by
  obtain ⟨B, c0, c1, c2, c3, h1, h2, h3, _⟩ := h.box v h9
  exact ⟨B, c0, c1, c2, c3, h1, h3⟩
theorem FrR.stored {B : Nat} {u : LT} {q : Value} (h : FrR w0 n Q hs W) (h9 : (9, ptr B) ∈ hs) (h6 : (6, aggV u) ∈ hs) :
    FrR w0 n Q (hs ++ [(10, q)]) ((((W.setCell ⟨B, 0, none⟩ (.int .i64 u.kind)).setCell ⟨B, 1, none⟩ (.int .i64 u.n)).setCell ⟨B, 2, none⟩ (.string u.name)).setCell ⟨B, 3, none⟩ (.slice u.at_.1 u.args.length u.at_.2)) := by
  obtain ⟨B', c0, c1, c2, c3, h1, h2, h3, h4⟩ := h.box _ h9
  obtain rfl := ptr_inj h1
  have hset := set4 (a' := .int .i64 u.kind) (b' := .int .i64 u.n) (c' := .string u.name) (d' := .slice u.at_.1 u.args.length u.at_.2) h3
  have T := turned_store4 W B (.int .i64 u.kind) (.int .i64 u.n) (.string u.name) (.slice u.at_.1 u.args.length u.at_.2)
  have ne : ∀ {j : Nat} {v : Value}, j ≠ 10 → (j, v) ∈ hs ++ [(10, q)] → (j, v) ∈ hs := fun hj hm => by
    rcases mem_snoc hm with hm | ⟨e, _⟩
    · exact hm
    · exact absurd e hj
  refine ⟨h.t.step T (fun i hi e => by omega), fun v hv => ?_, fun v hv => List.mem_append_left _ (h.mv v (ne (by decide) hv)), fun v hv => ?_, fun v hv => ?_, fun v v' hv hv' => h.uq v v' (ne (by decide) hv) (ne (by decide) hv')⟩
  · obtain ⟨x, g1, g2, g3⟩ := h.tup v (ne (by decide) hv)
    exact ⟨x, g1, g2, LT.In.turned T (fun k hl hk e => hk (e ▸ h9)) (fun k hl hk c => hk (ne (by decide) c)) _ g3⟩
  · obtain ⟨x, g1, g2⟩ := h.agg v (ne (by decide) hv)
    exact ⟨x, g1, List.mem_append_left _ g2⟩
  · rw [h.uq _ _ (ne (by decide) hv) h9]
    exact ⟨B, _, _, _, _, rfl, h2, hset, fun q hq => List.mem_append_left _ h6⟩
theorem FrR.done {v : Value} (h : FrR w0 n Q hs W) (hall : ∀ i ∈ [4, 5, 6, 9, 10], ∃ v, (i, v) ∈ hs) (h9 : (9, v) ∈ hs) :
    ∃ B, ∃ u : LT, v = .pointer (some ⟨B, 0, none⟩) ∧ w0.heap.size ≤ B ∧ W.heap[B]? = some (.cells #[.int .i64 u.kind, .int .i64 u.n, .string u.name, .slice u.at_.1 u.args.length u.at_.2] 27 (0, 0)) ∧ u.bare = Q ∧ u.In (fun k => k ≠ B) W ∧ Turned (fun _ => False) w0 W := by
  obtain ⟨B, c0, c1, c2, c3, h1, h2, h3, h4⟩ := h.box _ h9
  obtain ⟨q, hq⟩ := hall 10 (by simp)
  obtain ⟨u, u1, u2⟩ := h.agg _ (h4 q hq)
  obtain ⟨u', v1, v2, v3⟩ := h.tup _ u2
  have e1 : c0 = .int .i64 u.kind ∧ c1 = .int .i64 u.n ∧ c2 = .string u.name ∧ c3 = .slice u.at_.1 u.args.length u.at_.2 := by
    unfold aggV at u1; simpa using u1
  have e2 : aggV u = aggV u' := by unfold tupV at v1; unfold aggV; simpa using v1
  obtain ⟨rfl, rfl, rfl, rfl⟩ := e1
  have e3 : (Obj.cells #[.int .i64 u.kind, .int .i64 u.n, .string u.name, .slice u.at_.1 u.args.length u.at_.2] 27 (0, 0)) = Obj.cells #[.int .i64 u'.kind, .int .i64 u'.n, .string u'.name, .slice u'.at_.1 u'.args.length u'.at_.2] 27 (0, 0) := by unfold aggV at e2; injection e2 with e2; rw [e2]
  refine ⟨B, u', h1, h2, h3.trans (congrArg some e3), v2, v3.mono (fun k _ hk e => hk (by rw [e, ← h1]; exact h9)), h.t⟩
end
end Go.Proofs.Ytoihjobdfjajfaa

/- AliasSelf: the walk. -/
namespace Go.Proofs.Ytoihjobdfjajfaa
set_option linter.unusedVariables false
set_option linter.unusedSimpArgs false
open Go.RowKit Go.Maps
theorem sizeE {p : Nat → Prop} {t : LT} {w : World} {d : Int} (ht : t.In p w) (hs : slim t) (hd : ((min t.size 2001 : Nat) : Int) = d) : Calls Try.prog 35 #[.agg #[.int .i64 t.kind, .int .i64 t.n, .string t.name, .slice t.at_.1 t.args.length t.at_.2]] w fun e w' => e = .returned (.int .i64 d) ∧ Turned (fun _ => False) w w' := by
  have h := size35 ht hs
  rw [LT.val_eq, hd] at h
  exact h
theorem plainE {p : Nat → Prop} {t : LT} {w : World} (ht : t.In p w) (g : goodB t.bare = true) : Calls Try.prog 81 #[.agg #[.int .i64 t.kind, .int .i64 t.n, .string t.name, .slice t.at_.1 t.args.length t.at_.2]] w fun e w' => ∃ u : LT, e = .returned (.tuple #[.agg #[.int .i64 u.kind, .int .i64 u.n, .string u.name, .slice u.at_.1 u.args.length u.at_.2], .int .i64 0]) ∧ u.bare = Tm.fromT t.bare 0 ∧ u.In (fun _ => True) w' ∧ Turned (fun _ => False) w w' := by
  have h := plain81 ht (good_slimB g)
  rw [LT.val_eq] at h
  refine h.mono ?_
  rintro e w' ⟨u, er, rfl, hR, hi, hT⟩
  unfold PlainR at hR
  rw [if_pos g] at hR
  obtain ⟨rfl, h2⟩ := hR
  exact ⟨u, by rw [LT.val_eq], h2, hi, hT⟩
theorem bt_nil {l : TL} (h : bt l = []) : l = [] := List.map_eq_nil_iff.1 h
theorem markZero {p O : Nat → Prop} {bb m : Nat} {w : World} (h : BO p bb O m [] w) : Calls Try.prog 111 #[.pointer (some ⟨bb, 0, none⟩)] w fun e w' => e = .returned (.int .i64 0) ∧ Turned (fun _ => False) w w' := markO111 h
theorem couldSelf {t : LT} {w : World} (ht : t.In (fun _ => True) w) (s : slim t) (hb : couldB t.bare t.bare = true) :
    Calls Try.prog 112 #[.agg #[.int .i64 t.kind, .int .i64 t.n, .string t.name, .slice t.at_.1 t.args.length t.at_.2], .agg #[.int .i64 t.kind, .int .i64 t.n, .string t.name, .slice t.at_.1 t.args.length t.at_.2]] w fun e w' => e = .returned (.bool true) ∧ Turned (fun _ => False) w w' := by
  have := could112 ht s ht s
  rw [LT.val_eq, hb] at this
  exact this
set_option maxRecDepth 100000 in
set_option maxHeartbeats 12800000 in
theorem aliasSelf {w : World} {t : LT} (ht : t.In (fun _ => True) w) :
    Calls Try.prog 28 #[t.val] w fun e w' => e = .returned (.bool true) ∧ Turned (fun _ => False) w w' := by
  obtain ⟨w1, hw1⟩ : ∃ z, z = w.alloc (.cells #[.int .i64 t.kind, .int .i64 t.n, .string t.name, .slice t.at_.1 t.args.length t.at_.2] 27) := ⟨_, rfl⟩
  have T1 : Turned (fun _ => False) w w1 := by rw [hw1]; exact (Turned.refl _ w).alloc _
  have hb1 : w1.heap[w.heap.size]? = some (.cells #[.int .i64 t.kind, .int .i64 t.n, .string t.name, .slice t.at_.1 t.args.length t.at_.2] 27 (0, 0)) := by rw [hw1]; exact heap_alloc_new w _
  have hkp := fun W (T : Turned (fun _ => False) w1 W) => cells4 ((T.block _ (Array.getElem?_eq_some_iff.1 hb1).1 (fun f => f)).trans hb1)
  have HKP := Lib.hid hkp
  have HT1 := Lib.hid T1
  have HW1 := Lib.hid hw1
  have HT := Lib.hid (ht.turned0 T1)
  rw [LT.val_eq]
  clear ht hkp hb1 hw1 T1
  cases dt : deepB 40 t with
  | true =>
    have HD := Lib.hid dt
    clear dt
    go_enter Try.func28, Try.ntmps28
    go_wp2_with (first
      | (go_at_call 69; refine (awake69 _).mono ?_; rintro e W0 ⟨rfl, T0⟩; rw [← HW1.out] at T0; have S0 := T0; obtain ⟨c0, c1, c2, c3, _⟩ := HKP.out _ S0)
      | (go_at_call 70; (with_reducible refine (deepVal 40 t _ 40 rfl (by omega) (HT.out.turned0 S0)).mono ?_); rintro e W1 ⟨rfl, T1⟩; rw [HD.out]))
    go_ret
    exact ⟨rfl, (HT1.out.trans S0).trans T1⟩
  | false =>
  have HD := Lib.hid dt
  have HST := Lib.hid (deep_slim 40 t dt)
  clear dt
  cases gt : goodB t with
  | false =>
    have HG := Lib.hid gt
    clear gt
    go_enter Try.func28, Try.ntmps28
    go_wp2_with (first
      | (go_at_call 69; refine (awake69 _).mono ?_; rintro e W0 ⟨rfl, T0⟩; rw [← HW1.out] at T0; have S0 := T0; obtain ⟨c0, c1, c2, c3, _⟩ := HKP.out _ S0)
      | (go_at_call 70; (with_reducible refine (deepVal 40 t _ 40 rfl (by omega) (HT.out.turned0 S0)).mono ?_); rintro e W1 ⟨rfl, T1⟩; rw [HD.out]; have S1 := S0.trans T1; obtain ⟨c0, c1, c2, c3, _⟩ := HKP.out _ S1; clear S0 T0 T1)
      | (go_at_call 38; (with_reducible refine (goodVal' (b := false) (HT.out.turned0 S1) HST.out HG.out).mono ?_); rintro e W2 ⟨rfl, T2⟩))
    go_ret
    exact ⟨rfl, (HT1.out.trans S1).trans T2⟩
  | true =>
  have HG := Lib.hid gt
  have gb : goodB t.bare = true := by rw [goodB_bare]; exact gt
  have HGB := Lib.hid gb
  clear gt
  obtain ⟨d, hd⟩ : ∃ z, z = ((min t.size 2001 : Nat) : Int) := ⟨_, rfl⟩
  by_cases h200 : 200 < d
  · have d200 : decide (200 < d) = true := decide_eq_true h200
    have HSZ := Lib.hid hd.symm
    clear h200 hd gb
    go_enter Try.func28, Try.ntmps28
    go_wp2_with (first
      | (go_at_call 69; refine (awake69 _).mono ?_; rintro e W0 ⟨rfl, T0⟩; rw [← HW1.out] at T0; have S0 := T0; obtain ⟨c0, c1, c2, c3, _⟩ := HKP.out _ S0)
      | (go_at_call 70; (with_reducible refine (deepVal 40 t _ 40 rfl (by omega) (HT.out.turned0 S0)).mono ?_); rintro e W1 ⟨rfl, T1⟩; rw [HD.out]; have S1 := S0.trans T1; obtain ⟨c0, c1, c2, c3, _⟩ := HKP.out _ S1; clear S0 T0 T1)
      | (go_at_call 38; (with_reducible refine (goodVal' (b := true) (HT.out.turned0 S1) HST.out HG.out).mono ?_); rintro e W2 ⟨rfl, T2⟩; have S2 := S1.trans T2; obtain ⟨c0, c1, c2, c3, _⟩ := HKP.out _ S2; clear S1 T2)
      | (go_at_call 35; (with_reducible refine (sizeE (HT.out.turned0 S2) HST.out HSZ.out).mono ?_); rintro e W3 ⟨rfl, T3⟩; have S3 := S2.trans T3; obtain ⟨c0, c1, c2, c3, _⟩ := HKP.out _ S3; clear S2 T3))
    go_ret
    exact ⟨rfl, HT1.out.trans S3⟩
  have d200 : decide (200 < d) = false := decide_eq_false h200
  have hsz : t.bare.size ≤ 2000 := by rw [Tm.size_bare]; omega
  have HSZ := Lib.hid hd.symm
  obtain ⟨L, hL⟩ : ∃ z, z = t.bare.vars.length := ⟨_, rfl⟩
  have hL2 : L ≤ 2000 := by have := varsB_le t.bare; unfold varsB at this; rw [if_pos gb] at this; omega
  have hLT : t.vars.length = L := by rw [hL, Tm.vars_bare]
  obtain ⟨n, hn⟩ : ∃ z, z = L + L := ⟨_, rfl⟩
  obtain ⟨cc1, hboth1⟩ := self_both gb hsz (m := n) (by omega) (by omega)
  obtain ⟨cc2, tr, hboth2, hwe, hwt⟩ := twin_both gb hsz (m := n) (by omega) (by omega)
  rw [← hL] at hboth2 hwe hwt
  have HCD := Lib.hid (self_could gb hsz)
  have hfq := fun (pl : LT) (h : pl.bare = Tm.fromT t.bare 0) => (show Tm.fromT pl.bare (L : Int) = Tm.fromT t.bare (L : Int) ∧ pl.bare.vars.length = L ∧ goodB pl.bare = true from by
    rw [h]
    exact ⟨Tm.fromT_ren (good_leafy gb) (Tm.fromS_inj _ _) _, by rw [Tm.vars_fromT (good_leafy gb), List.length_map, List.length_range, ← hL], goodB_fromT gb (by omega) (by omega)⟩)
  have gq : goodB (Tm.fromT t.bare (L : Int)) = true := goodB_fromT gb (by omega) (by omega)
  obtain ⟨Q, hQ⟩ : ∃ z, z = Tm.fromT t.bare (L : Int) := ⟨_, rfl⟩
  rw [← hQ] at hboth2 hwe hwt gq
  have HFQ := Lib.hid hfq
  have HQ := Lib.hid hQ
  have HGQ := Lib.hid gq
  have HB1 := Lib.hid hboth1
  have HB2 := Lib.hid hboth2
  have HWE := Lib.hid hwe
  have HWT := Lib.hid hwt
  have HLT := Lib.hid hLT
  have HN : Hid ((n : Int) = (L : Int) + (L : Int)) := by show _ = _; omega
  have hn4 : n ≤ 4000 := by omega
  clear h200 hd gb hsz hL hLT hn hboth1 hboth2 hwe hwt hfq gq hQ
  go_enter Try.func28, Try.ntmps28
  go_wp2_with (first
    | (go_at_call 69; refine (awake69 _).mono ?_; rintro e W0 ⟨rfl, T0⟩; rw [← HW1.out] at T0; have S0 := T0; obtain ⟨c0, c1, c2, c3, _⟩ := HKP.out _ S0)
    | (go_at_call 70; (with_reducible refine (deepVal 40 t _ 40 rfl (by omega) (HT.out.turned0 S0)).mono ?_); rintro e W1 ⟨rfl, T1⟩; rw [HD.out]; have S1 := S0.trans T1; obtain ⟨c0, c1, c2, c3, _⟩ := HKP.out _ S1; clear S0 T0 T1)
    | (go_at_call 38; (with_reducible refine (goodVal' (b := true) (HT.out.turned0 S1) HST.out HG.out).mono ?_); rintro e W2 ⟨rfl, T2⟩; have S2 := S1.trans T2; obtain ⟨c0, c1, c2, c3, _⟩ := HKP.out _ S2; clear S1 T2)
    | (go_at_call 35; (with_reducible refine (sizeE (HT.out.turned0 S2) HST.out HSZ.out).mono ?_); rintro e W3 ⟨rfl, T3⟩; have S3 := S2.trans T3; obtain ⟨c0, c1, c2, c3, _⟩ := HKP.out _ S3; clear S2 T3)
    | (go_at_call 81; (with_reducible refine (plainE (HT.out.turned0 S3) HGB.out).mono ?_); rintro e W4 ⟨pl, rfl, hpb, hpi, T4⟩; have HPB := Lib.hid hpb; have HPI := Lib.hid (hpi.turned0 ((Turned.refl (fun _ => False) W4).alloc (.cells #[.int .i64 pl.kind, .int .i64 pl.n, .string pl.name, .slice pl.at_.1 pl.args.length pl.at_.2] 27))); have HS4 := Lib.hid ((S3.trans T4).alloc (.cells #[.int .i64 pl.kind, .int .i64 pl.n, .string pl.name, .slice pl.at_.1 pl.args.length pl.at_.2] 27)); have HBP := Lib.hid (heap_alloc_new W4 (.cells #[.int .i64 pl.kind, .int .i64 pl.n, .string pl.name, .slice pl.at_.1 pl.args.length pl.at_.2] 27)); clear hpb hpi S3 T4 c0 c1 c2 c3))
  obtain ⟨w5, hw5⟩ : ∃ z, z = W4.alloc (.cells #[.int .i64 pl.kind, .int .i64 pl.n, .string pl.name, .slice pl.at_.1 pl.args.length pl.at_.2] 27) := ⟨_, rfl⟩
  rw [← hw5] at HPI HS4 HBP ⊢
  obtain ⟨b3, hb3⟩ : ∃ z, z = W4.heap.size := ⟨_, rfl⟩
  rw [← hb3] at HBP ⊢
  obtain ⟨HF1, HF2, HF3⟩ := HFQ.out pl HPB.out
  have HFV := Lib.hid (fun W (h : pl.In (fun k => k < w5.heap.size) W) => (show Calls Try.prog 71 #[.agg #[.int .i64 pl.kind, .int .i64 pl.n, .string pl.name, .slice pl.at_.1 pl.args.length pl.at_.2], .int .i64 (L : Int)] W fun e w' => ∃ u : LT, e = .returned (tupV (n : Int) u) ∧ u.bare = Q ∧ u.In (fun k => k < w5.heap.size ∨ W.heap.size ≤ k) w' ∧ Turned (fun _ => False) W w' from by
    have := fromVal h HF3 (a := L) (by omega)
    rw [HF1, HF2, ← HN.out, ← HQ.out] at this
    refine this.mono ?_
    rintro e w' ⟨u, h1, h2, h3, h4⟩
    exact ⟨u, h1, h2, h3, h4⟩))
  have HGP := Lib.hid HF3
  have HC5 := Lib.hid (fun W (T : Turned (fun _ => False) w5 W) => And.intro (HKP.out W (HS4.out.trans T)) (cells4 ((T.block _ (Array.getElem?_eq_some_iff.1 HBP.out).1 (fun f => f)).trans HBP.out)))
  have HT5 := Lib.hid (HT.out.turned0 HS4.out)
  clear hw5 hb3 HF1 HF2 HF3
  refine wp_region_k [38, 39, 40, 41, 42, 37, 43, 44, 45, 5, 6, 7] [4, 5, 6, 9, 10] [(42, 4), (37, 5), (43, 6), (5, 9)] (fun dd vv => (match dd with | 38 => vv = .agg #[.int .i64 pl.kind, .int .i64 pl.n, .string pl.name, .slice pl.at_.1 pl.args.length pl.at_.2] | 39 => vv = .agg #[.int .i64 t.kind, .int .i64 t.n, .string t.name, .slice t.at_.1 t.args.length t.at_.2] | 41 => vv = .int .i64 (L : Int) | 44 => vv = .int .i64 (n : Int) | 45 => vv = .int .i64 0 | 6 => vv = .int .i64 (n : Int) | 7 => vv = .int .i64 0 | 40 => ∃ va vc, vv = .slice va L vc | _ => True : Prop)) (FrR w5 (n : Int) Q) (by kernel_rfl) rfl (by kernel_rfl) (by kernel_rfl) (fun w h => FrR.start h) (fun hs w w' h ht => h.turned0 ht) ?hs ?hQ
  case hs =>
    refine ⟨?s0, ?s1, ?s2, ?s3, ?s4, ?s5, ?s6, ?s7, ?s8, ?s9, ?s10, ?s11, ?s12, trivial⟩
    case s0 =>
      refine fun hs hl => stepG_free [] [3] (by kernel_rfl) rfl ?_
      intro ac W hT hI hO
      have h3 : ac.tmps.getD 3 undef = .pointer (some ⟨b3, 0, none⟩) := hO 3 (by simp)
      show Brings Try.prog (fun vv w' => Turned (fun _ => False) W w' ∧ vv = .agg #[.int .i64 pl.kind, .int .i64 pl.n, .string pl.name, .slice pl.at_.1 pl.args.length pl.at_.2]) _
      obtain ⟨⟨c0, c1, c2, c3, _⟩, p0, p1, p2, p3, _⟩ := HC5.out W hT.t
      simp only [execOp, Act.eval, h3]
      go_simp
      try exact ⟨Turned.refl _ _, rfl⟩
    case s1 =>
      refine fun hs hl => stepG_free [] [1] (by kernel_rfl) rfl ?_
      intro ac W hT hI hO
      have h1 : ac.tmps.getD 1 undef = .pointer (some ⟨w.heap.size, 0, none⟩) := hO 1 (by simp)
      show Brings Try.prog (fun vv w' => Turned (fun _ => False) W w' ∧ vv = .agg #[.int .i64 t.kind, .int .i64 t.n, .string t.name, .slice t.at_.1 t.args.length t.at_.2]) _
      obtain ⟨⟨c0, c1, c2, c3, _⟩, p0, p1, p2, p3, _⟩ := HC5.out W hT.t
      simp only [execOp, Act.eval, h1]
      go_simp
      try exact ⟨Turned.refl _ _, rfl⟩
    case s2 =>
      refine fun hs hl => stepG_free [39] [] (by kernel_rfl) rfl ?_
      intro ac W hT hI hO
      have h39 : ac.tmps.getD 39 undef = .agg #[.int .i64 t.kind, .int .i64 t.n, .string t.name, .slice t.at_.1 t.args.length t.at_.2] := hI 39 (by simp)
      show Brings Try.prog (fun vv w' => Turned (fun _ => False) W w' ∧ ∃ va vc, vv = .slice va L vc) _
      simp only [execOp, Act.eval, h39]
      go_simp
      show Calls Try.prog 34 _ W _
      (with_reducible refine (varsVal (HT5.out.turned0 hT.t) HGB.out).mono ?_)
      rintro e w' ⟨va, vc, rfl, _, T'⟩
      exact ⟨_, rfl, T', va, vc, by rw [HLT.out]⟩
    case s3 =>
      refine fun hs hl => stepG_free [40] [] (by kernel_rfl) rfl ?_
      intro ac W hT hI hO
      obtain ⟨va, vc, h40⟩ : ∃ va vc, ac.tmps.getD 40 undef = .slice va L vc := hI 40 (by simp)
      show Brings Try.prog (fun vv w' => Turned (fun _ => False) W w' ∧ vv = .int .i64 (L : Int)) _
      simp only [execOp, Act.eval, h40]
      go_simp
      try exact ⟨Turned.refl _ _, rfl⟩
    case s4 =>
      refine fun hs hno hl => stepG_free [38, 41] [] (by kernel_rfl) rfl ?_
      intro ac W hT hI hO
      have h38 : ac.tmps.getD 38 undef = .agg #[.int .i64 pl.kind, .int .i64 pl.n, .string pl.name, .slice pl.at_.1 pl.args.length pl.at_.2] := hI 38 (by simp)
      have h41 : ac.tmps.getD 41 undef = .int .i64 (L : Int) := hI 41 (by simp)
      show Brings Try.prog (fun vv w' => FrR w5 (n : Int) Q (hs ++ [(4, vv)]) w') _
      simp only [execOp, Act.eval, h38, h41]
      go_simp
      show Calls Try.prog 71 _ W _
      (with_reducible refine (HFV.out W ((HPI.out.mono (q := fun k => k < w5.heap.size) (fun k hk _ => hk)).turned0 hT.t)).mono ?_)
      rintro e w' ⟨u, rfl, g1, g2, T'⟩
      exact ⟨_, rfl, (hT.turned0 T').keep (fun _ => ⟨u, rfl, g1, g2.mono (fun k hk h c => by obtain ⟨B, _, _, _, _, e, l1, l2, _⟩ := hT.box _ c; have e := ptr_inj e; have := (Array.getElem?_eq_some_iff.1 l2).1; omega)⟩) (fun e => by cases e) (fun e => by cases e) (by decide) (by decide)⟩
    case s5 =>
      refine fun hs hno hl => stepG_free [42] [] (by kernel_rfl) rfl ?_
      intro ac W hT hI hO
      have h42 : (4, ac.tmps.getD 42 undef) ∈ hs := hI 42 (by simp)
      show Brings Try.prog (fun vv w' => FrR w5 (n : Int) Q (hs ++ [(5, vv)]) w') _
      obtain ⟨u, e42, _⟩ := hT.tup _ h42
      have h42' := h42
      rw [e42] at h42'
      unfold tupV at e42 h42'
      simp only [execOp, Act.eval, e42]
      go_simp
      exact hT.keep (fun e => by cases e) (fun _ => h42') (fun e => by cases e) (by decide) (by decide)
    case s6 =>
      refine fun hs hno hl => stepG_free [37] [] (by kernel_rfl) rfl ?_
      intro ac W hT hI hO
      have h37 : (5, ac.tmps.getD 37 undef) ∈ hs := hI 37 (by simp)
      obtain ⟨u, e37, _⟩ := hT.tup _ (hT.mv _ h37)
      unfold tupV at e37
      have h4 := hT.mv _ h37
      rw [e37] at h4
      show Brings Try.prog (fun vv w' => FrR w5 (n : Int) Q (hs ++ [(6, vv)]) w') _
      simp only [execOp, Act.eval, e37]
      go_simp
      exact hT.keep (fun e => by cases e) (fun e => by cases e) (fun _ => ⟨u, rfl, h4⟩) (by decide) (by decide)
    case s7 =>
      refine fun hs hl => stepG_free [37] [] (by kernel_rfl) rfl ?_
      intro ac W hT hI hO
      have h37 : (5, ac.tmps.getD 37 undef) ∈ hs := hI 37 (by simp)
      obtain ⟨u, e37, _⟩ := hT.tup _ (hT.mv _ h37)
      unfold tupV at e37
      show Brings Try.prog (fun vv w' => Turned (fun _ => False) W w' ∧ vv = .int .i64 (n : Int)) _
      simp only [execOp, Act.eval, e37]
      go_simp
      try exact ⟨Turned.refl _ _, rfl⟩
    case s8 =>
      refine fun hs hl => stepG_free [37] [] (by kernel_rfl) rfl ?_
      intro ac W hT hI hO
      have h37 : (5, ac.tmps.getD 37 undef) ∈ hs := hI 37 (by simp)
      obtain ⟨u, e37, _⟩ := hT.tup _ (hT.mv _ h37)
      unfold tupV at e37
      show Brings Try.prog (fun vv w' => Turned (fun _ => False) W w' ∧ vv = .int .i64 0) _
      simp only [execOp, Act.eval, e37]
      go_simp
      try exact ⟨Turned.refl _ _, rfl⟩
    case s9 =>
      refine fun hs hno hl => stepG_free [] [] (by kernel_rfl) rfl ?_
      intro ac W hT hI hO
      show Brings Try.prog (fun vv w' => FrR w5 (n : Int) Q (hs ++ [(9, vv)]) w') _
      simp only [execOp, Act.eval]
      go_simp
      exact hT.laid hno (fun q => hl 10 11 q (by kernel_rfl))
    case s10 =>
      refine fun hs hno hl => stepG_free [5, 43] [] (by kernel_rfl) rfl ?_
      intro ac W hT hI hO
      have h5 : (9, ac.tmps.getD 5 undef) ∈ hs := hI 5 (by simp)
      have h43 : (6, ac.tmps.getD 43 undef) ∈ hs := hI 43 (by simp)
      obtain ⟨B, a0, a1, a2, a3, eB, hB⟩ := hT.cell h5
      obtain ⟨u, eA, _⟩ := hT.agg _ h43
      have h43' := h43
      rw [eA] at h43'
      unfold aggV at eA
      obtain ⟨d0, d1, d2, d3, f0, f1, f2, f3⟩ := cells4 hB
      show Brings Try.prog (fun vv w' => FrR w5 (n : Int) Q (hs ++ [(10, vv)]) w') _
      simp only [execOp, Act.eval, eB, eA]
      go_simp
      rw [eB] at h5
      exact hT.stored h5 h43'
    case s11 =>
      refine fun hs hl => stepG_free [44] [] (by kernel_rfl) rfl ?_
      intro ac W hT hI hO
      have h44 : ac.tmps.getD 44 undef = .int .i64 (n : Int) := hI 44 (by simp)
      show Brings Try.prog (fun vv w' => Turned (fun _ => False) W w' ∧ vv = .int .i64 (n : Int)) _
      simp only [execOp, Act.eval, h44]
      go_simp
      try exact ⟨Turned.refl _ _, rfl⟩
    case s12 =>
      refine fun hs hl => stepG_free [45] [] (by kernel_rfl) rfl ?_
      intro ac W hT hI hO
      have h45 : ac.tmps.getD 45 undef = .int .i64 0 := hI 45 (by simp)
      show Brings Try.prog (fun vv w' => Turned (fun _ => False) W w' ∧ vv = .int .i64 0) _
      simp only [execOp, Act.eval, h45]
      go_simp
      try exact ⟨Turned.refl _ _, rfl⟩
  case hQ =>
    intro hs6 vs6 w6 hall huniq hR hV
    obtain ⟨B, q, q5, hB, hbB, hqb, hqi, T6⟩ := hR.done hall (hV 5 (by simp))
    have q6 : vs6 6 = .int .i64 n := hV 6 (by simp)
    have q7 : vs6 7 = .int .i64 0 := hV 7 (by simp)
    simp only [List.foldl_cons, List.foldl_nil, List.setIfInBounds_toArray, List.set_cons_zero, List.set_cons_succ, q5, q6, q7]
    have HT6 := Lib.hid T6
    have HP6 := Lib.hid (HPI.out.turned0 T6)
    have HQ6 := Lib.hid (hqi.mono (q := fun _ => True) (fun _ _ _ => trivial))
    have HQB := Lib.hid hqb
    have HTT6 := Lib.hid (HT5.out.turned0 T6)
    have HK6 := Lib.hid (fun W (T : Turned (fun _ => False) w6 W) => And.intro (HC5.out W (T6.trans T)) (cells4 ((T.block _ (Array.getElem?_eq_some_iff.1 hbB).1 (fun f => f)).trans hbB)))
    have HSP := Lib.hid (good_slimB HGP.out)
    have HSQ := Lib.hid (good_slimB (show goodB q.bare = true from by rw [hqb]; exact HGQ.out))
    clear hall huniq hR hV q5 q6 q7 hB hbB hqb hqi T6
    by_cases h1000 : 1000 < n
    · have d1000 : decide (1000 < (n : Int)) = true := decide_eq_true (by omega)
      clear h1000
      go_wp2_with fail
      go_ret
      exact ⟨rfl, (HT1.out.trans HS4.out).trans HT6.out⟩
    have d1000 : decide (1000 < (n : Int)) = false := decide_eq_false (by omega)
    have HR1 : Hid (bothR n (bt ([] : TL)) pl.bare pl.bare = (true, cc1, 0, [])) := by show _ = _; rw [HPB.out]; exact HB1.out
    have HR2 : Hid (bothR n (bt ([] : TL)) pl.bare q.bare = (true, cc2, 0, tr)) := by show _ = _; rw [HPB.out, HQB.out]; exact HB2.out
    have HEW := Lib.hid (fun (l : TL) (h : bt l = tr) => (show wholeE n (bt l) q.bare = 0 from by rw [h, HQB.out]; exact HWE.out))
    have HUW := Lib.hid (fun (l : TL) (h : bt l = tr) => (show wholeT n (bt l) q.bare = pl.bare from by rw [h, HQB.out, HPB.out]; exact HWT.out))
    clear h1000
    obtain ⟨⟨⟨c0, c1, c2, c3, _⟩, p0, p1, p2, p3, _⟩, x0, x1, x2, x3, _⟩ := HK6.out _ (Turned.refl _ _)
    go_wp2_with (first
      | (go_at_call 110; (obtain ⟨O9, B9, hO9, T9⟩ := HB9.out; have hp9 := (HP6.out.mono (q := fun k => k < w6.heap.size) (fun k hk _ => hk)).turned0 T9; have hq9 := (HQ6.out.mono (q := fun k => k < w6.heap.size) (fun k hk _ => hk)).turned0 T9; (with_reducible refine (bothVal B9 hp9 HSP.out hq9 HSQ.out HR2.out).mono ?_); rintro e w10 ⟨rfl, l10, hl10, A10⟩; have hB10 := BLoop.step rfl B9 hO9 T9 A10; have HB10 := Lib.hid hB10; have HL10 := Lib.hid hl10; obtain ⟨O10, _, _, T10⟩ := hB10; obtain ⟨⟨⟨c0, c1, c2, c3, _⟩, p0, p1, p2, p3, _⟩, x0, x1, x2, x3, _⟩ := HK6.out _ T10; have HT10 := Lib.hid T10; clear B9 hO9 T9 hp9 hq9 hl10 T10 A10))
      | (go_at_call 110; (obtain ⟨O7, B7, hO7, T7⟩ := HB7.out; have hp7 := (HP6.out.mono (q := fun k => k < w6.heap.size) (fun k hk _ => hk)).turned0 T7; (with_reducible refine (bothVal B7 hp7 HSP.out hp7 HSP.out HR1.out).mono ?_); rintro e w8 ⟨rfl, l8, hl8, A8⟩; obtain rfl := bt_nil hl8; have hB8 := BLoop.step rfl B7 hO7 T7 A8; have HB8 := Lib.hid hB8; obtain ⟨O8, _, _, T8⟩ := hB8; obtain ⟨⟨⟨c0, c1, c2, c3, _⟩, p0, p1, p2, p3, _⟩, x0, x1, x2, x3, _⟩ := HK6.out _ T8; clear B7 hO7 T7 hp7 hl8 T8 A8))
      | (go_at_call 111; (obtain ⟨O8, B8, hO8, T8⟩ := HB8.out; (with_reducible refine (markZero B8).mono ?_); rintro e w9 ⟨rfl, T9⟩; have HB9 : Hid (BLoop w6.heap.size bb n [] w6 w9) := ⟨O8, B8.turned0 T9, hO8, T8.trans T9⟩; obtain ⟨⟨⟨c0, c1, c2, c3, _⟩, p0, p1, p2, p3, _⟩, x0, x1, x2, x3, _⟩ := HK6.out _ (T8.trans T9); clear B8 hO8 T8 T9))
      | (go_at_call 120; (with_reducible refine (binds120 n (by omega) w6).mono ?_); rintro e w7 ⟨bb, rfl, hB7⟩; have HB7 := Lib.hid hB7; obtain ⟨_, _, _, T7⟩ := hB7; obtain ⟨⟨⟨c0, c1, c2, c3, _⟩, p0, p1, p2, p3, _⟩, x0, x1, x2, x3, _⟩ := HK6.out _ T7; clear T7)
      | (go_at_call 89; (obtain ⟨O10, B10, hO10, _⟩ := HB10.out; have hq10 := (HQ6.out.mono (q := fun k => k < w6.heap.size) (fun k hk _ => hk)).turned0 HT10.out; (with_reducible refine (wholeVal B10 hq10 HSQ.out (HEW.out _ HL10.out)).mono ?_); rintro e w11 ⟨u, rfl, hub, hui, T11⟩; have hue := hub.trans (HUW.out _ HL10.out); have T11b := T11.alloc (.cells #[.int .i64 u.kind, .int .i64 u.n, .string u.name, .slice u.at_.1 u.args.length u.at_.2] 27); have hbu := heap_alloc_new w11 (.cells #[.int .i64 u.kind, .int .i64 u.n, .string u.name, .slice u.at_.1 u.args.length u.at_.2] 27); obtain ⟨⟨⟨c0, c1, c2, c3, _⟩, p0, p1, p2, p3, _⟩, x0, x1, x2, x3, _⟩ := HK6.out _ (HT10.out.trans T11b); obtain ⟨u0, u1, u2, u3, _⟩ := cells4 hbu; have HUE := Lib.hid hue; have HUI := Lib.hid ((hui.mono (q := fun _ => True) (fun _ _ _ => trivial)).turned0 ((Turned.refl _ w11).alloc (.cells #[.int .i64 u.kind, .int .i64 u.n, .string u.name, .slice u.at_.1 u.args.length u.at_.2] 27))); have HT11 := Lib.hid T11b; clear B10 hO10 hq10 hub hue hui T11 T11b hbu))
      | (go_at_call 52; (with_reducible refine (sameVal' (p := fun _ => True) (r := true) HUI.out ((HP6.out.turned0 HT10.out).turned0 HT11.out) (good_slimB (by rw [HUE.out]; exact HGP.out)) HSP.out (sameB_eq HUE.out (by rw [HUE.out]; exact HGP.out))).mono ?_); rintro e w12 ⟨rfl, T12⟩; obtain ⟨⟨⟨c0, c1, c2, c3, _⟩, p0, p1, p2, p3, _⟩, x0, x1, x2, x3, _⟩ := HK6.out _ ((HT10.out.trans HT11.out).trans T12); have HT12 := Lib.hid T12; clear T12)
      | (go_at_call 112; (with_reducible refine (couldSelf (((HTT6.out.turned0 HT10.out).turned0 HT11.out).turned0 HT12.out) HST.out HCD.out).mono ?_); rintro e w13 ⟨rfl, T13⟩; have HT13 := Lib.hid T13; clear T13))
    go_ret
    exact ⟨rfl, ((((((HT1.out.trans HS4.out).trans HT6.out).trans HT10.out).trans HT11.out).trans HT12.out).trans HT13.out)⟩
end Go.Proofs.Ytoihjobdfjajfaa

/- How a term, a slice of terms that came in is opened. -/
namespace Go.Proofs.Ytoihjobdfjajfaa
open Go.Joins Go.Deep Go.ChangeShapes Go.WideShapes Go.ChangeAt Go.RowKit
set_option linter.unusedVariables false
set_option linter.unusedSimpArgs false

theorem cellsOf27 : Try.prog.cellsOf 27 = 4 := by kernel_rfl
theorem cellsOf22 : Try.prog.cellsOf 22 = 1 := by kernel_rfl
theorem cellsOf3 : Try.prog.cellsOf 3 = 1 := by kernel_rfl
theorem cellsOf2 : Try.prog.cellsOf 2 = 1 := by kernel_rfl
theorem cellsOf9 : Try.prog.cellsOf 9 = 1 := by kernel_rfl
theorem I64_of {n : Int} (h : (Lit.int .i64 n).wf = true) : I64 n := by
  unfold I64
  simp [Lit.wf] at h
  have e1 : IntKind.i64.min = -9223372036854775808 := by decide
  have e2 : IntKind.i64.max = 9223372036854775807 := by decide
  omega

section
variable {H : Type} {enc : TypeId × Value → H} {W : World} {base : Nat} {sp : Nat → Bool} {held : Bool}
theorem list4 {α : Type} {l : List α} (h : l.length = 4) : ∃ a b c d, l = [a, b, c, d] := by
  match l, h with
  | [a, b, c, d], _ => exact ⟨a, b, c, d, rfl⟩
set_option maxRecDepth 100000 in
theorem terms_of (fuel : Nat) : (∀ cs (x : DataW H × List MemPlace), DataW.trod enc Try.prog W base sp held fuel 27 cs = some x → ∃ t : LT, cs = t.cells ∧ t.In (fun _ => True) W) ∧
    (∀ cs (x : DataW H × List MemPlace), DataW.trod enc Try.prog W base sp held fuel 22 cs = some x → ∃ a cap, ∃ l : List LT, cs = [.slice a l.length cap] ∧ LT.Sl (fun _ => True) W a cap l) := by
  induction fuel with
  | zero => exact ⟨fun cs x h => by simp [DataW.trod] at h, fun cs x h => by simp [DataW.trod] at h⟩
  | succ fuel ih =>
    refine ⟨fun cs x h => ?_, fun cs x h => ?_⟩
    · obtain ⟨xs, n, hn, hx, hcs, hlen, hf⟩ := DataW.trod_struct Try.underlying27 h
      have hn : fuel = n := by omega
      subst hn
      rw [cellsOf27] at hcs
      obtain ⟨u0, u1, u2, u3, rfl⟩ := list4 hcs
      obtain ⟨y0, y1, y2, y3, rfl⟩ := list4 hlen
      · · have f0 : DataW.trod enc Try.prog W base sp held fuel 3 (([u0, u1, u2, u3].drop 0).take (Try.prog.cellsOf 3)) = some y0 := hf 0 _ rfl
          have f1 : DataW.trod enc Try.prog W base sp held fuel 2 (([u0, u1, u2, u3].drop 1).take (Try.prog.cellsOf 2)) = some y1 := hf 1 _ rfl
          have f2 : DataW.trod enc Try.prog W base sp held fuel 9 (([u0, u1, u2, u3].drop 2).take (Try.prog.cellsOf 9)) = some y2 := hf 2 _ rfl
          have f3 : DataW.trod enc Try.prog W base sp held fuel 22 (([u0, u1, u2, u3].drop 3).take (Try.prog.cellsOf 22)) = some y3 := hf 3 _ rfl
          simp only [cellsOf3, cellsOf2, cellsOf9, cellsOf22] at f0 f1 f2 f3
          simp at f0 f1 f2 f3
          obtain ⟨k, e0, _, wk⟩ := DataW.trod_int Try.underlying3 f0
          obtain ⟨m, e1, _, wm⟩ := DataW.trod_int Try.underlying2 f1
          obtain ⟨s, e2, _, ws⟩ := DataW.trod_string Try.underlying9 f2
          obtain ⟨a, cap, l, e3, hl⟩ := ih.2 _ _ f3
          simp at e0 e1 e2 e3
          subst e0 e1 e2 e3
          exact ⟨.mk k m s (a, cap) l, rfl, hl.in_ (I64_of wk) (I64_of wm) ws⟩
    · rcases DataW.trod_slice Try.underlying22 h with ⟨hcs, _⟩ | ⟨ad, len, cap, elems, rest, n, hn, hcs, _, _, hl, hm, hlen, hel, _⟩
      · exact ⟨none, 0, [], hcs, ⟨fun _ => ⟨rfl, rfl⟩, fun h => by simp at h, trivial, Nat.le_refl _, by unfold maxLen; omega⟩⟩
      · have hn : fuel = n := by omega
        subst hn
        rw [cellsOf27] at hel
        have hp : ∀ i, ∃ t : LT, i < len → t.In (fun _ => True) W ∧ ∀ j, j < 4 → W.cell? (ad.add (i * 4 + j)) = t.cells[j]? := by
          intro i
          by_cases hi : i < len
          · have he := hel i hi
            rw [List.getElem?_eq_getElem (by omega)] at he
            obtain ⟨cs', hc, ht⟩ := Option.bind_eq_some_iff.1 he
            obtain ⟨t, rfl, hin⟩ := ih.1 _ _ ht
            obtain ⟨_, _, hat⟩ := World.cells?_some hc
            refine ⟨t, fun _ => ⟨hin, fun j hj => ?_⟩⟩
            rw [← hat j hj]
            congr 1
            exact (add_add ..).symm
          · exact ⟨.mk 0 0 ByteArray.empty (none, 0) [], fun h => absurd h hi⟩
        obtain ⟨f, hff⟩ := Classical.axiomOfChoice hp
        refine ⟨some ad, cap, (List.range len).map f, by simpa using hcs, ⟨(fun e => by cases e), fun hpos => ?_, (LT.ins_iff _).2 fun x hx => ?_, by simpa using hl, hm⟩⟩
        · simp at hpos
          obtain ⟨b, o, spot⟩ := ad
          have hc := (hff 0 (by omega)).2 0 (by omega)
          have hspot : spot = none := by
            rw [LT.cells_eq] at hc
            simpa [Addr.add] using World.cell?_spot hc
          subst hspot
          refine ⟨b, o, rfl, trivial, fun j u hu => ?_⟩
          have hlt := (List.getElem?_eq_some_iff.1 hu).1
          rw [LT.flat_length, List.length_map, List.length_range] at hlt
          have hi : j / 4 < len := by omega
          have hx : ((List.range len).map f)[j / 4]? = some (f (j / 4)) := by rw [List.getElem?_map, List.getElem?_range hi]; rfl
          have h4 := LT.flat_at hx (j % 4) (by omega)
          rw [show j / 4 * 4 + j % 4 = j by omega, hu] at h4
          have hc := (hff (j / 4) hi).2 (j % 4) (by omega)
          rw [show j / 4 * 4 + j % 4 = j by omega, Addr.add_lit] at hc
          rw [hc, h4]
        · obtain ⟨i, hi, rfl⟩ := List.mem_map.1 hx
          exact (hff i (by simpa using hi)).1
theorem slT_of {fuel : Nat} {a : Option Addr} {len cap : Nat} {x : DataW H × List MemPlace} (hf : DataW.trod enc Try.prog W base sp held fuel 22 (Value.slice a len cap).cells.toList = some x) : ∃ l : List LT, l.length = len ∧ LT.Sl (fun _ => True) W a cap l := by
  obtain ⟨a', cap', l, hcs, hl⟩ := (terms_of fuel).2 _ _ hf
  simp [Value.cells] at hcs
  obtain ⟨rfl, rfl, rfl⟩ := hcs
  exact ⟨l, rfl, hl⟩
set_option maxRecDepth 100000 in
theorem tmT_of {fuel : Nat} {r : Reach} {b0 : Nat} {v : Value} {x : DataW H × List MemPlace} (hv : Value.okWide Try.prog W r b0 27 v) (hf : DataW.trod enc Try.prog W base sp held fuel 27 v.cells.toList = some x) : ∃ t : LT, v = t.val ∧ t.In (fun _ => True) W := by
  obtain ⟨cs, rfl, hsz⟩ := okWide_struct Try.underlying27 hv
  obtain ⟨t, hcs, hin⟩ := (terms_of fuel).1 _ _ hf
  refine ⟨t, ?_, hin⟩
  cases t with | mk k n s e bs =>
  simp only [Value.cells] at hcs
  show Value.agg cs = Value.agg _
  congr 1
  exact Array.toList_inj.1 hcs
end
end Go.Proofs.Ytoihjobdfjajfaa
